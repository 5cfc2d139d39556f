/- Chapter 5: act, case 6: pack. -/
import Derived.Test.YtgimcpnelogadaaPlF
import Derived.Test.YtgimcpnelogadaaPlG
import Derived.Test.YtgimcpnelogadaaPlC
namespace Go.Proofs.Ytgimcpnelogadaa.Sto
open Go.RowKit Go.Proofs.Ytgimcpnelogadaa.Mem
set_option linter.unusedVariables false
set_option linter.unusedSimpArgs false
attribute [local go_sem] Oper.semAt_some

theorem total_le_mul {B : Nat} : ∀ (l : List Ext), (∀ x ∈ l, up x.len ≤ B) → total l ≤ B * l.length
  | [], _ => by simp
  | x :: l, h => by
    have ih := total_le_mul l fun y hy => h y (List.mem_cons_of_mem _ hy)
    have := h x (List.mem_cons_self ..)
    rw [total_cons, List.length_cons, Nat.mul_succ]
    omega

set_option maxHeartbeats 16000000 in
set_option maxRecDepth 100000 in
theorem act_pack {w : World} {p q n : Nat} {G : List Nat} (h : Pair w p q G n) (hn : n ≤ 1000) (r : ActR) (hr : r.ok) (hw : r.what = 6) :
    Calls Try.prog 31 #[.pointer (some ⟨p, 0, none⟩), .pointer (some ⟨q, 0, none⟩), r.val] w (ActPost w p q G n) := by
  obtain ⟨F, X, lv, most, hP, rfl⟩ := h
  have H := Mem.Aside.mk hP
  have HLT := Mem.Aside.mk hP.lt
  obtain ⟨W, N, I, O, D, V⟩ := r
  have hr' := hr
  obtain ⟨_, hrN, hrI, hrO, hrD, hrV⟩ := hr'
  have HR := Mem.Aside.mk hr
  simp only [ActR.val] at hw hrN hrI hrO hrD hrV ⊢
  subst hw
  clear hP hr
  refine (callsIn_wide (n := 9)).1 ?_
  refine callsIn_of_wp_marks Try.func31 rfl trivial ?_ rfl
  refine wpIn_wide.2 ?_
  simp only [Try.ntmps31, List.size_toArray, List.length_cons, List.length_nil, Nat.reduceAdd, Nat.reduceSub, Array.replicate_succ, Array.replicate_zero, List.push_toArray, List.append_toArray, List.nil_append, List.cons_append]
  go_upto_region 1 with fail
  obtain ⟨b, hb⟩ : ∃ b, b = w.heap.size := ⟨_, rfl⟩
  have hB0 : Blk (((w.alloc (.cells #[.pointer (some ⟨q, 0, none⟩)] 40)).alloc (.cells #[.int .i64 6, .int .i64 N, .int .i64 I, .int .i64 O, .int .i64 D, .int .u64 (V : Int)] 46)).alloc (.cells #[.bool false] 4)) b 40 [.pointer (some ⟨q, 0, none⟩)] := by rw [hb]; exact ((Blk.newL [_] rfl).alloc _).alloc _
  have hB1 : Blk (((w.alloc (.cells #[.pointer (some ⟨q, 0, none⟩)] 40)).alloc (.cells #[.int .i64 6, .int .i64 N, .int .i64 I, .int .i64 O, .int .i64 D, .int .u64 (V : Int)] 46)).alloc (.cells #[.bool false] 4)) (b + 1) 46 [.int .i64 6, .int .i64 N, .int .i64 I, .int .i64 O, .int .i64 D, .int .u64 (V : Int)] := by rw [hb]; exact (Blk.newL [_, _, _, _, _, _] (by simp)).alloc _
  have hB2 : Blk (((w.alloc (.cells #[.pointer (some ⟨q, 0, none⟩)] 40)).alloc (.cells #[.int .i64 6, .int .i64 N, .int .i64 I, .int .i64 O, .int .i64 D, .int .u64 (V : Int)] 46)).alloc (.cells #[.bool false] 4)) (b + 2) 4 [.bool false] := by rw [hb]; exact Blk.newL [_] (by simp)
  have hC0 : Chg [] w (((w.alloc (.cells #[.pointer (some ⟨q, 0, none⟩)] 40)).alloc (.cells #[.int .i64 6, .int .i64 N, .int .i64 I, .int .i64 O, .int .i64 D, .int .u64 (V : Int)] 46)).alloc (.cells #[.bool false] 4)) := (((Chg.refl [] w).alloc _).alloc _).alloc _
  have hsz : b + 3 = (((w.alloc (.cells #[.pointer (some ⟨q, 0, none⟩)] 40)).alloc (.cells #[.int .i64 6, .int .i64 N, .int .i64 I, .int .i64 O, .int .i64 D, .int .u64 (V : Int)] 46)).alloc (.cells #[.bool false] 4)).heap.size := by rw [hb]; simp
  generalize (((w.alloc (.cells #[.pointer (some ⟨q, 0, none⟩)] 40)).alloc (.cells #[.int .i64 6, .int .i64 N, .int .i64 I, .int .i64 O, .int .i64 D, .int .u64 (V : Int)] 46)).alloc (.cells #[.bool false] 4)) = W0 at hB0 hB1 hB2 hC0 hsz ⊢
  simp only [← hb, Nat.add_assoc, Nat.reduceAdd]
  have HB0 := Mem.Aside.mk hB0
  have HB1 := Mem.Aside.mk hB1
  have HB2 := Mem.Aside.mk hB2
  have HC0 := Mem.Aside.mk hC0
  have HSZ := Mem.Aside.mk (And.intro hb hsz)
  have hb0 := hB0.cellAt (i := 0) rfl
  have hb10 := hB1.cellAt (i := 0) rfl
  have hb11 := hB1.cellAt (i := 1) rfl
  have hb12 := hB1.cellAt (i := 2) rfl
  have hb13 := hB1.cellAt (i := 3) rfl
  have hb14 := hB1.cellAt (i := 4) rfl
  have hb15 := hB1.cellAt (i := 5) rfl
  have hb2 := hB2.cellAt (i := 0) rfl
  have hf2 := hB2.frozen 0
  have H0 : Mem.Aside (PairX W0 p q F X lv most n) := ⟨H.out.chg hC0 (by simp)⟩
  have HF : Mem.Aside (∀ k ∈ F ++ rfoot q lv X, k < b) := ⟨fun k hk => by rw [hb]; exact HLT.out k hk⟩
  clear hB0 hB1 hB2 hC0 hsz hb
  obtain ⟨⟨s, hS, hOk, hPe, hMo⟩, hIds, hCn, hM⟩ := H0.out.holds
  have hcnt := H0.out.count
  have hmost := H0.out.most
  have hX1 : X.length ≤ 1000 := by omega
  have hsp := hOk.span
  have hOl := hOk.lay
  have hlen : s.all.length = X.length := by rw [← pairs_length, hPe.length_eq, List.length_map]
  have CL1 := Mem.Aside.mk (lies_calls hS hOk hPe hMo H0.out.ref hX1 (by omega) (by omega))
  have HS := Mem.Aside.mk hS
  have HOk := Mem.Aside.mk hOk
  have HPe := Mem.Aside.mk hPe
  have HMo := Mem.Aside.mk (And.intro hMo (And.intro hIds (And.intro hCn (And.intro hM (And.intro hmost hsp)))))
  have HLN := Mem.Aside.mk hlen
  clear hS hOk hPe hMo hIds hCn hM hmost hsp hOl hlen
  go_upto_region 20 with (go_at_call 32; (with_reducible refine CL1.out.mono ?_); rintro e w1 ⟨v1, rfl, hR1, hc1, ho1⟩; obtain ⟨a1, c1, rfl⟩ := Row_form hR1; have HR1 := Mem.Aside.mk hR1; have HC1 := Mem.Aside.mk hc1; have HO1 := Mem.Aside.mk ho1; have b0' := cell_chg hc1 hb0 (by simp); clear hR1 hc1 ho1)
  obtain ⟨XL, hXL⟩ : ∃ XL, XL = s.all.length := ⟨_, rfl⟩
  have hXX : XL = X.length := by rw [hXL, HLN.out]
  have HXL := Mem.Aside.mk (And.intro hXL hXX)
  rw [← hXL] at HR1 HO1 ⊢
  obtain ⟨g, hg⟩ : ∃ g, g = w1.heap.size := ⟨_, rfl⟩
  have hgW : W0.heap.size ≤ g := by rw [hg]; exact HC1.out.size
  have hs0 := HSZ.out.2
  have hgb : b + 3 ≤ g := by omega
  have hB19 : Blk (w1.alloc (.cells #[.slice a1 XL c1] 29)) g 29 [.slice a1 XL c1] := by rw [hg]; exact Blk.newL [_] rfl
  have hR2 := HR1.out.alloc (.cells #[.slice a1 XL c1] 29)
  have hC2 := HC1.out.alloc (.cells #[.slice a1 XL c1] 29)
  generalize w1.alloc (.cells #[.slice a1 XL c1] 29) = W2 at hB19 hR2 hC2 ⊢
  simp only [← hg]
  have HB19 := Mem.Aside.mk hB19
  have HR2 := Mem.Aside.mk hR2
  have HC2 := Mem.Aside.mk hC2
  have HSZ2 : Mem.Aside (b + 3 ≤ g ∧ W0.heap.size ≤ g ∧ b + 3 = W0.heap.size) := ⟨by omega, by omega, hs0⟩
  have hFb : ∀ k ∈ F, k < b := fun k hk => HF.out k (List.mem_append_left _ hk)
  have HFG : Mem.Aside (b ∉ F ∧ b + 1 ∉ F ∧ b + 2 ∉ F ∧ g ∉ F ∧ ∀ k, (Value.slice a1 XL c1).ownBlock = some k → k ∉ F) := ⟨fun h => by have := hFb _ h; omega, fun h => by have := hFb _ h; omega, fun h => by have := hFb _ h; omega, fun h => by have := hFb _ h; omega, fun k hk h => by have := hFb _ h; have := HO1.out k hk; omega⟩
  have CP := Mem.Aside.mk (pack_sto (HS.out.chg hC2 (by simp)) HOk.out HPe.out HMo.out.1 HMo.out.2.1 HMo.out.2.2.1 HMo.out.2.2.2.1)
  have R2 := Mem.Aside.mk (H0.out.ref.chg hC2 (by simp))
  clear hXL hXX hg hgW hgb hB19 hR2 hC2 hFb hs0 HR1 HC1
  go_upto_region 21 with (go_at_call 27; (with_reducible refine CP.out.mono ?_); rintro e w3 ⟨rfl, s', hS3, hOk3, hPe3, hMo3, hU3, hRw3, hPp3, hSo3, hLn3, hc3⟩; have HPE3 := Mem.Aside.mk (And.intro hPe3 hMo3); have HS3 := Mem.Aside.mk hS3; have HOk3 := Mem.Aside.mk hOk3; have HPK := Mem.Aside.mk (And.intro hU3 (And.intro hRw3 (And.intro hPp3 (And.intro hSo3 hLn3)))); have HC3 := Mem.Aside.mk hc3; have R3 := Mem.Aside.mk (R2.out.chg hc3 (fun k hk hm => H0.out.apart k hm hk)); have b0'' := (HB0.out.chg HC2.out (by simp)).chg hc3 HFG.out.1; have b0c := b0''.cellAt (i := 0) rfl; have CL2 := Mem.Aside.mk (lies_calls hS3 hOk3 hPe3 hMo3 R3.out hX1 (by have := hOk3.span; have := HMo.out; omega) (by have := HMo.out; omega)); clear hS3 hOk3 hPe3 hMo3 hU3 hRw3 hPp3 hSo3 hLn3 hc3 b0'')
  go_upto_region 22 with (go_at_call 32; (with_reducible refine CL2.out.mono ?_); rintro e w4 ⟨v2, rfl, hR4, hc4, ho4⟩; obtain ⟨a2, c2, rfl⟩ := Row_form hR4; have HC4 := Mem.Aside.mk hc4; have CSp := Mem.Aside.mk (span_calls (HS3.out.chg hc4 (by simp))); have CU := Mem.Aside.mk (used_calls (HS3.out.chg hc4 (by simp))); have B19 := Mem.Aside.mk ((HB19.out.chg HC3.out HFG.out.2.2.2.1).chg hc4 (by simp)); have b19c := B19.out.cellAt (i := 0) rfl; clear hR4 hc4 ho4)
  have hXL4 : s'.all.length = XL := by rw [HPK.out.2.2.2.2, HXL.out.1]
  have hSU : s'.raw.length = s'.used := by rw [HPK.out.2.1, HOk3.out.used]
  rw [hXL4]
  obtain ⟨SP, hSP⟩ : ∃ SP, SP = s'.used := ⟨_, rfl⟩
  rw [hSU, ← hSP] at CSp
  rw [← hSP] at CU
  have HXL4 := Mem.Aside.mk hXL4
  clear hXL4 hSU hSP
  go_upto_region 26 with (first | (go_at_call 35; (with_reducible refine CSp.out.mono ?_); rintro e w5 ⟨rfl, rfl⟩) | (go_at_call 29; (with_reducible refine CU.out.mono ?_); rintro e w5 ⟨rfl, rfl⟩))
  have hpc := HC4.out
  obtain ⟨h, hh⟩ : ∃ h, h = w4.heap.size := ⟨_, rfl⟩
  have hbg := HSZ2.out
  have hsz34 : w3.heap.size ≤ w4.heap.size := HC4.out.size
  have hsz23 : W2.heap.size ≤ w3.heap.size := HC3.out.size
  have hsz02 : W0.heap.size ≤ W2.heap.size := HC2.out.size
  have hgl := HB19.out.lt
  have hbh : b + 3 ≤ h := by omega
  have hgh : g < h := by omega
  go_wp2_with (go_at_call 34; (with_reducible refine (extents_calls p _).mono ?_); rintro e w' ⟨rfl, rfl⟩)
  obtain ⟨W1, hW1⟩ : ∃ W1, W1 = ((w4.alloc (.cells #[.int .i64 0] 3)).alloc (.cells #[.int .i64 0] 3)).alloc (.cells #[.pointer (some ⟨p, 0, none⟩)] 23) := ⟨_, rfl⟩
  have hn0 : Blk W1 h 3 [.int .i64 ((0 : Nat) : Int)] := by rw [hW1, hh]; exact ((Blk.newL _ rfl).alloc _).alloc _
  have hn1 : Blk W1 (h + 1) 3 [.int .i64 ((0 : Nat) : Int)] := by rw [hW1, hh]; exact (Blk.newL _ (by simp)).alloc _
  have hb0' : Blk W1 (h + 2) 23 [.pointer (some ⟨p, 0, none⟩)] := by rw [hW1, hh]; exact Blk.newL _ (by simp)
  have hc0 : Chg [] w4 W1 := by rw [hW1]; exact (((Chg.refl _ _).alloc _).alloc _).alloc _
  have hs1 : h + 3 = W1.heap.size := by rw [hW1, hh]; simp
  obtain ⟨rawv, allv, mbs, hA, hFk⟩ := HS3.out
  have hA0 := (hA.chg HC4.out (by simp)).chg hc0 (by simp)
  have HC5 := Mem.Aside.mk hc0
  rw [← hW1, ← hh]
  simp only [Nat.add_assoc, Nat.reduceAdd]
  have hs0a : w4.heap.size ≤ h := by omega
  have hs1a : h + 3 ≤ W1.heap.size := by omega
  have hs1b : W1.heap.size ≤ h + 3 := by omega
  have hs1c : w4.heap.size ≤ W1.heap.size := by omega
  have hXl : s'.all.length ≤ 1000 := by rw [HXL4.out, HXL.out.2]; exact hX1
  have ROW4 := Mem.Aside.mk ((HR2.out.chg HC3.out HFG.out.2.2.2.2).chg HC4.out (by simp))
  have HSS := Mem.Aside.mk (And.intro hbg (And.intro hsz34 (And.intro hsz23 hsz02)))
  have HB2H := Mem.Aside.mk (((HB2.out.chg HC2.out (by simp)).chg HC3.out HFG.out.2.2.1).chg HC4.out (by simp))
  have HB0H := Mem.Aside.mk (((HB0.out.chg HC2.out (by simp)).chg HC3.out HFG.out.1).chg HC4.out (by simp))
  clear hW1 hA hFk hc0 hs1 hh hbg hsz34 hsz23 hsz02 hpc hgl b0' b0c
  refine (wpIn_wide (n := 9)).1 ?_
  generalize hACT : ({ tmps := _, defers := [] } : Act) = A0
  have HACT := Mem.Aside.mk hACT
  have hT8 : A0.eval (.tmp 180) = .func (.func 77) #[] #[.pointer (some ⟨h + 2, 0, none⟩)] := by rw [← hACT]; rfl
  clear hACT
  refine wpIn_rangeFunc_ownH (α := { x : Ext // x ∈ s'.all }) rfl (by omega) (gf := 77) (lb := #[.pointer (some ⟨h + 2, 0, none⟩)]) hT8 trivial (enters_of Try.func77 (by kernel_rfl) rfl)
    (ext_stops Subtype.val s'.all.attach (9 - 1) (by omega) W1.heap.size (h + 2) p (List.attach_map_subtype_val s'.all) W1 (Nat.le_refl _) (hb0'.cellAt rfl) hA0.c1 hA0.all (by omega)) KpE.trans (fun W l o o' _ h1 h2 _ => KpE.put W l o o' h1 h2) (Below.refl _ _) (fun _ => rfl)
    (fun (pre : List { x : Ext // x ∈ s'.all }) W => Blk W h 3 [.int .i64 (total pre.unattach : Int)] ∧ Blk W (h + 1) 3 [.int .i64 (pre.length : Int)] ∧ h + 2 < W.heap.size ∧ Chg [] w4 W)
    (fun c (pre : List { x : Ext // x ∈ s'.all }) W => c = .ret ∧ ¬ pre <+: s'.all.attach)
    ?ownI (fun c => ?ownX) ⟨hn0, hn1, by omega, HC5.out⟩
    (fun (x : { x : Ext // x ∈ s'.all }) a' W => ∃ tb, Blk W tb 114 (extV x.1) ∧ h + 3 ≤ tb ∧ a' = { tmps := (A0.tmps.setIfInBounds 181 (.agg #[.int .i64 (x.1.id : Int), .int .i64 (x.1.at_ : Int), .int .i64 (x.1.len : Int)])).setIfInBounds 25 (.pointer (some ⟨tb, 0, none⟩)), defers := [] })
    (fun x a' => ?ownA) ?assign ?body ?done ?stop
  case ownI =>
    intro pre X Y row ⟨h1, h2, h3, h5⟩ hg hr
    exact ⟨blk_own (fun (_ : Unit) => _) (fun _ => _) (fun _ => _) () X Y row h1 hg (fun r e => (hr r e).2), blk_own (fun (_ : Unit) => _) (fun _ => _) (fun _ => _) () X Y row h2 hg (fun r e => (hr r e).2), Nat.lt_of_lt_of_le h3 hg.size, chg_own [] w4 (B := W1.heap.size) (by omega) () X Y row h5 hg hr⟩
  case ownX =>
    intro pre X Y row h0 hg hr
    exact h0
  case ownA =>
    intro _ X Y row ⟨tb, h1, h2⟩ hg hr
    exact ⟨tb, blk_own (fun (_ : Unit) => _) (fun _ => _) (fun _ => _) () X Y row h1 hg (fun r e => (hr r e).2), h2⟩
  case stop =>
    rintro D c pre W hD hpre ⟨_, hn⟩ hK
    exact absurd hpre hn
  case assign =>
    rintro l pre ⟨x, hx⟩ W K ⟨h1, h2, h3, h5⟩ hK
    rw [← HACT.out]
    simp only [Array.zip, List.zipWith_toArray, encE]
    gi_wp2
    exact hK _ _ (((KeepsOthers.alloc W _)).from _) (fun k cs _ hb => hb.alloc _) ⟨h1.alloc _, h2.alloc _, by simp; omega, h5.alloc _⟩ ⟨W.heap.size, Blk.newL (extV x) rfl, h3, by rw [← HACT.out]; rfl⟩
  case body =>
    rintro l pre ⟨x, hx⟩ a' W hl0 ⟨r, hr0⟩ ⟨h1, h2, h3, h5⟩ ⟨tb, htb, htb8, rfl⟩ hlt
    have HH := Mem.Aside.mk (And.intro h1 (And.intro h2 (And.intro h3 h5)))
    have HTB := Mem.Aside.mk htb
    rw [List.length_attach] at hlt
    have hk : pre.unattach.length < s.all.length := by rw [List.length_unattach, ← HPK.out.2.2.2.2]; exact hlt
    have hpl : pre.unattach.length = pre.length := List.length_unattach
    obtain ⟨KID, hKID⟩ : ∃ KID, KID = (s.all[pre.unattach.length]'hk).id := ⟨_, rfl⟩
    obtain ⟨KL, hKL⟩ : ∃ KL, KL = (s.all[pre.unattach.length]'hk).len := ⟨_, rfl⟩
    have HST : Mem.Aside (0 < x.len → (x.at_ ≠ total pre.unattach ∨ (x.id ≠ KID ∧ KL ≠ 0)) → ¬ pre ++ [⟨x, hx⟩] <+: s'.all.attach) := ⟨fun hx0 hor hp => by
      have hp' := hp.map Subtype.val
      rw [List.map_append, List.attach_map_subtype_val] at hp'
      obtain ⟨suf, hs⟩ := hp'
      have hs' : pre.unattach ++ x :: suf = s'.all := by
        have e := hs
        simp only [List.map_cons, List.map_nil, List.append_assoc, List.singleton_append] at e
        exact e
      have L3 := HOk3.out.lay
      rw [HPK.out.2.1] at L3
      rcases hor with h | ⟨h, h'⟩
      · exact h (packed_at (pre := pre.unattach) (suf := suf) (by rw [hs']; exact L3) hx0)
      · have hkN : pre.unattach.length < s'.all.length := by rw [hpl]; exact hlt
        have hNk : s'.all[pre.unattach.length]'hkN = x := by
          have := congrArg (fun l => l[pre.unattach.length]?) hs'
          simp only [List.getElem?_append_right (Nat.le_refl _), Nat.sub_self, List.getElem?_cons_zero, List.getElem?_eq_getElem hkN] at this
          exact (Option.some.inj this).symm
        have := packed_id HOk.out.lay HPK.out.2.2.1 HPK.out.2.2.2.1 hkN hk (by rw [hNk]; exact hx0) (by omega)
        rw [hNk, ← hKID] at this
        exact h this⟩
    have hmem : (KID, s.bytes (s.all[pre.unattach.length]'hk)) ∈ X.map RX.pair := by
      rw [hKID]
      exact HPe.out.mem_iff.1 (List.mem_map_of_mem (f := fun x => (x.id, s.bytes x)) (List.getElem_mem hk))
    obtain ⟨y, hy, ey⟩ := List.mem_map.1 hmem
    obtain ⟨j, hj, rfl⟩ := List.getElem_of_mem hy
    have ej1 : X[j].id = KID := congrArg Prod.fst ey
    have ej2 : X[j].bs.length = KL := by
      have := congrArg (fun z => z.2.length) ey
      simp only [RX.pair] at this
      rw [this, bytes_length HOk.out (List.getElem_mem hk), hKL]
    have CZ := Mem.Aside.mk (fun (W9 : World) (hc : Chg [] w4 W9) => zero_calls ((R3.out.chg HC4.out (by simp)).chg hc (by simp)) hj (H0.out.ref.mem hj).2)
    rw [ej1, ej2] at CZ
    obtain ⟨ag, cg, hag, hcg⟩ := row_get1 (ROW4.out.chg h5 (by simp)) (i := pre.unattach.length) (u := .int .i64 (KID : Int)) (by rw [hKID]; unfold intsV; rw [List.getElem?_map, List.getElem?_map, List.getElem?_eq_getElem hk]; rfl)
    cases hag
    have hin := HOk3.out.lay.inside x hx
    have hsp := HOk3.out.span
    have hm3 := HPE3.out.2
    have hmm := HMo.out.2.2.2.1
    have hup := up_ge x.len
    have htot : total pre.unattach ≤ 1000 * 300000000000 := by
      have := total_le_mul (B := 300000000000) pre.unattach (fun z hz => by
        obtain ⟨hz', _⟩ := List.mem_unattach.1 hz
        have := HOk3.out.lay.inside z hz'
        omega)
      have hk2 : pre.unattach.length ≤ 1000 := by omega
      exact Nat.le_trans this (by rw [Nat.mul_comm]; exact Nat.mul_le_mul hk2 (Nat.le_refl _))
    obtain ⟨XI, hXI⟩ : ∃ XI, XI = x.id := ⟨_, rfl⟩
    obtain ⟨XA, hXA⟩ : ∃ XA, XA = x.at_ := ⟨_, rfl⟩
    obtain ⟨XN, hXN⟩ : ∃ XN, XN = x.len := ⟨_, rfl⟩
    obtain ⟨T, hT⟩ : ∃ T, T = total pre.unattach := ⟨_, rfl⟩
    obtain ⟨K, hK⟩ : ∃ K, K = pre.length := ⟨_, rfl⟩
    rw [hpl, ← hK] at hcg
    rw [← hT] at htot h1 HST
    rw [← hK] at h2 hlt
    rw [← hXI] at HST
    rw [← hXA, ← hXN] at HST hin
    rw [← hXN] at hup
    have x0 := htb.cellAt (i := 0) rfl
    have x1 := htb.cellAt (i := 1) rfl
    have x2 := htb.cellAt (i := 2) rfl
    rw [← hXI] at x0
    rw [← hXA] at x1
    rw [← hXN] at x2
    have y0 := h1.cellAt (i := 0) rfl
    have y1' := h2.cellAt (i := 0) rfl
    have yf0 := h1.frozen 0
    have yf1 := h2.frozen 0
    have k19 := cell_chg h5 b19c (by simp)
    have kb0 := (HB0H.out.chg h5 (by simp)).cellAt (i := 0) rfl
    have kb2 := (HB2H.out.chg h5 (by simp)).cellAt (i := 0) rfl
    have kf2 := (HB2H.out.chg h5 (by simp)).frozen 0
    have hw1 : IntKind.i64.wrap ((XN : Int) + 7) = (XN : Int) + 7 := IntWalk.i64_in _ (by omega)
    have hupN : up XN ≤ 300000000000 := by omega
    have hsum : (T : Int) + ((XN : Int) + 7) / 8 * 8 = ((T + up XN : Nat) : Int) := by unfold up; omega
    have hw2 : IntKind.i64.wrap (((XN : Int) + 7) / 8 * 8) = ((XN : Int) + 7) / 8 * 8 := IntWalk.i64_in _ (by omega)
    have hw3 : IntKind.i64.wrap ((T : Int) + ((XN : Int) + 7) / 8 * 8) = ((T + up XN : Nat) : Int) := by rw [hsum]; exact IntWalk.i64_in _ (by omega)
    have hw4 : IntKind.i64.wrap ((K : Int) + 1) = ((K + 1 : Nat) : Int) := IntWalk.i64_in _ (by omega)
    have hKX : (K : Int) < (XL : Int) := by have := HXL4.out; omega
    have HNORM : Mem.Aside (∀ W9, Chg [] W W9 → ownPostG W1.heap.size (KpE W1.heap.size) (fun (pre : List { x : Ext // x ∈ s'.all }) W => Blk W h 3 [.int .i64 (total pre.unattach : Int)] ∧ Blk W (h + 1) 3 [.int .i64 (pre.length : Int)] ∧ h + 2 < W.heap.size ∧ Chg [] w4 W) (fun c (pre : List { x : Ext // x ∈ s'.all }) W => c = .ret ∧ ¬ pre <+: s'.all.attach) (pre ++ [(⟨x, hx⟩ : { x : Ext // x ∈ s'.all })]) W .normal { tmps := #[], defers := [] } ((W9.setCell ⟨h, 0, none⟩ (.int .i64 ((T : Int) + ((up XN : Nat) : Int)))).setCell ⟨h + 1, 0, none⟩ (.int .i64 ((K : Int) + 1)))) := ⟨by
      intro W9 hc9
      refine ⟨((chg_keeps hc9).trans ((KeepsOthers.setCell W9 _ _).trans (KeepsOthers.setCell _ _ _))).from _, fun k cs hk hb => (((hb.chg hc9 (by simp)).far (p := ⟨h, 0, none⟩) (by show k ≠ h; omega) _).far (p := ⟨h + 1, 0, none⟩) (by show k ≠ h + 1; omega) _), ?_, ?_, ?_, ?_⟩
      · have e : (pre ++ [(⟨x, hx⟩ : { x : Ext // x ∈ s'.all })]).unattach = pre.unattach ++ [x] := by simp
        rw [e, total_append, total_cons, total_nil, Nat.add_zero, ← hT, ← hXN]
        exact (((h1.chg hc9 (by simp)).set 0 _).far (p := ⟨h + 1, 0, none⟩) (by show h ≠ h + 1; omega) _)
      · rw [List.length_append, List.length_cons, List.length_nil, ← hK]
        exact (((h2.chg hc9 (by simp)).far (p := ⟨h, 0, none⟩) (by show h + 1 ≠ h; omega) _).set 0 _)
      · have := hc9.size
        have : h + 2 < W9.heap.size := by omega
        simpa [World.setCell] using this
      · exact (((h5.then hc9 (by simp)).setCell (p := ⟨h, 0, none⟩) (.inr (by show w4.heap.size ≤ h; omega)) _).setCell (p := ⟨h + 1, 0, none⟩) (.inr (by show w4.heap.size ≤ h + 1; omega)) _)⟩
    have HEXIT : Mem.Aside (∀ W9, Chg [] W W9 → KeepsFrom W1.heap.size W (W9.setCell ⟨b + 2, 0, none⟩ (.bool false))) := ⟨fun W9 hc9 => ((chg_keeps hc9).trans (KeepsOthers.setCell W9 _ _)).from _⟩
    have hXX := Mem.Aside.mk (And.intro hXI (And.intro hXA (And.intro hXN (And.intro hT hK))))
    have hA1 : (XA : Int) ≤ 300000000000 := by omega
    have hn1 : tb ≠ h := by omega
    have hn2 : tb ≠ h + 1 := by omega
    have hn3 : h ≠ tb := by omega
    have hn4 : h + 1 ≠ tb := by omega
    clear hXI hXA hXN hT hK h1 h2 h3 htb hlt hk hpl hKID hKL hmem hy ey ej1 ej2 hin hsp hm3 hmm hup hr0 hl0
    rw [← HACT.out]
    simp only [List.setIfInBounds_toArray, List.set_cons_succ, List.set_cons_zero, ← hXX.out.1, ← hXX.out.2.1, ← hXX.out.2.2.1]
    by_cases z : XN = 0
    · have z1 : decide ((0 : Int) < (XN : Int)) = false := decide_eq_false (by omega)
      have z2 : decide (0 < XN) = false := decide_eq_false (by omega)
      have HZ := Mem.Aside.mk z
      clear z
      gi_upto_region 28 with fail
      refine region_tailIn 26 (by kernel_rfl) (by kernel_rfl) (by kernel_rfl) ?_
      simp only [List.take_succ_cons, List.take_zero, List.drop_succ_cons, List.drop_zero]
      refine StW.out ?_
      iterate 4 (refine still_take (by rfl) (fun K hK => ?_); go_simp; refine hK _ ?_; clear hK K)
      iterate 22 (refine still_skip (by rfl) ?_; simp only [Act.put, List.setIfInBounds_toArray, List.set_cons_succ, List.set_cons_zero])
      refine still_end ?_
      gi_wp2
      exact HNORM.out W.drew ((Chg.refl [] W).drew)
    · have z1 : decide ((0 : Int) < (XN : Int)) = true := decide_eq_true (by omega)
      have z2 : decide (0 < XN) = true := decide_eq_true (by omega)
      have z3 : (0 : Int) < (XN : Int) := by omega
      have z4 : 0 < XN := by omega
      clear z
      by_cases y : XA = T
      · have e1 : ((XA : Int) != (T : Int)) = false := by simpa using (by omega : (XA : Int) = (T : Int))
        have HY := Mem.Aside.mk y
        clear y
        by_cases v : XI = KID
        · have v1 : ((XI : Int) != (KID : Int)) = false := by simpa using (by omega : (XI : Int) = (KID : Int))
          have HV := Mem.Aside.mk v
          clear v
          gi_upto_region 28 with fail
          refine region_tailIn 26 (by kernel_rfl) (by kernel_rfl) (by kernel_rfl) ?_
          simp only [List.take_succ_cons, List.take_zero, List.drop_succ_cons, List.drop_zero]
          refine StW.out ?_
          iterate 17 (refine still_take (by rfl) (fun K hK => ?_); go_simp; refine hK _ ?_; clear hK K)
          iterate 7 (refine still_skip (by rfl) ?_; simp only [Act.put, List.setIfInBounds_toArray, List.set_cons_succ, List.set_cons_zero])
          iterate 2 (refine still_take (by rfl) (fun K hK => ?_); go_simp; refine hK _ ?_; clear hK K)
          refine still_end ?_
          gi_wp2
          exact HNORM.out W.drew ((Chg.refl [] W).drew)
        · have v1 : ((XI : Int) != (KID : Int)) = true := by simpa using (by omega : ¬ (XI : Int) = (KID : Int))
          have HV := Mem.Aside.mk v
          clear v
          by_cases u : KL = 0
          · have u1 : decide (KL = 0) = true := decide_eq_true u
            rw [u1] at CZ
            have HU := Mem.Aside.mk u
            clear u u1
            gi_upto_region 28 with fail
            refine region_tailIn 22 (by kernel_rfl) (by kernel_rfl) (by kernel_rfl) ?_
            simp only [List.take_succ_cons, List.take_zero, List.drop_succ_cons, List.drop_zero]
            refine StW.out ?_
            iterate 22 (refine still_take (by rfl) (fun K hK => ?_); go_simp; refine hK _ ?_; clear hK K)
            refine still_end ?_
            have y0d := y0
            gi_wp2_with (refine ⟨trivial, ?_⟩; gi_at_call 75; refine (callsIn_wide.2 (CZ.out _ HH.out.2.2.2.drew)).mono ?_; rintro e w9 ⟨rfl, hc9⟩; have hc10 := (Chg.refl [] W).drew.trans hc9; have HC9 := Mem.Aside.mk hc10; have y0e := cell_chg hc10 y0d (by simp); have y1e := cell_chg hc10 y1' (by simp); have x2e := cell_chg hc10 x2 (by simp); have yf0e := (HH.out.1.chg hc10 (by simp)).frozen 0; have yf1e := (HH.out.2.1.chg hc10 (by simp)).frozen 0; have kb2e := cell_chg hc10 kb2 (by simp); have kf2e := ((HB2H.out.chg HH.out.2.2.2 (by simp)).chg hc10 (by simp)).frozen 0; clear hc9 hc10)
            exact HNORM.out w9 HC9.out
          · have u1 : decide (KL = 0) = false := decide_eq_false u
            rw [u1] at CZ
            have HU := Mem.Aside.mk u
            clear u u1
            gi_upto_region 28 with fail
            refine region_tailIn 22 (by kernel_rfl) (by kernel_rfl) (by kernel_rfl) ?_
            simp only [List.take_succ_cons, List.take_zero, List.drop_succ_cons, List.drop_zero]
            refine StW.out ?_
            iterate 22 (refine still_take (by rfl) (fun K hK => ?_); go_simp; refine hK _ ?_; clear hK K)
            refine still_end ?_
            have y0d := y0
            gi_wp2_with (refine ⟨trivial, ?_⟩; gi_at_call 75; refine (callsIn_wide.2 (CZ.out _ HH.out.2.2.2.drew)).mono ?_; rintro e w9 ⟨rfl, hc9⟩; have hc10 := (Chg.refl [] W).drew.trans hc9; have HC9 := Mem.Aside.mk hc10; have y0e := cell_chg hc10 y0d (by simp); have y1e := cell_chg hc10 y1' (by simp); have x2e := cell_chg hc10 x2 (by simp); have yf0e := (HH.out.1.chg hc10 (by simp)).frozen 0; have yf1e := (HH.out.2.1.chg hc10 (by simp)).frozen 0; have kb2e := cell_chg hc10 kb2 (by simp); have kf2e := ((HB2H.out.chg HH.out.2.2.2 (by simp)).chg hc10 (by simp)).frozen 0; clear hc9 hc10)
            exact ⟨HEXIT.out w9 HC9.out, rfl, HST.out z4 (.inr ⟨HV.out, HU.out⟩)⟩
      · have e1 : ((XA : Int) != (T : Int)) = true := by simpa using (by omega : ¬ (XA : Int) = (T : Int))
        have HY := Mem.Aside.mk y
        clear y
        gi_upto_region 28 with fail
        refine region_tailIn 26 (by kernel_rfl) (by kernel_rfl) (by kernel_rfl) ?_
        simp only [List.take_succ_cons, List.take_zero, List.drop_succ_cons, List.drop_zero]
        refine StW.out ?_
        iterate 9 (refine still_take (by rfl) (fun K hK => ?_); go_simp; refine hK _ ?_; clear hK K)
        iterate 16 (refine still_skip (by rfl) ?_; simp only [Act.put, List.setIfInBounds_toArray, List.set_cons_succ, List.set_cons_zero])
        iterate 1 (refine still_take (by rfl) (fun K hK => ?_); go_simp; refine hK _ ?_; clear hK K)
        refine still_end ?_
        gi_wp2
        exact ⟨HEXIT.out W.drew ((Chg.refl [] W).drew), rfl, HST.out z4 (.inl HY.out)⟩
  case done =>
    rintro D ys W hD rfl ⟨h1, h2, h3, h5⟩ hK
    have kb2 := (HB2H.out.chg h5 (by simp)).cellAt (i := 0) rfl
    have kf2 := (HB2H.out.chg h5 (by simp)).frozen 0
    have HH := Mem.Aside.mk (And.intro h3 (And.intro h5 hK))
    clear h1 h2 h3 h5 hK
    rw [← HACT.out]
    go_wp2
    have h5 := HH.out.2.1
    have hss := HSS.out
    have hcF : Chg [b + 2] W (W.setCell ⟨b + 2, 0, none⟩ (.bool true)) := (Chg.refl _ W).setCell (p := ⟨b + 2, 0, none⟩) (.inl (by simp)) _
    have hB := (HB2H.out.chg h5 (by simp)).set 0 (.bool true)
    have hDK := hcF.obj HH.out.2.2 (by simp; omega)
    have hne : ∀ k ∈ F ++ rfoot q lv X, k ∉ [b + 2] := fun k hk hm => by have := HF.out k hk; simp at hm; omega
    have hP : PairX W p q F X lv most n := ⟨⟨⟨s', (HS3.out.chg HC4.out (by simp)).chg h5 (by simp), HOk3.out, HPE3.out.1, HPE3.out.2⟩, HMo.out.2.1, HMo.out.2.2.1, HMo.out.2.2.2.1⟩, (R3.out.chg HC4.out (by simp)).chg h5 (by simp), H0.out.apart, H0.out.count, H0.out.most⟩
    have hbw := HSZ.out.1
    have hcA : Chg (F ++ rfoot q lv X) w W2 := (HC0.out.then HC2.out (by simp)).mono (by simp)
    have hcB := ((hcA.then HC3.out (fun x hx => .inl (List.mem_append_left _ hx))).then HC4.out (by simp)).then h5 (by simp)
    generalize W.setCell ⟨b + 2, 0, none⟩ (.bool true) = Wf at hcF hB hDK ⊢
    exact act_ret1 (t := b + 2) hDK rfl hB ⟨_, _, _, _, (hP.chg hcF hne).more (Nat.le_succ _), rfl⟩ (hcB.then hcF (fun x hx => by simp at hx; subst hx; exact .inr (by omega))) (fun k hk => .inl hk) (by omega) (fun hk => by have := HF.out _ hk; omega)
end Go.Proofs.Ytgimcpnelogadaa.Sto
