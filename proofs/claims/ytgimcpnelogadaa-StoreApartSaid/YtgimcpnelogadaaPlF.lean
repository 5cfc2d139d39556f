/- Chapter 5: act, case 7: extents till one. -/
import Derived.Test.YtgimcpnelogadaaPlE
import Derived.Test.YtgimcpnelogadaaStM
import Derived.Test.YtgimcpnelogadaaMemH
namespace Go.Proofs.Ytgimcpnelogadaa.Sto
open Go.RowKit Go.Proofs.Ytgimcpnelogadaa.Mem
set_option linter.unusedVariables false
set_option linter.unusedSimpArgs false
attribute [local go_sem] Oper.semAt_some

/-- act returns true behind a range. -/
theorem act_ret1 {w W' : World} {p q n t D : Nat} {G G' : List Nat} {tmps : Array Value} (hK : W'.heap[D]? = some (.deferred (some []))) (ht : tmps.getD 6 undef = .pointer (some ⟨t, 0, none⟩)) (hB : Blk W' t 4 [.bool true])
    (hp : Pair W' p q G' (n + 1)) (hg : Chg G w W') (hn : ∀ k ∈ G', k ∈ G ∨ w.heap.size ≤ k) (hD : w.heap.size ≤ D) (hDG : D ∉ G') :
    bodyPostM Fence.wide 9 Try.prog Try.f31 (ActPost w p q G n) .ret { tmps := tmps, defers := [{ target := .collected D, args := #[] }] } W' := by
  have hne : t ≠ D := fun e => by
    have := hB.symm.trans (e ▸ hK)
    cases this
  exact ret_marks1C hK (fun w' hw' => results_cell1 rfl ht (by simp [isAgg, run_underlying Try.underlying4]) ((hB.chg hw' (by simpa using hne)).cellAt (i := 0) rfl))
    (fun w' hw' => ⟨rfl, G', hp.chg hw' (fun k hk hm => by simp at hm; exact hDG (hm ▸ hk)), hg.then hw' (fun x hx => by simp at hx; subst hx; exact .inr hD), hn⟩)

set_option maxHeartbeats 8000000 in
set_option maxRecDepth 100000 in
theorem act_till {w : World} {p q n : Nat} {G : List Nat} (h : Pair w p q G n) (hn : n ≤ 1000) (r : ActR) (hr : r.ok) (hw : r.what = 7) :
    Calls Try.prog 31 #[.pointer (some ⟨p, 0, none⟩), .pointer (some ⟨q, 0, none⟩), r.val] w (ActPost w p q G n) := by
  obtain ⟨F, X, lv, most, hP, rfl⟩ := h
  have H := Mem.Aside.mk hP
  have HLT := Mem.Aside.mk hP.lt
  obtain ⟨W, N, I, O, D, V⟩ := r
  have hr' := hr
  obtain ⟨_, hrN, hrI, hrO, hrD, hrV⟩ := hr'
  have HR := Mem.Aside.mk hr
  simp only [ActR.val] at hw hrN hrI hrO hrD hrV ⊢
  subst hw
  clear hP hr
  refine (callsIn_wide (n := 9)).1 ?_
  refine callsIn_of_wp_marks Try.func31 rfl trivial ?_ rfl
  refine wpIn_wide.2 ?_
  simp only [Try.ntmps31, List.size_toArray, List.length_cons, List.length_nil, Nat.reduceAdd, Nat.reduceSub, Array.replicate_succ, Array.replicate_zero, List.push_toArray, List.append_toArray, List.nil_append, List.cons_append]
  go_upto_region 1 with fail
  obtain ⟨b, hb⟩ : ∃ b, b = w.heap.size := ⟨_, rfl⟩
  have hB0 : Blk (((w.alloc (.cells #[.pointer (some ⟨q, 0, none⟩)] 40)).alloc (.cells #[.int .i64 7, .int .i64 N, .int .i64 I, .int .i64 O, .int .i64 D, .int .u64 (V : Int)] 46)).alloc (.cells #[.bool false] 4)) b 40 [.pointer (some ⟨q, 0, none⟩)] := by rw [hb]; exact ((Blk.newL [_] rfl).alloc _).alloc _
  have hB1 : Blk (((w.alloc (.cells #[.pointer (some ⟨q, 0, none⟩)] 40)).alloc (.cells #[.int .i64 7, .int .i64 N, .int .i64 I, .int .i64 O, .int .i64 D, .int .u64 (V : Int)] 46)).alloc (.cells #[.bool false] 4)) (b + 1) 46 [.int .i64 7, .int .i64 N, .int .i64 I, .int .i64 O, .int .i64 D, .int .u64 (V : Int)] := by rw [hb]; exact (Blk.newL [_, _, _, _, _, _] (by simp)).alloc _
  have hB2 : Blk (((w.alloc (.cells #[.pointer (some ⟨q, 0, none⟩)] 40)).alloc (.cells #[.int .i64 7, .int .i64 N, .int .i64 I, .int .i64 O, .int .i64 D, .int .u64 (V : Int)] 46)).alloc (.cells #[.bool false] 4)) (b + 2) 4 [.bool false] := by rw [hb]; exact Blk.newL [_] (by simp)
  have hC0 : Chg [] w (((w.alloc (.cells #[.pointer (some ⟨q, 0, none⟩)] 40)).alloc (.cells #[.int .i64 7, .int .i64 N, .int .i64 I, .int .i64 O, .int .i64 D, .int .u64 (V : Int)] 46)).alloc (.cells #[.bool false] 4)) := (((Chg.refl [] w).alloc _).alloc _).alloc _
  have hsz : b + 3 = (((w.alloc (.cells #[.pointer (some ⟨q, 0, none⟩)] 40)).alloc (.cells #[.int .i64 7, .int .i64 N, .int .i64 I, .int .i64 O, .int .i64 D, .int .u64 (V : Int)] 46)).alloc (.cells #[.bool false] 4)).heap.size := by rw [hb]; simp
  generalize (((w.alloc (.cells #[.pointer (some ⟨q, 0, none⟩)] 40)).alloc (.cells #[.int .i64 7, .int .i64 N, .int .i64 I, .int .i64 O, .int .i64 D, .int .u64 (V : Int)] 46)).alloc (.cells #[.bool false] 4)) = W0 at hB0 hB1 hB2 hC0 hsz ⊢
  simp only [← hb, Nat.add_assoc, Nat.reduceAdd]
  have HB0 := Mem.Aside.mk hB0
  have HB1 := Mem.Aside.mk hB1
  have HB2 := Mem.Aside.mk hB2
  have HC0 := Mem.Aside.mk hC0
  have HSZ := Mem.Aside.mk (And.intro hb hsz)
  have hb0 := hB0.cellAt (i := 0) rfl
  have hb10 := hB1.cellAt (i := 0) rfl
  have hb11 := hB1.cellAt (i := 1) rfl
  have hb12 := hB1.cellAt (i := 2) rfl
  have hb13 := hB1.cellAt (i := 3) rfl
  have hb14 := hB1.cellAt (i := 4) rfl
  have hb15 := hB1.cellAt (i := 5) rfl
  have hb2 := hB2.cellAt (i := 0) rfl
  have hf2 := hB2.frozen 0
  have H0 : Mem.Aside (PairX W0 p q F X lv most n) := ⟨H.out.chg hC0 (by simp)⟩
  have HF : Mem.Aside (∀ k ∈ F ++ rfoot q lv X, k < b) := ⟨fun k hk => by rw [hb]; exact HLT.out k hk⟩
  clear hB0 hB1 hB2 hC0 hsz hb
  obtain ⟨⟨s, hS, hOk, hPe, _⟩, _⟩ := H0.out.holds
  have hlen : s.all.length = X.length := by rw [← pairs_length, hPe.length_eq, List.length_map]
  obtain ⟨rawv, allv, mbs, hA, hFk⟩ := hS
  have hcnt := H0.out.count
  go_upto_region 34 with fail
  go_wp2_with (go_at_call 34; (with_reducible refine (extents_calls p _).mono ?_); rintro e w' ⟨rfl, rfl⟩)
  have hs0 := HSZ.out.2
  obtain ⟨W1, hW1⟩ : ∃ W1, W1 = (W0.alloc (.cells #[.int .i64 0] 3)).alloc (.cells #[.pointer (some ⟨p, 0, none⟩)] 23) := ⟨_, rfl⟩
  have hn0 : Blk W1 (b + 3) 3 [.int .i64 ((0 : Nat) : Int)] := by rw [hW1, hs0]; exact (Blk.newL _ rfl).alloc _
  have hb0' : Blk W1 (b + 4) 23 [.pointer (some ⟨p, 0, none⟩)] := by rw [hW1]; exact Blk.newL _ (by simp; omega)
  have hc0 : Chg [] W0 W1 := by rw [hW1]; exact ((Chg.refl _ _).alloc _).alloc _
  have hs1 : b + 5 = W1.heap.size := by rw [hW1]; simp; omega
  have hA0 := hA.chg hc0 (by simp)
  have HC1 := Mem.Aside.mk hc0
  rw [← hW1, ← hs0]
  simp only [Nat.add_assoc, Nat.reduceAdd]
  have hs0a : W0.heap.size ≤ b + 3 := by omega
  have hs1a : b + 5 ≤ W1.heap.size := by omega
  have hs1b : W1.heap.size ≤ b + 5 := by omega
  have hs1c : W0.heap.size ≤ W1.heap.size := by omega
  clear hW1 hA hOk hPe hFk hc0 hs0 hs1
  refine (wpIn_wide (n := 9)).1 ?_
  generalize hACT : ({ tmps := _, defers := [] } : Act) = A0
  have HACT := Mem.Aside.mk hACT
  have hT8 : A0.eval (.tmp 221) = .func (.func 77) #[] #[.pointer (some ⟨b + 4, 0, none⟩)] := by rw [← hACT]; rfl
  clear hACT
  refine wpIn_rangeFunc_ownH (α := Ext) rfl (by omega) (gf := 77) (lb := #[.pointer (some ⟨b + 4, 0, none⟩)]) hT8 trivial (enters_of Try.func77 (by kernel_rfl) rfl)
    (ext_stops (fun x => x) s.all (9 - 1) (by omega) W1.heap.size (b + 4) p (by simp) W1 (Nat.le_refl _) (hb0'.cellAt rfl) hA0.c1 hA0.all (by omega)) KpE.trans (fun W l o o' _ h1 h2 _ => KpE.put W l o o' h1 h2) (Below.refl _ _) (fun _ => rfl)
    (fun (pre : List Ext) W => Blk W (b + 3) 3 [.int .i64 (pre.length : Int)] ∧ Chg [] W0 W)
    (fun c (pre : List Ext) W => ∃ m : Nat, c = .exit 3 ∧ Blk W (b + 3) 3 [.int .i64 (m : Int)] ∧ (m : Int) = N ∧ 1 ≤ m ∧ Chg [] W0 W)
    ?ownI (fun c => ?ownX) ⟨hn0, HC1.out⟩
    (fun (x : Ext) a' W => a' = { tmps := A0.tmps.setIfInBounds 222 (.agg #[.int .i64 (x.id : Int), .int .i64 (x.at_ : Int), .int .i64 (x.len : Int)]), defers := [] })
    (fun x a' => ?ownA) ?assign ?body ?done ?stop
  case ownI =>
    intro pre X Y row ⟨h1, h5⟩ hg hr
    exact ⟨blk_own (fun (_ : Unit) => _) (fun _ => _) (fun _ => _) () X Y row h1 hg (fun r e => (hr r e).2), chg_own [] W0 (B := W1.heap.size) (by omega) () X Y row h5 hg hr⟩
  case ownX =>
    intro pre X Y row ⟨m, h0, h1, h2, h3, h5⟩ hg hr
    exact ⟨m, h0, blk_own (fun (_ : Unit) => _) (fun _ => _) (fun _ => _) () X Y row h1 hg (fun r e => (hr r e).2), h2, h3, chg_own [] W0 (B := W1.heap.size) (by omega) () X Y row h5 hg hr⟩
  case ownA =>
    intro _ X Y row h hg hr
    exact h
  case assign =>
    rintro l pre x W K hI hK
    gi_wp2
    exact hK _ _ (KeepsFrom.refl _ _) (fun _ _ _ h => h) hI (by simp [encE])
  case body =>
    rintro l pre x a' W hl0 ⟨r, hr0⟩ ⟨h1, h5⟩ rfl hlt
    have e0 := h1.cellAt (i := 0) rfl
    have f0 := h1.frozen 0
    have hlc : pre.length < 1001 := by omega
    have hwp := (IntWalk.i64_in ((pre.length : Int) + 1) (by omega) : IntKind.i64.wrap ((pre.length : Int) + 1) = ((pre.length + 1 : Nat) : Int))
    have n11 := cell_chg h5 hb11 (by simp)
    rw [← HACT.out]
    simp only [List.setIfInBounds_toArray, List.set_cons_succ, List.set_cons_zero]
    have hkeep : KeepsFrom W1.heap.size W (W.setCell ⟨b + 3, 0, none⟩ (.int .i64 ((pre.length : Int) + 1))) := (KeepsOthers.setCell _ _ _).from _
    have hset := h1.set 0 (.int .i64 ((pre.length : Int) + 1))
    have hchg := h5.setCell (p := ⟨b + 3, 0, none⟩) (.inr (by show W0.heap.size ≤ b + 3; omega)) (.int .i64 ((pre.length : Int) + 1))
    have hkp : KpE W1.heap.size W (W.setCell ⟨b + 3, 0, none⟩ (.int .i64 ((pre.length : Int) + 1))) := fun k cs hk hb => by
      refine hb.far (p := ⟨b + 3, 0, none⟩) ?_ _
      show k ≠ b + 3
      omega
    have HALL := Mem.Aside.mk (And.intro hkeep (And.intro hset (And.intro hchg hkp)))
    clear hkeep hset hchg hkp
    by_cases c : (pre.length : Int) + 1 = N
    · have c2 : ((pre.length : Int) + 1 == N) = true := by simpa using c
      have C := Mem.Aside.mk c
      clear c
      gi_wp2
      exact ⟨HALL.out.1, pre.length + 1, rfl, by simpa using HALL.out.2.1, by have := C.out; omega, by omega, HALL.out.2.2.1⟩
    · have c2 : ((pre.length : Int) + 1 == N) = false := by simpa using c
      have C := Mem.Aside.mk c
      clear c
      gi_wp2
      exact ⟨HALL.out.1, HALL.out.2.2.2, by simpa using HALL.out.2.1, HALL.out.2.2.1⟩
  case stop =>
    rintro D c pre W hD hpre ⟨m, rfl, h1, h2, h3, h5⟩ hK
    have e0 := h1.cellAt (i := 0) rfl
    obtain ⟨a, c, rfl⟩ := Row_form H0.out.ref.row
    have r0 := (H0.out.ref.chg h5 (by simp)).c0
    have k0 := cell_chg h5 hb0 (by simp)
    have k11 := cell_chg h5 hb11 (by simp)
    have k2 := cell_chg h5 hb2 (by simp)
    have kf := (HB2.out.chg h5 (by simp)).frozen 0
    obtain ⟨XL, hXL⟩ : ∃ XL, XL = X.length := ⟨_, rfl⟩
    rw [← hXL] at r0
    have hge : (1 : Int) ≤ N := by omega
    have hge1 : decide ((1 : Int) ≤ N) = true := decide_eq_true hge
    have heq : ((m : Int) == N) = true := by simpa using h2
    have HH := Mem.Aside.mk (And.intro h1 (And.intro h5 hK))
    clear h2 h3 h1 h5 hXL hK
    rw [← HACT.out]
    refine wpIn_wide.2 ?_
    by_cases hm : m = XL
    · have hmi : ((m : Int) == (XL : Int)) = true := by simpa using (by omega : (m : Int) = (XL : Int))
      clear hm
      go_upto_region 37 with fail
      refine region_tail 18 (by kernel_rfl) (by kernel_rfl) ?_
      simp only [List.take_succ_cons, List.take_zero, List.drop_succ_cons, List.drop_zero]
      refine StW.out ?_
      iterate 8 (refine still_take (by rfl) (fun K hK => ?_); go_simp; refine hK _ ?_; clear hK K)
      iterate 9 (refine still_skip (by rfl) ?_; simp only [Act.put, List.setIfInBounds_toArray, List.set_cons_succ, List.set_cons_zero])
      iterate 1 (refine still_take (by rfl) (fun K hK => ?_); go_simp; refine hK _ ?_; clear hK K)
      refine still_end ?_
      go_wp2
      have hkB := (HB2.out.chg HH.out.2.1 (by simp))
      have hcW : Chg [] w (W.setCell ⟨b + 2, 0, none⟩ (.bool true)).drew := ((HC0.out.then HH.out.2.1 (by simp)).setCell (p := ⟨b + 2, 0, none⟩) (.inr (by show w.heap.size ≤ b + 2; rw [HSZ.out.1]; omega)) (.bool true)).drew
      have hbw := HSZ.out.1
      have hDK : (W.setCell ⟨b + 2, 0, none⟩ (.bool true)).drew.heap[D]? = some (.deferred (some [])) := ((Chg.refl [b + 2] W).setCell (p := ⟨b + 2, 0, none⟩) (.inl (by simp)) (.bool true)).drew.obj HH.out.2.2 (by simp; omega)
      exact act_ret1 (t := b + 2) hDK rfl ((hkB.set 0 (.bool true)).drew) ⟨_, _, _, _, ((H.out.chg hcW (by simp)).more (Nat.le_succ _)), rfl⟩ (hcW.mono (by simp)) (fun k hk => .inl hk) (by omega) (fun hk => by have := HF.out _ hk; omega)
    · have hmi : ((m : Int) == (XL : Int)) = false := by simpa using (by omega : ¬ (m : Int) = (XL : Int))
      clear hm
      go_upto_region 37 with fail
      refine region_tail 18 (by kernel_rfl) (by kernel_rfl) ?_
      simp only [List.take_succ_cons, List.take_zero, List.drop_succ_cons, List.drop_zero]
      refine StW.out ?_
      iterate 18 (refine still_take (by rfl) (fun K hK => ?_); go_simp; refine hK _ ?_; clear hK K)
      refine still_end ?_
      go_wp2
      have hkB := (HB2.out.chg HH.out.2.1 (by simp))
      have hcW : Chg [] w (W.setCell ⟨b + 2, 0, none⟩ (.bool true)).drew := ((HC0.out.then HH.out.2.1 (by simp)).setCell (p := ⟨b + 2, 0, none⟩) (.inr (by show w.heap.size ≤ b + 2; rw [HSZ.out.1]; omega)) (.bool true)).drew
      have hbw := HSZ.out.1
      have hDK : (W.setCell ⟨b + 2, 0, none⟩ (.bool true)).drew.heap[D]? = some (.deferred (some [])) := ((Chg.refl [b + 2] W).setCell (p := ⟨b + 2, 0, none⟩) (.inl (by simp)) (.bool true)).drew.obj HH.out.2.2 (by simp; omega)
      exact act_ret1 (t := b + 2) hDK rfl ((hkB.set 0 (.bool true)).drew) ⟨_, _, _, _, ((H.out.chg hcW (by simp)).more (Nat.le_succ _)), rfl⟩ (hcW.mono (by simp)) (fun k hk => .inl hk) (by omega) (fun hk => by have := HF.out _ hk; omega)
  case done =>
    rintro D ys W hD rfl ⟨h1, h5⟩ hK
    rw [hlen] at h1
    have e0 := h1.cellAt (i := 0) rfl
    obtain ⟨a, c, rfl⟩ := Row_form H0.out.ref.row
    have r0 := (H0.out.ref.chg h5 (by simp)).c0
    have k0 := cell_chg h5 hb0 (by simp)
    have k11 := cell_chg h5 hb11 (by simp)
    have k2 := cell_chg h5 hb2 (by simp)
    have kf := (HB2.out.chg h5 (by simp)).frozen 0
    obtain ⟨XL, hXL⟩ : ∃ XL, XL = X.length := ⟨_, rfl⟩
    rw [← hXL] at r0 e0
    have hmi : ((XL : Int) == (XL : Int)) = true := by simp
    have HH := Mem.Aside.mk (And.intro h1 (And.intro h5 hK))
    clear h1 h5 hXL hK
    rw [← HACT.out]
    go_upto_region 37 with fail
    refine region_tail 18 (by kernel_rfl) (by kernel_rfl) ?_
    simp only [List.take_succ_cons, List.take_zero, List.drop_succ_cons, List.drop_zero]
    refine StW.out ?_
    iterate 8 (refine still_take (by rfl) (fun K hK => ?_); go_simp; refine hK _ ?_; clear hK K)
    iterate 9 (refine still_skip (by rfl) ?_; simp only [Act.put, List.setIfInBounds_toArray, List.set_cons_succ, List.set_cons_zero])
    iterate 1 (refine still_take (by rfl) (fun K hK => ?_); go_simp; refine hK _ ?_; clear hK K)
    refine still_end ?_
    go_wp2
    have hkB := (HB2.out.chg HH.out.2.1 (by simp))
    have hcW : Chg [] w (W.setCell ⟨b + 2, 0, none⟩ (.bool true)).drew := ((HC0.out.then HH.out.2.1 (by simp)).setCell (p := ⟨b + 2, 0, none⟩) (.inr (by show w.heap.size ≤ b + 2; rw [HSZ.out.1]; omega)) (.bool true)).drew
    have hbw := HSZ.out.1
    have hDK : (W.setCell ⟨b + 2, 0, none⟩ (.bool true)).drew.heap[D]? = some (.deferred (some [])) := ((Chg.refl [b + 2] W).setCell (p := ⟨b + 2, 0, none⟩) (.inl (by simp)) (.bool true)).drew.obj HH.out.2.2 (by simp; omega)
    exact act_ret1 (t := b + 2) hDK rfl ((hkB.set 0 (.bool true)).drew) ⟨_, _, _, _, ((H.out.chg hcW (by simp)).more (Nat.le_succ _)), rfl⟩ (hcW.mono (by simp)) (fun k hk => .inl hk) (by omega) (fun hk => by have := HF.out _ hk; omega)
end Go.Proofs.Ytgimcpnelogadaa.Sto
