/- Chapter 5: lies. -/
import Derived.Test.YtgimcpnelogadaaPlN
import Derived.Test.YtgimcpnelogadaaPlD
import Derived.Test.YtgimcpnelogadaaMemI
namespace Go.Proofs.Ytgimcpnelogadaa.Sto
open Go.RowKit Go.Proofs.Ytgimcpnelogadaa.Mem
set_option linter.unusedVariables false
set_option linter.unusedSimpArgs false
attribute [local go_sem] Oper.semAt_some

set_option maxHeartbeats 8000000 in
set_option maxRecDepth 100000 in
theorem lies_calls {w : World} {p q most : Nat} {F : List Nat} {s : St} {X : List RX} {lv : Value} (h : Sto w p s F) (ho : Ok s) (hp : s.pairs.Perm (X.map RX.pair)) (hm : s.most ≤ most) (hr : RefAt w q X lv most) (hX : X.length ≤ 1000) (hraw : s.raw.length ≤ 1000000000000) (hmost : most ≤ 1000000000000) :
    Calls Try.prog 32 #[.pointer (some ⟨p, 0, none⟩), .pointer (some ⟨q, 0, none⟩)] w fun e w' => ∃ v, e = .returned (.tuple #[v, .bool true]) ∧ Row w' 3 1 v s.all.length (intsV (s.all.map fun x => (x.id : Int))) ∧ Chg [] w w' ∧ ∀ g, v.ownBlock = some g → w.heap.size ≤ g := by
  have HS := Mem.Aside.mk h
  have HO := Mem.Aside.mk ho
  have HP := Mem.Aside.mk hp
  have HR := Mem.Aside.mk hr
  have HX := Mem.Aside.mk hX
  have HRW := Mem.Aside.mk hraw
  have HMO := Mem.Aside.mk (And.intro hm hmost)
  obtain ⟨a, c, rfl⟩ := Row_form hr.row
  clear h ho hp hm hr hX hraw hmost
  refine (callsIn_wide (n := 9)).1 ?_
  refine callsIn_of_wp_marks Try.func32 rfl trivial ?_ rfl
  refine wpIn_wide.2 ?_
  simp only [Try.ntmps32, List.size_toArray, List.length_cons, List.length_nil, Nat.reduceAdd, Nat.reduceSub, Array.replicate_succ, Array.replicate_zero, List.push_toArray, List.append_toArray, List.nil_append, List.cons_append]
  have hEQ := fun (w : World) (fn : Fn) (fi ca : Array Value) => eqSeq_nil w fn fi ca
  go_wp2_with (go_at_call 34; (with_reducible refine (extents_calls p _).mono ?_); rintro e w' ⟨rfl, rfl⟩)
  clear hEQ
  obtain ⟨b, hb⟩ : ∃ b, b = w.heap.size := ⟨_, rfl⟩
  have l0 : LieI w b p q [] ((((((((w.alloc (.cells #[.pointer (some ⟨p, 0, none⟩)] 23)).alloc (.cells #[.pointer (some ⟨q, 0, none⟩)] 40)).alloc (.cells #[.slice none 0 0] 29)).alloc (.cells #[.bool false] 4)).alloc (.cells #[.slice none 0 0] 29)).alloc (.cells #[.int .i64 0] 3)).alloc (.cells #[.int .i64 0, .int .i64 (-1), .int .i64 0] 114)).alloc (.cells #[.pointer (some ⟨p, 0, none⟩)] 23)) := by
    rw [hb]
    refine ⟨?_, ?_, ?_, ?_, ⟨.slice none 0 0, ?_, Row.nil _ _ _, fun g hg => by cases hg⟩, ?_, ?_, ((((((((Chg.refl [] w).alloc _).alloc _).alloc _).alloc _).alloc _).alloc _).alloc _).alloc _, by simp⟩
    · exact (((((((Blk.newL [_] rfl).alloc _).alloc _).alloc _).alloc _).alloc _).alloc _).alloc _
    · exact ((((((Blk.newL [_] (by simp)).alloc _).alloc _).alloc _).alloc _).alloc _).alloc _
    · exact (((((Blk.newL [_] (by simp)).alloc _).alloc _).alloc _).alloc _).alloc _
    · exact ((((Blk.newL [_] (by simp)).alloc _).alloc _).alloc _).alloc _
    · exact (((Blk.newL [_] (by simp)).alloc _).alloc _).alloc _
    · exact ((Blk.newL [_] (by simp)).alloc _).alloc _
    · exact (Blk.newL [_, _, _] (by simp)).alloc _
  have l1 : Blk ((((((((w.alloc (.cells #[.pointer (some ⟨p, 0, none⟩)] 23)).alloc (.cells #[.pointer (some ⟨q, 0, none⟩)] 40)).alloc (.cells #[.slice none 0 0] 29)).alloc (.cells #[.bool false] 4)).alloc (.cells #[.slice none 0 0] 29)).alloc (.cells #[.int .i64 0] 3)).alloc (.cells #[.int .i64 0, .int .i64 (-1), .int .i64 0] 114)).alloc (.cells #[.pointer (some ⟨p, 0, none⟩)] 23)) (b + 7) 23 [.pointer (some ⟨p, 0, none⟩)] := by
    rw [hb]; exact Blk.newL [_] (by simp)
  have l2 : b + 7 < ((((((((w.alloc (.cells #[.pointer (some ⟨p, 0, none⟩)] 23)).alloc (.cells #[.pointer (some ⟨q, 0, none⟩)] 40)).alloc (.cells #[.slice none 0 0] 29)).alloc (.cells #[.bool false] 4)).alloc (.cells #[.slice none 0 0] 29)).alloc (.cells #[.int .i64 0] 3)).alloc (.cells #[.int .i64 0, .int .i64 (-1), .int .i64 0] 114)).alloc (.cells #[.pointer (some ⟨p, 0, none⟩)] 23)).heap.size := by rw [hb]; simp
  generalize ((((((((w.alloc (.cells #[.pointer (some ⟨p, 0, none⟩)] 23)).alloc (.cells #[.pointer (some ⟨q, 0, none⟩)] 40)).alloc (.cells #[.slice none 0 0] 29)).alloc (.cells #[.bool false] 4)).alloc (.cells #[.slice none 0 0] 29)).alloc (.cells #[.int .i64 0] 3)).alloc (.cells #[.int .i64 0, .int .i64 (-1), .int .i64 0] 114)).alloc (.cells #[.pointer (some ⟨p, 0, none⟩)] 23)) = W0 at l0 l1 l2 ⊢
  simp only [← hb, Nat.add_assoc, Nat.reduceAdd]
  have hbw : w.heap.size ≤ b := by omega
  clear hb
  refine (wpIn_wide (n := 9)).1 ?_
  generalize hACT : ({ tmps := _, defers := [] } : Act) = A0
  have HACT := Mem.Aside.mk hACT
  have hT8 : A0.eval (.tmp 18) = .func (.func 77) #[] #[.pointer (some ⟨b + 7, 0, none⟩)] := by rw [← hACT]; rfl
  clear hACT
  obtain ⟨rawv, allv, mbs, hA, hFk⟩ := HS.out
  have hA0 := hA.chg l0.chg (by simp)
  have hall : s.all.length = X.length := by rw [← pairs_length, HP.out.length_eq, List.length_map]
  have HAL := Mem.Aside.mk hall
  have HFX : Mem.Aside (∀ x ∈ s.all, ∃ i, ∃ hi : i < X.length, X[i].id = x.id ∧ X[i].bs.length = x.len) := ⟨fun x hx => by
    have h1 : (x.id, s.bytes x) ∈ X.map RX.pair := HP.out.mem_iff.1 (List.mem_map_of_mem hx)
    obtain ⟨y, hy, e⟩ := List.mem_map.1 h1
    obtain ⟨i, hi, rfl⟩ := List.getElem_of_mem hy
    exact ⟨i, hi, congrArg Prod.fst e, by have := congrArg (fun z => z.2.length) e; simp only [RX.pair] at this; rw [this, bytes_length HO.out hx]⟩⟩
  clear hA hFk
  refine wpIn_rangeFunc_ownH (α := { x : Ext // x ∈ s.all }) rfl (by omega) (gf := 77) (lb := #[.pointer (some ⟨b + 7, 0, none⟩)]) hT8 trivial (enters_of Try.func77 (by kernel_rfl) rfl)
    (ext_stops Subtype.val s.all.attach (9 - 1) (by omega) W0.heap.size (b + 7) p (List.attach_map_subtype_val s.all) W0 (Nat.le_refl _) (l1.cellAt rfl) hA0.c1 hA0.all (by rw [hall]; have := HX.out; omega)) KpE.trans (fun W l o o' _ h1 h2 _ => KpE.put W l o o' h1 h2) (Below.refl _ _) (fun _ => rfl)
    (fun (pre : List { x : Ext // x ∈ s.all }) W => LieI w b p q pre.unattach W)
    (fun c (pre : List { x : Ext // x ∈ s.all }) W => c = .ret ∧ ¬ pre <+: s.all.attach)
    ?ownI (fun c => ?ownX) l0
    (fun (x : { x : Ext // x ∈ s.all }) a' W => ∃ tb, Blk W tb 114 (extV x.1) ∧ b + 8 ≤ tb ∧ a' = { tmps := (A0.tmps.setIfInBounds 19 (.agg #[.int .i64 (x.1.id : Int), .int .i64 (x.1.at_ : Int), .int .i64 (x.1.len : Int)])).setIfInBounds 10 (.pointer (some ⟨tb, 0, none⟩)), defers := [] })
    (fun x a' => ?ownA) ?assign ?body ?done ?stop
  case ownI => exact LieI.own (fun (pre : List { x : Ext // x ∈ s.all }) => pre.unattach) (by omega)
  case ownX => intro pre X Y row h hg hr; exact h
  case ownA =>
    intro _ X Y row ⟨tb, h1, h2⟩ hg hr
    exact ⟨tb, blk_own (fun (_ : Unit) => _) (fun _ => _) (fun _ => _) () X Y row h1 hg (fun r e => (hr r e).2), h2⟩
  case stop =>
    rintro D c pre W hD hpre ⟨_, hn⟩ hK
    exact absurd hpre hn
  case assign =>
    rintro l pre ⟨x, hx⟩ W K hI hK
    rw [← HACT.out]
    simp only [Array.zip, List.zipWith_toArray, encE]
    gi_wp2
    exact hK _ _ (((KeepsOthers.alloc W _)).from _) (fun k cs _ hb => hb.alloc _) (hI.next ((Chg.refl _ _).alloc _)) ⟨W.heap.size, Blk.newL (extV x) rfl, hI.top, by rw [← HACT.out]; rfl⟩
  case body =>
    rintro l pre ⟨x, hx⟩ a' W hl0 ⟨r, hr0⟩ hI ⟨tb, htb, htb8, rfl⟩ hlt
    have HI := Mem.Aside.mk hI
    have HTB := Mem.Aside.mk htb
    have HPRE : Mem.Aside (pre ++ [⟨x, hx⟩] <+: s.all.attach → (pre.unattach ++ [x]).Pairwise Ext.lt ∧ (pre.unattach ++ [x]).Pairwise Ext.apart) := ⟨fun hp => lies_prefix HO.out.lay (by
      have := hp.map Subtype.val
      rw [List.map_append, List.attach_map_subtype_val] at this
      exact this)⟩
    obtain ⟨i, hi, hid, hln⟩ := HFX.out x hx
    have hin := HO.out.lay.inside x hx
    have h8 := HO.out.lay.eights x hx
    have hup := up_ge x.len
    have hsm := (HR.out.small.2.1 _ (List.getElem_mem hi)).1
    have hI64 : I64 (X[i].id : Int) := by unfold I64; omega
    have CL := Mem.Aside.mk (rlen_some (HR.out.chg hI.chg (by simp)) hi hI64)
    rw [hid, hln] at CL
    have CSp := Mem.Aside.mk (fun (W2 : World) (hc : Chg [] w W2) => span_calls (HS.out.chg hc (by simp)))
    have hRW := HRW.out
    obtain ⟨E, hE⟩ : ∃ E, E = endOf pre.unattach := ⟨_, rfl⟩
    have hEb : E ≤ 1000000000000 := by
      rw [hE]
      refine endOf_le fun y hy => ?_
      obtain ⟨hy', _⟩ := List.mem_unattach.1 hy
      have := HO.out.lay.inside y hy'
      have := up_ge y.len
      omega
    obtain ⟨v4, h4b, h4r, h4o⟩ := hI.b4
    obtain ⟨a4, c4, rfl⟩ := Row_form h4r
    have H4 := Mem.Aside.mk (And.intro h4b (And.intro h4r h4o))
    have c0 := hI.b0.cellAt (i := 0) rfl
    have c1 := hI.b1.cellAt (i := 0) rfl
    rw [hid] at hsm
    obtain ⟨XI, hXI⟩ : ∃ XI, XI = x.id := ⟨_, rfl⟩
    obtain ⟨XA, hXA⟩ : ∃ XA, XA = x.at_ := ⟨_, rfl⟩
    obtain ⟨XL, hXL⟩ : ∃ XL, XL = x.len := ⟨_, rfl⟩
    have x0 := htb.cellAt (i := 0) rfl
    have x1 := htb.cellAt (i := 1) rfl
    have x2 := htb.cellAt (i := 2) rfl
    rw [← hXI] at CL x0 hsm
    rw [← hXL] at CL x2 hup
    rw [← hXA] at x1 h8
    rw [← hXA, ← hXL] at hin
    have hin2 : XA + XL ≤ s.raw.length := by omega
    obtain ⟨SP, hSP⟩ : ∃ SP, SP = s.raw.length := ⟨_, rfl⟩
    rw [← hSP] at hin2 CSp hRW
    rw [← HACT.out]
    simp only [List.setIfInBounds_toArray, List.set_cons_succ, List.set_cons_zero, ← hXI, ← hXA, ← hXL]
    have HXX := Mem.Aside.mk (And.intro hXI (And.intro hXA hXL))
    have HEE := Mem.Aside.mk hE
    clear hin hup hid hln hXI hXA hXL hE hSP hI64
    have hm8t : (XA : Int).tmod 8 = 0 := by rw [show (8 : Int) = ((8 : Nat) : Int) from rfl, ← Int.ofNat_tmod]; omega
    have hneg : decide ((XA : Int) < 0) = false := decide_eq_false (by omega)
    have hgt1 : decide ((SP : Int) < (XA : Int)) = false := decide_eq_false (by omega)
    have hgt2 : decide ((SP : Int) - (XA : Int) < (XL : Int)) = false := decide_eq_false (by omega)
    have hgt1n : decide (SP < XA) = false := decide_eq_false (by omega)
    have hgt1p : ¬ SP < XA := by omega
    have hgt1q : ¬ (SP : Int) < (XA : Int) := by omega
    have hgt2q : ¬ (SP : Int) - (XA : Int) < (XL : Int) := by omega
    have hws : IntKind.i64.wrap ((SP : Int) - (XA : Int)) = (SP : Int) - (XA : Int) := IntWalk.i64_in _ (by omega)
    have hAS : (XA : Int) ≤ (SP : Int) := by omega
    have hLS : (XL : Int) ≤ (SP : Int) - (XA : Int) := by omega
    have HNUM := Mem.Aside.mk (And.intro hin2 (And.intro hRW (And.intro hsm (And.intro hEb (And.intro htb8 (And.intro hlt (And.intro l2 hbw)))))))
    by_cases b1 : 0 < XL ∧ XA < E
    · obtain ⟨b1, b1'⟩ := b1
      have b1i : decide ((0 : Int) < (XL : Int)) = true := decide_eq_true (by omega)
      have b1n : decide (0 < XL) = true := decide_eq_true b1
      have b1p : 0 < XL := b1
      have b1q : XA < E := b1'
      have b1r : decide (XA < E) = true := decide_eq_true b1'
      have b1s : (XA : Int) < (E : Int) := by omega
      have b1t : (0 : Int) < (XL : Int) := by omega
      have b1j : decide ((XA : Int) < (E : Int)) = true := decide_eq_true (by omega)
      gi_wp2_with (refine ⟨trivial, ?_⟩; gi_at_call 72; refine (callsIn_wide.2 CL.out).mono ?_; rintro e w1 ⟨rfl, hc1⟩)
      have HC1 := Mem.Aside.mk hc1
      have HI1 := Mem.Aside.mk (HI.out.next hc1)
      have x0' := cell_chg hc1 x0 (by simp)
      have x1' := cell_chg hc1 x1 (by simp)
      have x2' := cell_chg hc1 x2 (by simp)
      have c0' := cell_chg hc1 c0 (by simp)
      have c5 := HI1.out.b5.cellAt (i := 0) rfl
      rw [← HEE.out] at c5
      clear x0 x1 x2 c0 c1 hc1 h8 hin2 hRW hsm hEb hAS hLS hI htb h4r h4o h4b hr0 hl0 b1 b1' hlt htb8 hi hbw l2 hall
      refine region_tailIn 46 (by kernel_rfl) (by kernel_rfl) (by kernel_rfl) ?_
      simp only [List.take_succ_cons, List.take_zero, List.drop_succ_cons, List.drop_zero]
      refine StW.out ?_
      iterate 31 (refine still_take (by rfl) (fun K hK => ?_); go_simp; refine hK _ ?_; clear hK K)
      iterate 5 (refine still_skip (by rfl) ?_; simp only [Act.put, List.setIfInBounds_toArray, List.set_cons_succ, List.set_cons_zero])
      iterate 2 (refine still_take (by rfl) (fun K hK => ?_); go_simp; refine hK _ ?_; clear hK K)
      iterate 8 (refine still_skip (by rfl) ?_; simp only [Act.put, List.setIfInBounds_toArray, List.set_cons_succ, List.set_cons_zero])
      refine still_end ?_
      have g2 := HI1.out.b2.cellAt (i := 0) rfl
      have g3 := HI1.out.b3.cellAt (i := 0) rfl
      have f2 := HI1.out.b2.frozen 0
      have f3 := HI1.out.b3.frozen 0
      gi_wp2
      refine ⟨((((chg_keeps HC1.out).trans (KeepsOthers.setCell _ _ _)).trans (KeepsOthers.setCell _ _ _)).trans (KeepsOthers.drew _)).from _, rfl, fun hp => ?_⟩
      obtain ⟨hs, ha⟩ := HPRE.out hp
      have h1 := lies_end hs ha (by rw [← HXX.out.2.2]; exact b1p)
      rw [← HEE.out, ← HXX.out.2.1] at h1
      omega
    · by_cases z : XL = 0
      case' pos =>
        have z1 : decide ((0 : Int) < (XL : Int)) = false := decide_eq_false (by omega)
        have z2 : decide (0 < XL) = false := decide_eq_false (by omega)
        have HZ := Mem.Aside.mk z
        clear z b1
        gi_wp2_with (refine ⟨trivial, ?_⟩; gi_at_call 72; refine (callsIn_wide.2 CL.out).mono ?_; rintro e w1 ⟨rfl, hc1⟩)
        have HC1 := Mem.Aside.mk hc1
        have HI1 := Mem.Aside.mk (HI.out.next hc1)
        have x0' := cell_chg hc1 x0 (by simp)
        have x1' := cell_chg hc1 x1 (by simp)
        have x2' := cell_chg hc1 x2 (by simp)
        have c0' := cell_chg hc1 c0 (by simp)
        have c5 := HI1.out.b5.cellAt (i := 0) rfl
        rw [← HEE.out] at c5
        clear x0 x1 x2 c0 c1 hc1 h8 hin2 hRW hsm hEb hAS hLS hI htb h4r h4o h4b hr0 hl0 hlt htb8 hi hbw l2 hall
        refine region_tailIn 46 (by kernel_rfl) (by kernel_rfl) (by kernel_rfl) ?_
        simp only [List.take_succ_cons, List.take_zero, List.drop_succ_cons, List.drop_zero]
        refine StW.out ?_
        iterate 24 (refine still_take (by rfl) (fun K hK => ?_); go_simp; refine hK _ ?_; clear hK K)
        iterate 4 (refine still_skip (by rfl) ?_; simp only [Act.put, List.setIfInBounds_toArray, List.set_cons_succ, List.set_cons_zero])
        iterate 6 (refine still_take (by rfl) (fun K hK => ?_); go_simp; refine hK _ ?_; clear hK K)
        iterate 1 (refine still_take (by rfl) (fun K hK => ?_); go_simp; refine ⟨_, calls_same (CSp.out _ (HI1.out.chg.drew)), hK _ ?_⟩; clear hK K)
        iterate 6 (refine still_take (by rfl) (fun K hK => ?_); go_simp; refine hK _ ?_; clear hK K)
        iterate 1 (refine still_take (by rfl) (fun K hK => ?_); go_simp; refine ⟨_, calls_same (CSp.out _ (HI1.out.chg.drew)), hK _ ?_⟩; clear hK K)
        iterate 4 (refine still_take (by rfl) (fun K hK => ?_); go_simp; refine hK _ ?_; clear hK K)
        refine still_end ?_
      case' neg =>
        have z1 : decide ((0 : Int) < (XL : Int)) = true := decide_eq_true (by omega)
        have z2 : decide (0 < XL) = true := decide_eq_true (by omega)
        have z3 : decide ((XA : Int) < (E : Int)) = false := decide_eq_false (by omega)
        have z4 : decide (XA < E) = false := decide_eq_false (by omega)
        have z5 : (0 : Int) < (XL : Int) := by omega
        have z6 : 0 < XL := by omega
        have z7 : (E : Int) ≤ (XA : Int) := by omega
        have z8 : E ≤ XA := by omega
        gi_wp2_with (refine ⟨trivial, ?_⟩; gi_at_call 72; refine (callsIn_wide.2 CL.out).mono ?_; rintro e w1 ⟨rfl, hc1⟩)
        have HC1 := Mem.Aside.mk hc1
        have HI1 := Mem.Aside.mk (HI.out.next hc1)
        have x0' := cell_chg hc1 x0 (by simp)
        have x1' := cell_chg hc1 x1 (by simp)
        have x2' := cell_chg hc1 x2 (by simp)
        have c0' := cell_chg hc1 c0 (by simp)
        have c5 := HI1.out.b5.cellAt (i := 0) rfl
        rw [← HEE.out] at c5
        clear x0 x1 x2 c0 c1 hc1 h8 hin2 hRW hsm hEb hAS hLS hI htb h4r h4o h4b hr0 hl0 hlt htb8 hi hbw l2 hall b1 z
        refine region_tailIn 46 (by kernel_rfl) (by kernel_rfl) (by kernel_rfl) ?_
        simp only [List.take_succ_cons, List.take_zero, List.drop_succ_cons, List.drop_zero]
        refine StW.out ?_
        iterate 34 (refine still_take (by rfl) (fun K hK => ?_); go_simp; refine hK _ ?_; clear hK K)
        iterate 1 (refine still_take (by rfl) (fun K hK => ?_); go_simp; refine ⟨_, calls_same (CSp.out _ (HI1.out.chg.drew)), hK _ ?_⟩; clear hK K)
        iterate 6 (refine still_take (by rfl) (fun K hK => ?_); go_simp; refine hK _ ?_; clear hK K)
        iterate 1 (refine still_take (by rfl) (fun K hK => ?_); go_simp; refine ⟨_, calls_same (CSp.out _ (HI1.out.chg.drew)), hK _ ?_⟩; clear hK K)
        iterate 4 (refine still_take (by rfl) (fun K hK => ?_); go_simp; refine hK _ ?_; clear hK K)
        refine still_end ?_
      all_goals
        have HI2 := Mem.Aside.mk (HI1.out.next ((Chg.refl [] w1).drew))
        have l0' := HI1.out.b6.cellAt (i := 0) rfl
        have l1' := HI1.out.b6.cellAt (i := 1) rfl
        have l2' := HI1.out.b6.cellAt (i := 2) rfl
        have f60 := HI1.out.b6.frozen 0
        have f61 := HI1.out.b6.frozen 1
        have f62 := HI1.out.b6.frozen 2
        have f5 := HI1.out.b5.frozen 0
        have g2 := HI1.out.b2.cellAt (i := 0) rfl
        have g3 := HI1.out.b3.cellAt (i := 0) rfl
        have f2 := HI1.out.b2.frozen 0
        have f3 := HI1.out.b3.frozen 0
        obtain ⟨LI, hLI⟩ : ∃ LI, LI = lastId pre.unattach := ⟨_, rfl⟩
        obtain ⟨LA, hLA⟩ : ∃ LA, LA = lastAt pre.unattach := ⟨_, rfl⟩
        obtain ⟨LN, hLN⟩ : ∃ LN, LN = lastLen pre.unattach := ⟨_, rfl⟩
        rw [← hLI] at l0'
        rw [← hLA] at l1'
        rw [← hLN] at l2'
        have HLL := Mem.Aside.mk (And.intro hLI (And.intro hLA hLN))
        clear hLI hLA hLN
        have hstop : Mem.Aside ((XA : Int) < LA ∨ ((XA : Int) = LA ∧ (XI : Int) ≤ LI) → ¬ pre ++ [⟨x, hx⟩] <+: s.all.attach) := ⟨fun hb hp => by
          obtain ⟨hs, _⟩ := HPRE.out hp
          have h1 := lies_last hs
          rw [← HLL.out.1, ← HLL.out.2.1, ← HXX.out.1, ← HXX.out.2.1] at h1
          omega⟩
        have hn5 : tb ≠ b + 5 := by have := HNUM.out; omega
        have hn5' : b + 5 ≠ tb := by have := HNUM.out; omega
        have hn6 : tb ≠ b + 6 := by have := HNUM.out; omega
        have hn6' : b + 6 ≠ tb := by have := HNUM.out; omega
        by_cases k1 : (XA : Int) < LA
        · gi_wp2
          exact ⟨((((chg_keeps HC1.out).trans (KeepsOthers.setCell _ _ _)).trans (KeepsOthers.setCell _ _ _)).trans (KeepsOthers.drew _)).from _, rfl, hstop.out (.inl k1)⟩
        · by_cases k3 : (XA : Int) = LA ∧ (XI : Int) ≤ LI
          · obtain ⟨k2, k3⟩ := k3
            subst k2
            gi_wp2
            exact ⟨((((chg_keeps HC1.out).trans (KeepsOthers.setCell _ _ _)).trans (KeepsOthers.setCell _ _ _)).trans (KeepsOthers.drew _)).from _, rfl, hstop.out (.inr ⟨trivial, k3⟩)⟩
          · by_cases k2 : (XA : Int) = LA
            case' pos =>
              have e2 : decide ((XA : Int) = LA) = true := decide_eq_true k2
              have e3 : ((XA : Int) == LA) = true := by simpa using k2
              have e4 : decide ((XI : Int) ≤ LI) = false := decide_eq_false (by omega)
              have e5 : LI < (XI : Int) := by omega
            case' neg =>
              have e2 : decide ((XA : Int) = LA) = false := decide_eq_false k2
              have e3 : ((XA : Int) == LA) = false := by simpa using k2
            all_goals
              have K2 := Mem.Aside.mk k2
              have K3 := Mem.Aside.mk k3
              clear k2 k3
              have hbw : w.heap.size ≤ b := by have := HNUM.out; omega
              have h4b := H4.out.1.chg HC1.out (by simp)
              have h4r := H4.out.2.1.chg HC1.out (by simp)
              have h4o := H4.out.2.2
              have j0 : LieJ w b p q E [.int .i64 LI, .int .i64 LA, .int .i64 LN] (.slice a4 pre.unattach.length c4) pre.unattach.length (intsV (pre.unattach.map fun x => (x.id : Int))) w1 :=
                ⟨HI1.out.b0, HI1.out.b1, HI1.out.b2, HI1.out.b3, h4b, h4r, h4o, by rw [HEE.out]; exact HI1.out.b5, by rw [HLL.out.1, HLL.out.2.1, HLL.out.2.2]; exact HI1.out.b6, HI1.out.chg, HI1.out.top⟩
              have HJ0 := Mem.Aside.mk j0
              clear j0 h4b h4r h4o
              have hwsum : IntKind.i64.wrap ((XA : Int) + (XL : Int)) = (XA : Int) + (XL : Int) := IntWalk.i64_in _ (by have := HNUM.out; omega)
              obtain ⟨E2, hE2⟩ : ∃ E2, E2 = endOf (pre.unattach ++ [x]) := ⟨_, rfl⟩
              have HE2 := Mem.Aside.mk hE2
              clear hE2
              rcases Nat.lt_or_ge E (XA + XL) with k4 | k4
              all_goals first
              | (exfalso; omega)
              | have k4i : (E : Int) < (XA : Int) + (XL : Int) := by omega
                gi_upto_region 16 with fail
                have j3 := ((((HJ0.out.end_ hbw (XA + XL)).last_ hbw 0 (.int .i64 (XI : Int))).last_ hbw 1 (.int .i64 (XA : Int))).last_ hbw 2 (.int .i64 (XL : Int))).drew
                rw [show XA + XL = E2 by rw [HE2.out, endOf_snoc, ← HEE.out, ← HXX.out.2.1, ← HXX.out.2.2, Nat.max_eq_right (by omega)]] at j3
                have hsE : (E2 : Int) = (XA : Int) + (XL : Int) := by rw [HE2.out, endOf_snoc, ← HEE.out, ← HXX.out.2.1, ← HXX.out.2.2, Nat.max_eq_right (by omega)]; omega
                rw [hsE] at j3
                have T3 : Chg ([b + 4, b + 5, b + 6] ++ (Value.slice a4 pre.unattach.length c4).ownBlock.toList) W (((((w1.setCell ⟨b + 5, 0, none⟩ (.int .i64 ((XA : Int) + (XL : Int)))).setCell ⟨b + 6, 0, none⟩ (.int .i64 (XI : Int))).setCell ⟨b + 6, 1, none⟩ (.int .i64 (XA : Int))).setCell ⟨b + 6, 2, none⟩ (.int .i64 (XL : Int))).drew) := (((((HC1.out.mono (by simp)).setCell (p := ⟨b + 5, 0, none⟩) (.inl (by simp)) _).setCell (p := ⟨b + 6, 0, none⟩) (.inl (by simp)) _).setCell (p := ⟨b + 6, 1, none⟩) (.inl (by simp)) _).setCell (p := ⟨b + 6, 2, none⟩) (.inl (by simp)) _).drew
                have hT3 : Blk (((((w1.setCell ⟨b + 5, 0, none⟩ (.int .i64 ((XA : Int) + (XL : Int)))).setCell ⟨b + 6, 0, none⟩ (.int .i64 (XI : Int))).setCell ⟨b + 6, 1, none⟩ (.int .i64 (XA : Int))).setCell ⟨b + 6, 2, none⟩ (.int .i64 (XL : Int))).drew) tb 114 (extV x) := (((((HTB.out.chg HC1.out (by simp)).far (p := ⟨b + 5, 0, none⟩) hn5 _).far (p := ⟨b + 6, 0, none⟩) hn6 _).far (p := ⟨b + 6, 1, none⟩) hn6 _).far (p := ⟨b + 6, 2, none⟩) hn6 _).drew
                generalize ((((w1.setCell ⟨b + 5, 0, none⟩ (.int .i64 ((XA : Int) + (XL : Int)))).setCell ⟨b + 6, 0, none⟩ (.int .i64 (XI : Int))).setCell ⟨b + 6, 1, none⟩ (.int .i64 (XA : Int))).setCell ⟨b + 6, 2, none⟩ (.int .i64 (XL : Int))).drew = W3 at j3 hT3 T3 ⊢
                clear hsE
              | have k4i : ¬ (E : Int) < (XA : Int) + (XL : Int) := by omega
                have k4j : (XA : Int) + (XL : Int) ≤ (E : Int) := by omega
                have k4d : decide ((E : Int) < (XA : Int) + (XL : Int)) = false := decide_eq_false k4i
                gi_upto_region 16 with fail
                have j3 := (((HJ0.out.last_ hbw 0 (.int .i64 (XI : Int))).last_ hbw 1 (.int .i64 (XA : Int))).last_ hbw 2 (.int .i64 (XL : Int))).drew
                rw [show E = E2 by rw [HE2.out, endOf_snoc, ← HEE.out, ← HXX.out.2.1, ← HXX.out.2.2, Nat.max_eq_left (by omega)]] at j3
                have T3 : Chg ([b + 4, b + 5, b + 6] ++ (Value.slice a4 pre.unattach.length c4).ownBlock.toList) W ((((w1.setCell ⟨b + 6, 0, none⟩ (.int .i64 (XI : Int))).setCell ⟨b + 6, 1, none⟩ (.int .i64 (XA : Int))).setCell ⟨b + 6, 2, none⟩ (.int .i64 (XL : Int))).drew) := ((((HC1.out.mono (by simp)).setCell (p := ⟨b + 6, 0, none⟩) (.inl (by simp)) _).setCell (p := ⟨b + 6, 1, none⟩) (.inl (by simp)) _).setCell (p := ⟨b + 6, 2, none⟩) (.inl (by simp)) _).drew
                have hT3 : Blk ((((w1.setCell ⟨b + 6, 0, none⟩ (.int .i64 (XI : Int))).setCell ⟨b + 6, 1, none⟩ (.int .i64 (XA : Int))).setCell ⟨b + 6, 2, none⟩ (.int .i64 (XL : Int))).drew) tb 114 (extV x) := ((((HTB.out.chg HC1.out (by simp)).far (p := ⟨b + 6, 0, none⟩) hn6 _).far (p := ⟨b + 6, 1, none⟩) hn6 _).far (p := ⟨b + 6, 2, none⟩) hn6 _).drew
                generalize (((w1.setCell ⟨b + 6, 0, none⟩ (.int .i64 (XI : Int))).setCell ⟨b + 6, 1, none⟩ (.int .i64 (XA : Int))).setCell ⟨b + 6, 2, none⟩ (.int .i64 (XL : Int))).drew = W3 at j3 hT3 T3 ⊢
              all_goals
                have y0 := hT3.cellAt (i := 0) rfl
                rw [← HXX.out.1] at y0
                have hln : pre.unattach.length ≤ 1000 := by
                  have h1 := HNUM.out.2.2.2.2.2.1
                  rw [List.length_attach, HAL.out] at h1
                  rw [List.length_unattach]
                  have := HX.out
                  omega
                obtain ⟨nn, hnn⟩ : ∃ nn, nn = pre.unattach.length := ⟨_, rfl⟩
                rw [← hnn] at j3 hln T3
                have HNN := Mem.Aside.mk hnn
                clear hnn
                have y4 := j3.b4.cellAt (i := 0) rfl
                have j4 := j3.alloc (.cells #[.int .i64 (XI : Int)] 3)
                obtain ⟨v5, w5, hr5, hR5, hC5, hO5⟩ := j4.row.append (c := 1) Try.underlying29 elemInt (m := 1) (news := [.int .i64 (XI : Int)]) (ad := ⟨W3.heap.size, 0, none⟩) rfl ((Blk.newL [.int .i64 (XI : Int)] rfl).from (fun j u hu => by rw [Nat.zero_add]; exact hu)) (by simp [Value.oneCell']) (by omega) (by omega)
                have h45 := j4.b4.chg hC5 (fun hm => by have := j4.own _ (Option.mem_toList.1 hm); omega)
                have y45 := h45.cellAt (i := 0) rfl
                have f45 := h45.frozen 0
                have j5 := j4.pushed hbw hR5 hC5 hO5
                obtain ⟨a5, c5', rfl⟩ := Row_form hR5
                have HRUN5 := Mem.Aside.mk hr5
                have J5 := Mem.Aside.mk j5
                have HT5 := Mem.Aside.mk (((T3.alloc (.cells #[.int .i64 (XI : Int)] 3)).then hC5 (fun x hx => .inl (List.mem_append_right _ hx))).setCell (p := ⟨b + 4, 0, none⟩) (.inl (by simp)) (.slice a5 (nn + 1) c5'))
                clear hr5 hR5 hC5 hO5 h45 j5 j4 j3 hT3 T3
                gi_upto_region 17 with (gi_at_builtin; refine wpListIn_builtin2 (by rfl) .append _ _ _ (by rfl) _ _ (by rfl) (by rfl) _ _ (HRUN5.out _) ?_)
                have hn1 : nn + 1 ≤ X.length := by
                  have h1 := HNUM.out.2.2.2.2.2.1
                  rw [List.length_attach, HAL.out] at h1
                  rw [HNN.out, List.length_unattach]
                  omega
                have q1 : decide ((X.length : Int) < (nn : Int) + 1) = false := decide_eq_false (by omega)
                have q2 : (nn : Int) + 1 ≤ (X.length : Int) := by omega
                have q3 : decide (X.length < nn + 1) = false := decide_eq_false (by omega)
                have z4 := J5.out.b4.cellAt (i := 0) rfl
                have z1 := J5.out.b1.cellAt (i := 0) rfl
                have z0 := (HR.out.chg J5.out.chg (by simp)).c0
                refine region_tailIn 7 (by kernel_rfl) (by kernel_rfl) (by kernel_rfl) ?_
                simp only [List.take_succ_cons, List.take_zero, List.drop_succ_cons, List.drop_zero]
                refine StW.out ?_
                iterate 7 (refine still_take (by rfl) (fun K hK => ?_); go_simp; refine hK _ ?_; clear hK K)
                refine still_end ?_
                gi_wp2
                obtain ⟨hk1, hk2⟩ := HI.out.round H4.out.1 H4.out.2.1 HNUM.out.2.2.2.2.2.2.1 (HT5.out.drew.mono (fun x hx => by rw [HNN.out] at hx; exact hx))
                refine ⟨hk1, hk2, ?_⟩
                have e1 := last_snoc pre.unattach x
                show LieI w b p q (pre ++ [(⟨x, hx⟩ : { x : Ext // x ∈ s.all })]).unattach _
                rw [show (pre ++ [(⟨x, hx⟩ : { x : Ext // x ∈ s.all })]).unattach = pre.unattach ++ [x] by simp]
                refine J5.out.drew.lie ?_ ?_ ?_ ?_
                · exact HE2.out
                · rw [e1.1, e1.2.1, e1.2.2, ← HXX.out.1, ← HXX.out.2.1, ← HXX.out.2.2]; rfl
                · rw [HNN.out]; simp
                · rw [ids_snoc, ← HXX.out.1]
  case done =>
    rintro D ys W hD rfl hI hK
    have hI' : LieI w b p q s.all W := by
      have := hI
      rw [show s.all.attach.unattach = s.all by simp] at this
      exact this
    have HI := Mem.Aside.mk hI'
    have HKD := Mem.Aside.mk hK
    clear hI hI' hK
    have CU := Mem.Aside.mk (fun (W2 : World) (hc : Chg [] w W2) => used_calls (HS.out.chg hc (by simp)))
    have CR := Mem.Aside.mk (fun (W2 : World) (hc : Chg [] w W2) => rused_calls (HR.out.chg hc (by simp)))
    have CSp := Mem.Aside.mk (fun (W2 : World) (hc : Chg [] w W2) => span_calls (HS.out.chg hc (by simp)))
    have hTX : s.used = totalX X := by rw [← totalX_pairs, total_holds HO.out HP.out]
    rw [← hTX] at CR
    have hspan := HO.out.span
    have hmm := HMO.out.1
    have hmo := HMO.out.2
    obtain ⟨SP, hSP⟩ : ∃ SP, SP = s.raw.length := ⟨_, rfl⟩
    obtain ⟨SU, hSU⟩ : ∃ SU, SU = s.used := ⟨_, rfl⟩
    rw [← hSP] at CSp hspan
    rw [← hSU] at CU CR
    have hspan2 : SP ≤ 2 * most + 64 := by omega
    have hspan3 : (SP : Int) ≤ 2 * (most : Int) + 64 := by omega
    have hspan4 : decide ((SP : Int) ≤ 2 * (most : Int) + 64) = true := decide_eq_true hspan3
    have hw1 : IntKind.i64.wrap (2 * (most : Int)) = 2 * (most : Int) := IntWalk.i64_in _ (by omega)
    have hw2 : IntKind.i64.wrap (2 * (most : Int) + 64) = 2 * (most : Int) + 64 := IntWalk.i64_in _ (by omega)
    clear hSP hSU hTX hspan hmm
    obtain ⟨v4, h4b, h4r, h4o⟩ := HI.out.b4
    obtain ⟨a4, c4, rfl⟩ := Row_form h4r
    have H4 := Mem.Aside.mk (And.intro h4b (And.intro h4r h4o))
    obtain ⟨nn, hnn⟩ : ∃ nn, nn = X.length := ⟨_, rfl⟩
    rw [hall, ← hnn] at h4b
    have k0 := HI.out.b0.cellAt (i := 0) rfl
    have k1 := HI.out.b1.cellAt (i := 0) rfl
    have k4 := h4b.cellAt (i := 0) rfl
    have g2 := HI.out.b2.cellAt (i := 0) rfl
    have g3 := HI.out.b3.cellAt (i := 0) rfl
    have f2 := HI.out.b2.frozen 0
    have f3 := HI.out.b3.frozen 0
    have r0 := (HR.out.chg HI.out.chg (by simp)).c0
    have r1 := (HR.out.chg HI.out.chg (by simp)).c1
    rw [← hnn] at r0
    have HNN := Mem.Aside.mk hnn
    clear hnn h4b h4r h4o hall
    have hqb := HR.out.cells.lt
    have hq2 : q ≠ b + 2 := by omega
    have hq2' : b + 2 ≠ q := by omega
    have hq3 : q ≠ b + 3 := by omega
    have hq3' : b + 3 ≠ q := by omega
    rw [← HACT.out]
    go_upto_region 19 with fail
    go_region_held3 (fun w' => w'.cell? ⟨b, 0, none⟩ = some (.pointer (some ⟨p, 0, none⟩)) ∧ w'.cell? ⟨b + 1, 0, none⟩ = some (.pointer (some ⟨q, 0, none⟩)) ∧ w'.cell? ⟨b + 4, 0, none⟩ = some (.slice a4 nn c4) ∧
        w'.cell? ⟨q, 0, none⟩ = some (.slice a nn c) ∧ w'.cell? ⟨q, 1, none⟩ = some (.int .i64 (most : Int)))
      (first | exact ⟨k0, k1, k4, r0, r1⟩ | go_keep)
      (first | (go_at_call 29; (with_reducible refine (CU.out _ (HI.out.chg.drew)).mono ?_); rintro e w9 ⟨rfl, rfl⟩) | (go_at_call 76; (with_reducible refine (CR.out _ (HI.out.chg.drew)).mono ?_); rintro e w9 ⟨rfl, rfl⟩) | (go_at_call 35; (with_reducible refine (CSp.out _ (HI.out.chg.drew)).mono ?_); rintro e w9 ⟨rfl, rfl⟩))
    go_wp2
    have hnx : nn = s.all.length := by rw [HNN.out, HAL.out]
    rw [← hnx] at H4
    have hcF : Chg [b + 2, b + 3] W ((W.setCell ⟨b + 2, 0, none⟩ (.slice a4 nn c4)).setCell ⟨b + 3, 0, none⟩ (.bool true)).drew := (((Chg.refl _ W).setCell (p := ⟨b + 2, 0, none⟩) (.inl (by simp)) _).setCell (p := ⟨b + 3, 0, none⟩) (.inl (by simp)) _).drew
    have hB2 : Blk ((W.setCell ⟨b + 2, 0, none⟩ (.slice a4 nn c4)).setCell ⟨b + 3, 0, none⟩ (.bool true)).drew (b + 2) 29 [.slice a4 nn c4] := ((HI.out.b2.set 0 _).far (p := ⟨b + 3, 0, none⟩) (by show b + 2 ≠ b + 3; omega) _).drew
    have hB3 : Blk ((W.setCell ⟨b + 2, 0, none⟩ (.slice a4 nn c4)).setCell ⟨b + 3, 0, none⟩ (.bool true)).drew (b + 3) 4 [.bool true] := ((HI.out.b3.far (p := ⟨b + 2, 0, none⟩) (by show b + 3 ≠ b + 2; omega) _).set 0 _).drew
    have hown := H4.out.2.2
    have hR4 : Row ((W.setCell ⟨b + 2, 0, none⟩ (.slice a4 nn c4)).setCell ⟨b + 3, 0, none⟩ (.bool true)).drew 3 1 (.slice a4 nn c4) nn (intsV (s.all.map fun x => (x.id : Int))) := ((H4.out.2.1.farCell (p := ⟨b + 2, 0, none⟩) (fun e => by have := hown _ e; simp only at this; omega) _).farCell (p := ⟨b + 3, 0, none⟩) (fun e => by have := hown _ e; simp only at this; omega) _).drew
    have hDF := hcF.obj HKD.out (by simp; omega)
    have hbF : b + 3 < D := by omega
    have hcW := (HI.out.chg.then hcF (fun x hx => .inr (by simp at hx; omega)))
    generalize ((W.setCell ⟨b + 2, 0, none⟩ (.slice a4 nn c4)).setCell ⟨b + 3, 0, none⟩ (.bool true)).drew = Wf at hcF hB2 hB3 hR4 hDF hcW ⊢
    refine ret_marks1C hDF (fun w' hw' => results_cell2 rfl rfl rfl ?_ ?_ ((hB2.chg hw' (by simp; omega)).cellAt (i := 0) rfl) ((hB3.chg hw' (by simp; omega)).cellAt (i := 0) rfl)) (fun w' hw' => ⟨_, rfl, ?_, ?_, fun g hg => ?_⟩)
    · simp [isAgg, run_underlying Try.underlying29]
    · simp [isAgg, run_underlying Try.underlying4]
    · rw [← hnx]
      exact hR4.chg hw' (fun g hg hm => by
        simp at hm
        subst hm
        obtain ⟨cs, hb⟩ := hR4.typed hg
        have := hb.symm.trans hDF
        cases this)
    · exact hcW.then hw' (fun x hx => .inr (by simp at hx; omega))
    · have := hown g hg; omega
end Go.Proofs.Ytgimcpnelogadaa.Sto
