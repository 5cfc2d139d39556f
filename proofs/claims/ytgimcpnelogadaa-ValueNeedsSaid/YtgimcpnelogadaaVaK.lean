/- Chapter 7: ValueNeeds, walked. -/
import Derived.Test.YtgimcpnelogadaaVaJ
namespace Go.Proofs.Ytgimcpnelogadaa.Va
open Go.RowKit Go.Proofs.Ytgimcpnelogadaa.Mem Go.Proofs.Ytgimcpnelogadaa.Sto Go.Proofs.Ytgimcpnelogadaa.Wd Go.Proofs.Ytgimcpnelogadaa.Hp
set_option linter.unusedVariables false
set_option linter.unusedSimpArgs false
/-- A word's class tells whether the value has a cell. -/
theorem class_of {W : World} {p units : Nat} {L K : List (Nat × Cel)} {G : List Nat} {a : Nat} {v : Val} (hs : Stands K a v) (hk : HeapK p units (L ++ K) G W) (hok : v.ok) (h0 : v.cel = none → K = []) : Wd.cls a = 6 ↔ 0 < v.need := by
  cases hc : v.cel with
  | none =>
    have e : v.need = 0 := by unfold Val.need; rw [hc]
    have := h0 hc
    subst this
    rw [hs.small, (v.word_cls hok hc).2, e]
    cases v <;> simp [Val.cls]
  | some c =>
    have e : v.need = c.need := by unfold Val.need; rw [hc]
    rcases hs with ⟨h1, _⟩ | ⟨c', n, h1, rfl, h3⟩
    · rw [hc] at h1; cases h1
    · have hww := hk.word (q := (n, c')) (List.mem_append_right _ h3)
      have : Wd.cls (hw n) = 6 := (cls_hdl hww.1).2 (by rw [hww.2]; rfl)
      rw [this, e]
      have hc' := Val.cel_cell hc
      rw [h1] at hc'
      cases hc'
      cases v with
      | int i => cases h1; simp [intC]
      | text s => cases h1; exact ⟨fun _ => by show 0 < 1 + _; omega, fun _ => rfl⟩
      | nil => cases h1
      | bool b => cases h1
      | float b => cases h1
set_option maxHeartbeats 16000000 in
set_option maxRecDepth 100000 in
theorem n_nil {w : World}  (u N : Nat) (hN : N = 0) (HU : Mem.Aside (u ≤ 100 ∧ Val.ok .nil ∧ N = Val.need .nil)) (hu : (u : Int) ≤ 100) (CP : Mem.Aside (Calls Try.prog 51 #[.agg #[.int .i64 0, .int .i64 0, .int .u64 0, .string noText, .int .u64 0]] (w.alloc (.cells #[.int .i64 0, .int .i64 0, .int .u64 0, .string noText, .int .u64 0] 83)) fun e w' => e = .returned (.bool true) ∧ Chg [] (w.alloc (.cells #[.int .i64 0, .int .i64 0, .int .u64 0, .string noText, .int .u64 0] 83)) w')) :
    Calls Try.prog 16 #[.agg #[.int .i64 0, .int .i64 0, .int .u64 0, .string noText, .int .u64 0], .int .i64 (u : Int)] w fun e w' => e = .returned (.bool true) ∧ Chg [] w w' := by
  subst hN
  have hB0 : Blk (w.alloc (.cells #[.int .i64 0, .int .i64 0, .int .u64 0, .string noText, .int .u64 0] 83)) w.heap.size 83 [.int .i64 0, .int .i64 0, .int .u64 0, .string noText, .int .u64 0] := Blk.newL [_, _, _, _, _] rfl
  have HB0 := Mem.Aside.mk hB0
  have HC0 : Mem.Aside (Chg [] w (w.alloc (.cells #[.int .i64 0, .int .i64 0, .int .u64 0, .string noText, .int .u64 0] 83))) := ⟨(Chg.refl [] w).alloc _⟩
  clear hB0
  go_enter Try.func16, Try.ntmps16
  go_upto_region 3 with (go_at_call 51; (with_reducible refine CP.out.mono ?_); rintro e w1 ⟨rfl, hc1⟩; have HC1 := Mem.Aside.mk (HC0.out.then hc1 (by simp)); have HB1 := Mem.Aside.mk (HB0.out.chg hc1 (by simp)); have b0 := HB1.out.cellAt (i := 0) rfl; have b1 := HB1.out.cellAt (i := 1) rfl; have b2 := HB1.out.cellAt (i := 2) rfl; have b3 := HB1.out.cellAt (i := 3) rfl; have b4 := HB1.out.cellAt (i := 4) rfl; clear hc1)
  clear b0 b1 b2 b3 b4
  have CN := Mem.Aside.mk (new_k u (by have := HU.out.1; omega) w1)
  go_upto_region 11 with (go_at_call 38; (with_reducible refine CN.out.mono ?_); rintro e w2 ⟨p, G, rfl, h2, hc2, hg2⟩; have H2 := Mem.Aside.mk (And.intro h2 (And.intro (HC1.out.then hc2 (by simp)) (fun x hx => Nat.le_trans HC1.out.size (hg2 x hx)))); have HB2 := Mem.Aside.mk (HB1.out.chg hc2 (by simp)); have b0 := HB2.out.cellAt (i := 0) rfl; have b1 := HB2.out.cellAt (i := 1) rfl; have b2 := HB2.out.cellAt (i := 2) rfl; have b3 := HB2.out.cellAt (i := 3) rfl; have b4 := HB2.out.cellAt (i := 4) rfl; clear h2 hc2 hg2)
  have CB := Mem.Aside.mk (box_k H2.out.1 .nil HU.out.2.1 (rv := .slice none 0 0) (rs := []) (Row.nil _ _ _) (by simp) (by simp) (by simp) (by simp [hwC]))
  rw [Val.v_eq] at CB
  simp only [Val.k, Val.i, Val.b, Val.t, show ((0 : Nat) : Int) = 0 from rfl] at CB
  by_cases fit : 0 ≤ u
  · have fit1 : (0 : Int) ≤ (u : Int) := by omega
    have fit2 : decide ((u : Int) < (0 : Int)) = false := decide_eq_false (by omega)
    go_upto_region 12 with (go_at_call 46; (with_reducible refine CB.out.mono ?_); rintro e w3 ⟨a, er, rfl, hbk⟩; have HBK := Mem.Aside.mk hbk; clear hbk)
    obtain ⟨hch, G', hG', ⟨_, rfl, K, s1, s2, s3, s4, s5⟩ | ⟨hlt, _⟩⟩ := HBK.out
    case inr => exact absurd hlt (by have := HU.out.2.2; simp only [needL, List.map_nil, List.sum_nil]; omega)
    have hcls := class_of s1 s2 HU.out.2.1 s5
    have hlta := (s1.more (fun q hq => List.mem_append_right [] hq)).lt s2 HU.out.2.1
    have hnl : needL ([] ++ K) = 0 := by rw [s3, HU.out.2.2]; simp [needL]
    have CRE := Mem.Aside.mk (fun (W : World) (hc : Chg [] w3 W) => reach_k ((s2.chg hc (by simp)).chg ((Chg.refl [] W).alloc (.cells #[.int .u64 (a : Int)] 22)) (by simp)) (rv := .slice (some ⟨W.heap.size, 0, none⟩) 1 1) (rs := [a]) (Row.mk (rest := []) (Blk.newL [.int .u64 (a : Int)] rfl) rfl (Nat.le_refl _) (by decide) rfl) (by simp) (by intro x hx; simp at hx; subst hx; exact hlta.1) (by intro x hx; simp at hx; subst hx; exact hlta.2) (by intro x hx; have := s4 x (by simpa using hx); simp [this]))
    rw [hnl] at CRE
    have CCL := Mem.Aside.mk (rclass_calls a hlta.1)
    obtain ⟨C, hC⟩ : ∃ C, C = Wd.cls a := ⟨_, rfl⟩
    rw [← hC] at CCL hcls
    have e6 : ((C : Int) == 6) = decide (0 < 0) := by
      have : (0 < 0) ↔ C = 6 := by have h := hcls; rw [← HU.out.2.2] at h; exact h.symm
      by_cases q : C = 6
      · subst q; rw [decide_eq_true (this.2 rfl)]; rfl
      · rw [decide_eq_false (fun e => q (this.1 e))]; simpa using (by omega : ¬ (C : Int) = 6)
    simp only [Nat.lt_irrefl, decide_false] at e6
    rw [show ((0 : Nat) : Int) = 0 from rfl] at CRE
    have HF := Mem.Aside.mk (H2.out.2.1.then hch (fun x hx => .inr (H2.out.2.2 x hx)))
    have CAW := Mem.Aside.mk awake7_calls
    clear hch hG' s1 s2 s3 s4 s5 hcls hlta hnl hC b0 b1 b2 b3 b4 fit
    go_wp2_with (first
      | (go_at_call 40; (with_reducible refine (CRE.out _ (Chg.refl _ _)).mono ?_); rintro e w4 ⟨rfl, hc4⟩; have HC4 := Mem.Aside.mk ((HF.out.alloc (.cells #[.int .u64 (a : Int)] 22)).then hc4 (by simp)); clear hc4)
      | (go_at_call 47; (with_reducible refine (CCL.out _).mono ?_); rintro e w5 ⟨rfl, hc5⟩; have HC5 := Mem.Aside.mk (HC4.out.then hc5 (by simp)); clear hc5)
      | (go_at_call 50; (with_reducible refine (CAW.out _).mono ?_); rintro e w6 ⟨rfl, hc6⟩; have HC6 := Mem.Aside.mk (HC5.out.then hc6 (by simp)); clear hc6))
    go_ret
    exact ⟨rfl, HC6.out⟩
  · exact absurd (Nat.zero_le u) fit
set_option maxHeartbeats 16000000 in
set_option maxRecDepth 100000 in
theorem n_true {w : World}  (u N : Nat) (hN : N = 0) (HU : Mem.Aside (u ≤ 100 ∧ Val.ok (.bool true) ∧ N = Val.need (.bool true))) (hu : (u : Int) ≤ 100) (CP : Mem.Aside (Calls Try.prog 51 #[.agg #[.int .i64 1, .int .i64 1, .int .u64 0, .string noText, .int .u64 0]] (w.alloc (.cells #[.int .i64 1, .int .i64 1, .int .u64 0, .string noText, .int .u64 0] 83)) fun e w' => e = .returned (.bool true) ∧ Chg [] (w.alloc (.cells #[.int .i64 1, .int .i64 1, .int .u64 0, .string noText, .int .u64 0] 83)) w')) :
    Calls Try.prog 16 #[.agg #[.int .i64 1, .int .i64 1, .int .u64 0, .string noText, .int .u64 0], .int .i64 (u : Int)] w fun e w' => e = .returned (.bool true) ∧ Chg [] w w' := by
  subst hN
  have hB0 : Blk (w.alloc (.cells #[.int .i64 1, .int .i64 1, .int .u64 0, .string noText, .int .u64 0] 83)) w.heap.size 83 [.int .i64 1, .int .i64 1, .int .u64 0, .string noText, .int .u64 0] := Blk.newL [_, _, _, _, _] rfl
  have HB0 := Mem.Aside.mk hB0
  have HC0 : Mem.Aside (Chg [] w (w.alloc (.cells #[.int .i64 1, .int .i64 1, .int .u64 0, .string noText, .int .u64 0] 83))) := ⟨(Chg.refl [] w).alloc _⟩
  clear hB0
  go_enter Try.func16, Try.ntmps16
  go_upto_region 3 with (go_at_call 51; (with_reducible refine CP.out.mono ?_); rintro e w1 ⟨rfl, hc1⟩; have HC1 := Mem.Aside.mk (HC0.out.then hc1 (by simp)); have HB1 := Mem.Aside.mk (HB0.out.chg hc1 (by simp)); have b0 := HB1.out.cellAt (i := 0) rfl; have b1 := HB1.out.cellAt (i := 1) rfl; have b2 := HB1.out.cellAt (i := 2) rfl; have b3 := HB1.out.cellAt (i := 3) rfl; have b4 := HB1.out.cellAt (i := 4) rfl; clear hc1)
  clear b0 b1 b2 b3 b4
  have CN := Mem.Aside.mk (new_k u (by have := HU.out.1; omega) w1)
  go_upto_region 11 with (go_at_call 38; (with_reducible refine CN.out.mono ?_); rintro e w2 ⟨p, G, rfl, h2, hc2, hg2⟩; have H2 := Mem.Aside.mk (And.intro h2 (And.intro (HC1.out.then hc2 (by simp)) (fun x hx => Nat.le_trans HC1.out.size (hg2 x hx)))); have HB2 := Mem.Aside.mk (HB1.out.chg hc2 (by simp)); have b0 := HB2.out.cellAt (i := 0) rfl; have b1 := HB2.out.cellAt (i := 1) rfl; have b2 := HB2.out.cellAt (i := 2) rfl; have b3 := HB2.out.cellAt (i := 3) rfl; have b4 := HB2.out.cellAt (i := 4) rfl; clear h2 hc2 hg2)
  have CB := Mem.Aside.mk (box_k H2.out.1 (.bool true) HU.out.2.1 (rv := .slice none 0 0) (rs := []) (Row.nil _ _ _) (by simp) (by simp) (by simp) (by simp [hwC]))
  rw [Val.v_eq] at CB
  simp only [Val.k, Val.i, Val.b, Val.t, show ((0 : Nat) : Int) = 0 from rfl] at CB
  by_cases fit : 0 ≤ u
  · have fit1 : (0 : Int) ≤ (u : Int) := by omega
    have fit2 : decide ((u : Int) < (0 : Int)) = false := decide_eq_false (by omega)
    go_upto_region 12 with (go_at_call 46; (with_reducible refine CB.out.mono ?_); rintro e w3 ⟨a, er, rfl, hbk⟩; have HBK := Mem.Aside.mk hbk; clear hbk)
    obtain ⟨hch, G', hG', ⟨_, rfl, K, s1, s2, s3, s4, s5⟩ | ⟨hlt, _⟩⟩ := HBK.out
    case inr => exact absurd hlt (by have := HU.out.2.2; simp only [needL, List.map_nil, List.sum_nil]; omega)
    have hcls := class_of s1 s2 HU.out.2.1 s5
    have hlta := (s1.more (fun q hq => List.mem_append_right [] hq)).lt s2 HU.out.2.1
    have hnl : needL ([] ++ K) = 0 := by rw [s3, HU.out.2.2]; simp [needL]
    have CRE := Mem.Aside.mk (fun (W : World) (hc : Chg [] w3 W) => reach_k ((s2.chg hc (by simp)).chg ((Chg.refl [] W).alloc (.cells #[.int .u64 (a : Int)] 22)) (by simp)) (rv := .slice (some ⟨W.heap.size, 0, none⟩) 1 1) (rs := [a]) (Row.mk (rest := []) (Blk.newL [.int .u64 (a : Int)] rfl) rfl (Nat.le_refl _) (by decide) rfl) (by simp) (by intro x hx; simp at hx; subst hx; exact hlta.1) (by intro x hx; simp at hx; subst hx; exact hlta.2) (by intro x hx; have := s4 x (by simpa using hx); simp [this]))
    rw [hnl] at CRE
    have CCL := Mem.Aside.mk (rclass_calls a hlta.1)
    obtain ⟨C, hC⟩ : ∃ C, C = Wd.cls a := ⟨_, rfl⟩
    rw [← hC] at CCL hcls
    have e6 : ((C : Int) == 6) = decide (0 < 0) := by
      have : (0 < 0) ↔ C = 6 := by have h := hcls; rw [← HU.out.2.2] at h; exact h.symm
      by_cases q : C = 6
      · subst q; rw [decide_eq_true (this.2 rfl)]; rfl
      · rw [decide_eq_false (fun e => q (this.1 e))]; simpa using (by omega : ¬ (C : Int) = 6)
    simp only [Nat.lt_irrefl, decide_false] at e6
    rw [show ((0 : Nat) : Int) = 0 from rfl] at CRE
    have HF := Mem.Aside.mk (H2.out.2.1.then hch (fun x hx => .inr (H2.out.2.2 x hx)))
    have CAW := Mem.Aside.mk awake7_calls
    clear hch hG' s1 s2 s3 s4 s5 hcls hlta hnl hC b0 b1 b2 b3 b4 fit
    go_wp2_with (first
      | (go_at_call 40; (with_reducible refine (CRE.out _ (Chg.refl _ _)).mono ?_); rintro e w4 ⟨rfl, hc4⟩; have HC4 := Mem.Aside.mk ((HF.out.alloc (.cells #[.int .u64 (a : Int)] 22)).then hc4 (by simp)); clear hc4)
      | (go_at_call 47; (with_reducible refine (CCL.out _).mono ?_); rintro e w5 ⟨rfl, hc5⟩; have HC5 := Mem.Aside.mk (HC4.out.then hc5 (by simp)); clear hc5)
      | (go_at_call 50; (with_reducible refine (CAW.out _).mono ?_); rintro e w6 ⟨rfl, hc6⟩; have HC6 := Mem.Aside.mk (HC5.out.then hc6 (by simp)); clear hc6))
    go_ret
    exact ⟨rfl, HC6.out⟩
  · exact absurd (Nat.zero_le u) fit
set_option maxHeartbeats 16000000 in
set_option maxRecDepth 100000 in
theorem n_false {w : World}  (u N : Nat) (hN : N = 0) (HU : Mem.Aside (u ≤ 100 ∧ Val.ok (.bool false) ∧ N = Val.need (.bool false))) (hu : (u : Int) ≤ 100) (CP : Mem.Aside (Calls Try.prog 51 #[.agg #[.int .i64 1, .int .i64 0, .int .u64 0, .string noText, .int .u64 0]] (w.alloc (.cells #[.int .i64 1, .int .i64 0, .int .u64 0, .string noText, .int .u64 0] 83)) fun e w' => e = .returned (.bool true) ∧ Chg [] (w.alloc (.cells #[.int .i64 1, .int .i64 0, .int .u64 0, .string noText, .int .u64 0] 83)) w')) :
    Calls Try.prog 16 #[.agg #[.int .i64 1, .int .i64 0, .int .u64 0, .string noText, .int .u64 0], .int .i64 (u : Int)] w fun e w' => e = .returned (.bool true) ∧ Chg [] w w' := by
  subst hN
  have hB0 : Blk (w.alloc (.cells #[.int .i64 1, .int .i64 0, .int .u64 0, .string noText, .int .u64 0] 83)) w.heap.size 83 [.int .i64 1, .int .i64 0, .int .u64 0, .string noText, .int .u64 0] := Blk.newL [_, _, _, _, _] rfl
  have HB0 := Mem.Aside.mk hB0
  have HC0 : Mem.Aside (Chg [] w (w.alloc (.cells #[.int .i64 1, .int .i64 0, .int .u64 0, .string noText, .int .u64 0] 83))) := ⟨(Chg.refl [] w).alloc _⟩
  clear hB0
  go_enter Try.func16, Try.ntmps16
  go_upto_region 3 with (go_at_call 51; (with_reducible refine CP.out.mono ?_); rintro e w1 ⟨rfl, hc1⟩; have HC1 := Mem.Aside.mk (HC0.out.then hc1 (by simp)); have HB1 := Mem.Aside.mk (HB0.out.chg hc1 (by simp)); have b0 := HB1.out.cellAt (i := 0) rfl; have b1 := HB1.out.cellAt (i := 1) rfl; have b2 := HB1.out.cellAt (i := 2) rfl; have b3 := HB1.out.cellAt (i := 3) rfl; have b4 := HB1.out.cellAt (i := 4) rfl; clear hc1)
  clear b0 b1 b2 b3 b4
  have CN := Mem.Aside.mk (new_k u (by have := HU.out.1; omega) w1)
  go_upto_region 11 with (go_at_call 38; (with_reducible refine CN.out.mono ?_); rintro e w2 ⟨p, G, rfl, h2, hc2, hg2⟩; have H2 := Mem.Aside.mk (And.intro h2 (And.intro (HC1.out.then hc2 (by simp)) (fun x hx => Nat.le_trans HC1.out.size (hg2 x hx)))); have HB2 := Mem.Aside.mk (HB1.out.chg hc2 (by simp)); have b0 := HB2.out.cellAt (i := 0) rfl; have b1 := HB2.out.cellAt (i := 1) rfl; have b2 := HB2.out.cellAt (i := 2) rfl; have b3 := HB2.out.cellAt (i := 3) rfl; have b4 := HB2.out.cellAt (i := 4) rfl; clear h2 hc2 hg2)
  have CB := Mem.Aside.mk (box_k H2.out.1 (.bool false) HU.out.2.1 (rv := .slice none 0 0) (rs := []) (Row.nil _ _ _) (by simp) (by simp) (by simp) (by simp [hwC]))
  rw [Val.v_eq] at CB
  simp only [Val.k, Val.i, Val.b, Val.t, show ((0 : Nat) : Int) = 0 from rfl] at CB
  by_cases fit : 0 ≤ u
  · have fit1 : (0 : Int) ≤ (u : Int) := by omega
    have fit2 : decide ((u : Int) < (0 : Int)) = false := decide_eq_false (by omega)
    go_upto_region 12 with (go_at_call 46; (with_reducible refine CB.out.mono ?_); rintro e w3 ⟨a, er, rfl, hbk⟩; have HBK := Mem.Aside.mk hbk; clear hbk)
    obtain ⟨hch, G', hG', ⟨_, rfl, K, s1, s2, s3, s4, s5⟩ | ⟨hlt, _⟩⟩ := HBK.out
    case inr => exact absurd hlt (by have := HU.out.2.2; simp only [needL, List.map_nil, List.sum_nil]; omega)
    have hcls := class_of s1 s2 HU.out.2.1 s5
    have hlta := (s1.more (fun q hq => List.mem_append_right [] hq)).lt s2 HU.out.2.1
    have hnl : needL ([] ++ K) = 0 := by rw [s3, HU.out.2.2]; simp [needL]
    have CRE := Mem.Aside.mk (fun (W : World) (hc : Chg [] w3 W) => reach_k ((s2.chg hc (by simp)).chg ((Chg.refl [] W).alloc (.cells #[.int .u64 (a : Int)] 22)) (by simp)) (rv := .slice (some ⟨W.heap.size, 0, none⟩) 1 1) (rs := [a]) (Row.mk (rest := []) (Blk.newL [.int .u64 (a : Int)] rfl) rfl (Nat.le_refl _) (by decide) rfl) (by simp) (by intro x hx; simp at hx; subst hx; exact hlta.1) (by intro x hx; simp at hx; subst hx; exact hlta.2) (by intro x hx; have := s4 x (by simpa using hx); simp [this]))
    rw [hnl] at CRE
    have CCL := Mem.Aside.mk (rclass_calls a hlta.1)
    obtain ⟨C, hC⟩ : ∃ C, C = Wd.cls a := ⟨_, rfl⟩
    rw [← hC] at CCL hcls
    have e6 : ((C : Int) == 6) = decide (0 < 0) := by
      have : (0 < 0) ↔ C = 6 := by have h := hcls; rw [← HU.out.2.2] at h; exact h.symm
      by_cases q : C = 6
      · subst q; rw [decide_eq_true (this.2 rfl)]; rfl
      · rw [decide_eq_false (fun e => q (this.1 e))]; simpa using (by omega : ¬ (C : Int) = 6)
    simp only [Nat.lt_irrefl, decide_false] at e6
    rw [show ((0 : Nat) : Int) = 0 from rfl] at CRE
    have HF := Mem.Aside.mk (H2.out.2.1.then hch (fun x hx => .inr (H2.out.2.2 x hx)))
    have CAW := Mem.Aside.mk awake7_calls
    clear hch hG' s1 s2 s3 s4 s5 hcls hlta hnl hC b0 b1 b2 b3 b4 fit
    go_wp2_with (first
      | (go_at_call 40; (with_reducible refine (CRE.out _ (Chg.refl _ _)).mono ?_); rintro e w4 ⟨rfl, hc4⟩; have HC4 := Mem.Aside.mk ((HF.out.alloc (.cells #[.int .u64 (a : Int)] 22)).then hc4 (by simp)); clear hc4)
      | (go_at_call 47; (with_reducible refine (CCL.out _).mono ?_); rintro e w5 ⟨rfl, hc5⟩; have HC5 := Mem.Aside.mk (HC4.out.then hc5 (by simp)); clear hc5)
      | (go_at_call 50; (with_reducible refine (CAW.out _).mono ?_); rintro e w6 ⟨rfl, hc6⟩; have HC6 := Mem.Aside.mk (HC5.out.then hc6 (by simp)); clear hc6))
    go_ret
    exact ⟨rfl, HC6.out⟩
  · exact absurd (Nat.zero_le u) fit
set_option maxHeartbeats 16000000 in
set_option maxRecDepth 100000 in
theorem n_small {w : World} (i : Int) (f1 : -140737488355328 ≤ i) (f2 : i < 140737488355328) (u N : Nat) (hN : N = 0) (HU : Mem.Aside (u ≤ 100 ∧ Val.ok (.int i) ∧ N = Val.need (.int i))) (hu : (u : Int) ≤ 100) (CP : Mem.Aside (Calls Try.prog 51 #[.agg #[.int .i64 2, .int .i64 i, .int .u64 0, .string noText, .int .u64 0]] (w.alloc (.cells #[.int .i64 2, .int .i64 i, .int .u64 0, .string noText, .int .u64 0] 83)) fun e w' => e = .returned (.bool true) ∧ Chg [] (w.alloc (.cells #[.int .i64 2, .int .i64 i, .int .u64 0, .string noText, .int .u64 0] 83)) w')) :
    Calls Try.prog 16 #[.agg #[.int .i64 2, .int .i64 i, .int .u64 0, .string noText, .int .u64 0], .int .i64 (u : Int)] w fun e w' => e = .returned (.bool true) ∧ Chg [] w w' := by
  subst hN
  have hB0 : Blk (w.alloc (.cells #[.int .i64 2, .int .i64 i, .int .u64 0, .string noText, .int .u64 0] 83)) w.heap.size 83 [.int .i64 2, .int .i64 i, .int .u64 0, .string noText, .int .u64 0] := Blk.newL [_, _, _, _, _] rfl
  have HB0 := Mem.Aside.mk hB0
  have HC0 : Mem.Aside (Chg [] w (w.alloc (.cells #[.int .i64 2, .int .i64 i, .int .u64 0, .string noText, .int .u64 0] 83))) := ⟨(Chg.refl [] w).alloc _⟩
  clear hB0
  go_enter Try.func16, Try.ntmps16
  go_upto_region 3 with (go_at_call 51; (with_reducible refine CP.out.mono ?_); rintro e w1 ⟨rfl, hc1⟩; have HC1 := Mem.Aside.mk (HC0.out.then hc1 (by simp)); have HB1 := Mem.Aside.mk (HB0.out.chg hc1 (by simp)); have b0 := HB1.out.cellAt (i := 0) rfl; have b1 := HB1.out.cellAt (i := 1) rfl; have b2 := HB1.out.cellAt (i := 2) rfl; have b3 := HB1.out.cellAt (i := 3) rfl; have b4 := HB1.out.cellAt (i := 4) rfl; clear hc1)
  clear b0 b1 b2 b3 b4
  have CN := Mem.Aside.mk (new_k u (by have := HU.out.1; omega) w1)
  go_upto_region 11 with (go_at_call 38; (with_reducible refine CN.out.mono ?_); rintro e w2 ⟨p, G, rfl, h2, hc2, hg2⟩; have H2 := Mem.Aside.mk (And.intro h2 (And.intro (HC1.out.then hc2 (by simp)) (fun x hx => Nat.le_trans HC1.out.size (hg2 x hx)))); have HB2 := Mem.Aside.mk (HB1.out.chg hc2 (by simp)); have b0 := HB2.out.cellAt (i := 0) rfl; have b1 := HB2.out.cellAt (i := 1) rfl; have b2 := HB2.out.cellAt (i := 2) rfl; have b3 := HB2.out.cellAt (i := 3) rfl; have b4 := HB2.out.cellAt (i := 4) rfl; clear h2 hc2 hg2)
  have CB := Mem.Aside.mk (box_k H2.out.1 (.int i) HU.out.2.1 (rv := .slice none 0 0) (rs := []) (Row.nil _ _ _) (by simp) (by simp) (by simp) (by simp [hwC]))
  rw [Val.v_eq] at CB
  simp only [Val.k, Val.i, Val.b, Val.t, show ((0 : Nat) : Int) = 0 from rfl] at CB
  by_cases fit : 0 ≤ u
  · have fit1 : (0 : Int) ≤ (u : Int) := by omega
    have fit2 : decide ((u : Int) < (0 : Int)) = false := decide_eq_false (by omega)
    go_upto_region 12 with (go_at_call 46; (with_reducible refine CB.out.mono ?_); rintro e w3 ⟨a, er, rfl, hbk⟩; have HBK := Mem.Aside.mk hbk; clear hbk)
    obtain ⟨hch, G', hG', ⟨_, rfl, K, s1, s2, s3, s4, s5⟩ | ⟨hlt, _⟩⟩ := HBK.out
    case inr => exact absurd hlt (by have := HU.out.2.2; simp only [needL, List.map_nil, List.sum_nil]; omega)
    have hcls := class_of s1 s2 HU.out.2.1 s5
    have hlta := (s1.more (fun q hq => List.mem_append_right [] hq)).lt s2 HU.out.2.1
    have hnl : needL ([] ++ K) = 0 := by rw [s3, HU.out.2.2]; simp [needL]
    have CRE := Mem.Aside.mk (fun (W : World) (hc : Chg [] w3 W) => reach_k ((s2.chg hc (by simp)).chg ((Chg.refl [] W).alloc (.cells #[.int .u64 (a : Int)] 22)) (by simp)) (rv := .slice (some ⟨W.heap.size, 0, none⟩) 1 1) (rs := [a]) (Row.mk (rest := []) (Blk.newL [.int .u64 (a : Int)] rfl) rfl (Nat.le_refl _) (by decide) rfl) (by simp) (by intro x hx; simp at hx; subst hx; exact hlta.1) (by intro x hx; simp at hx; subst hx; exact hlta.2) (by intro x hx; have := s4 x (by simpa using hx); simp [this]))
    rw [hnl] at CRE
    have CCL := Mem.Aside.mk (rclass_calls a hlta.1)
    obtain ⟨C, hC⟩ : ∃ C, C = Wd.cls a := ⟨_, rfl⟩
    rw [← hC] at CCL hcls
    have e6 : ((C : Int) == 6) = decide (0 < 0) := by
      have : (0 < 0) ↔ C = 6 := by have h := hcls; rw [← HU.out.2.2] at h; exact h.symm
      by_cases q : C = 6
      · subst q; rw [decide_eq_true (this.2 rfl)]; rfl
      · rw [decide_eq_false (fun e => q (this.1 e))]; simpa using (by omega : ¬ (C : Int) = 6)
    simp only [Nat.lt_irrefl, decide_false] at e6
    rw [show ((0 : Nat) : Int) = 0 from rfl] at CRE
    have HF := Mem.Aside.mk (H2.out.2.1.then hch (fun x hx => .inr (H2.out.2.2 x hx)))
    have CAW := Mem.Aside.mk awake7_calls
    clear hch hG' s1 s2 s3 s4 s5 hcls hlta hnl hC b0 b1 b2 b3 b4 fit
    go_wp2_with (first
      | (go_at_call 40; (with_reducible refine (CRE.out _ (Chg.refl _ _)).mono ?_); rintro e w4 ⟨rfl, hc4⟩; have HC4 := Mem.Aside.mk ((HF.out.alloc (.cells #[.int .u64 (a : Int)] 22)).then hc4 (by simp)); clear hc4)
      | (go_at_call 47; (with_reducible refine (CCL.out _).mono ?_); rintro e w5 ⟨rfl, hc5⟩; have HC5 := Mem.Aside.mk (HC4.out.then hc5 (by simp)); clear hc5)
      | (go_at_call 50; (with_reducible refine (CAW.out _).mono ?_); rintro e w6 ⟨rfl, hc6⟩; have HC6 := Mem.Aside.mk (HC5.out.then hc6 (by simp)); clear hc6))
    go_ret
    exact ⟨rfl, HC6.out⟩
  · exact absurd (Nat.zero_le u) fit
set_option maxHeartbeats 16000000 in
set_option maxRecDepth 100000 in
theorem n_below {w : World} (i : Int) (f1 : i < -140737488355328) (u N : Nat) (hN : N = 2) (HU : Mem.Aside (u ≤ 100 ∧ Val.ok (.int i) ∧ N = Val.need (.int i))) (hu : (u : Int) ≤ 100) (CP : Mem.Aside (Calls Try.prog 51 #[.agg #[.int .i64 2, .int .i64 i, .int .u64 0, .string noText, .int .u64 0]] (w.alloc (.cells #[.int .i64 2, .int .i64 i, .int .u64 0, .string noText, .int .u64 0] 83)) fun e w' => e = .returned (.bool true) ∧ Chg [] (w.alloc (.cells #[.int .i64 2, .int .i64 i, .int .u64 0, .string noText, .int .u64 0] 83)) w')) :
    Calls Try.prog 16 #[.agg #[.int .i64 2, .int .i64 i, .int .u64 0, .string noText, .int .u64 0], .int .i64 (u : Int)] w fun e w' => e = .returned (.bool true) ∧ Chg [] w w' := by
  subst hN
  have hB0 : Blk (w.alloc (.cells #[.int .i64 2, .int .i64 i, .int .u64 0, .string noText, .int .u64 0] 83)) w.heap.size 83 [.int .i64 2, .int .i64 i, .int .u64 0, .string noText, .int .u64 0] := Blk.newL [_, _, _, _, _] rfl
  have HB0 := Mem.Aside.mk hB0
  have HC0 : Mem.Aside (Chg [] w (w.alloc (.cells #[.int .i64 2, .int .i64 i, .int .u64 0, .string noText, .int .u64 0] 83))) := ⟨(Chg.refl [] w).alloc _⟩
  clear hB0
  go_enter Try.func16, Try.ntmps16
  go_upto_region 3 with (go_at_call 51; (with_reducible refine CP.out.mono ?_); rintro e w1 ⟨rfl, hc1⟩; have HC1 := Mem.Aside.mk (HC0.out.then hc1 (by simp)); have HB1 := Mem.Aside.mk (HB0.out.chg hc1 (by simp)); have b0 := HB1.out.cellAt (i := 0) rfl; have b1 := HB1.out.cellAt (i := 1) rfl; have b2 := HB1.out.cellAt (i := 2) rfl; have b3 := HB1.out.cellAt (i := 3) rfl; have b4 := HB1.out.cellAt (i := 4) rfl; clear hc1)
  clear b0 b1 b2 b3 b4
  have CN := Mem.Aside.mk (new_k u (by have := HU.out.1; omega) w1)
  go_upto_region 11 with (go_at_call 38; (with_reducible refine CN.out.mono ?_); rintro e w2 ⟨p, G, rfl, h2, hc2, hg2⟩; have H2 := Mem.Aside.mk (And.intro h2 (And.intro (HC1.out.then hc2 (by simp)) (fun x hx => Nat.le_trans HC1.out.size (hg2 x hx)))); have HB2 := Mem.Aside.mk (HB1.out.chg hc2 (by simp)); have b0 := HB2.out.cellAt (i := 0) rfl; have b1 := HB2.out.cellAt (i := 1) rfl; have b2 := HB2.out.cellAt (i := 2) rfl; have b3 := HB2.out.cellAt (i := 3) rfl; have b4 := HB2.out.cellAt (i := 4) rfl; clear h2 hc2 hg2)
  have CB := Mem.Aside.mk (box_k H2.out.1 (.int i) HU.out.2.1 (rv := .slice none 0 0) (rs := []) (Row.nil _ _ _) (by simp) (by simp) (by simp) (by simp [hwC]))
  rw [Val.v_eq] at CB
  simp only [Val.k, Val.i, Val.b, Val.t, show ((0 : Nat) : Int) = 0 from rfl] at CB
  by_cases fit : 2 ≤ u
  · have fit1 : (2 : Int) ≤ (u : Int) := by omega
    have fit2 : decide ((u : Int) < (2 : Int)) = false := decide_eq_false (by omega)
    go_upto_region 12 with (go_at_call 46; (with_reducible refine CB.out.mono ?_); rintro e w3 ⟨a, er, rfl, hbk⟩; have HBK := Mem.Aside.mk hbk; clear hbk)
    obtain ⟨hch, G', hG', ⟨_, rfl, K, s1, s2, s3, s4, s5⟩ | ⟨hlt, _⟩⟩ := HBK.out
    case inr => exact absurd hlt (by have := HU.out.2.2; simp only [needL, List.map_nil, List.sum_nil]; omega)
    have hcls := class_of s1 s2 HU.out.2.1 s5
    have hlta := (s1.more (fun q hq => List.mem_append_right [] hq)).lt s2 HU.out.2.1
    have hnl : needL ([] ++ K) = 2 := by rw [s3, HU.out.2.2]; simp [needL]
    have CRE := Mem.Aside.mk (fun (W : World) (hc : Chg [] w3 W) => reach_k ((s2.chg hc (by simp)).chg ((Chg.refl [] W).alloc (.cells #[.int .u64 (a : Int)] 22)) (by simp)) (rv := .slice (some ⟨W.heap.size, 0, none⟩) 1 1) (rs := [a]) (Row.mk (rest := []) (Blk.newL [.int .u64 (a : Int)] rfl) rfl (Nat.le_refl _) (by decide) rfl) (by simp) (by intro x hx; simp at hx; subst hx; exact hlta.1) (by intro x hx; simp at hx; subst hx; exact hlta.2) (by intro x hx; have := s4 x (by simpa using hx); simp [this]))
    rw [hnl] at CRE
    have CCL := Mem.Aside.mk (rclass_calls a hlta.1)
    obtain ⟨C, hC⟩ : ∃ C, C = Wd.cls a := ⟨_, rfl⟩
    rw [← hC] at CCL hcls
    have e6 : ((C : Int) == 6) = decide (0 < 2) := by
      have : (0 < 2) ↔ C = 6 := by have h := hcls; rw [← HU.out.2.2] at h; exact h.symm
      by_cases q : C = 6
      · subst q; rw [decide_eq_true (this.2 rfl)]; rfl
      · rw [decide_eq_false (fun e => q (this.1 e))]; simpa using (by omega : ¬ (C : Int) = 6)
    simp only [Nat.zero_lt_succ, decide_true] at e6
    rw [show ((2 : Nat) : Int) = 2 from rfl] at CRE
    have HF := Mem.Aside.mk (H2.out.2.1.then hch (fun x hx => .inr (H2.out.2.2 x hx)))
    have CAW := Mem.Aside.mk awake7_calls
    clear hch hG' s1 s2 s3 s4 s5 hcls hlta hnl hC b0 b1 b2 b3 b4 fit
    go_wp2_with (first
      | (go_at_call 40; (with_reducible refine (CRE.out _ (Chg.refl _ _)).mono ?_); rintro e w4 ⟨rfl, hc4⟩; have HC4 := Mem.Aside.mk ((HF.out.alloc (.cells #[.int .u64 (a : Int)] 22)).then hc4 (by simp)); clear hc4)
      | (go_at_call 47; (with_reducible refine (CCL.out _).mono ?_); rintro e w5 ⟨rfl, hc5⟩; have HC5 := Mem.Aside.mk (HC4.out.then hc5 (by simp)); clear hc5)
      | (go_at_call 50; (with_reducible refine (CAW.out _).mono ?_); rintro e w6 ⟨rfl, hc6⟩; have HC6 := Mem.Aside.mk (HC5.out.then hc6 (by simp)); clear hc6))
    go_ret
    exact ⟨rfl, HC6.out⟩
  · have fit1 : (u : Int) < (2 : Int) := by omega
    have fit2 : decide ((u : Int) < (2 : Int)) = true := decide_eq_true fit1
    go_upto_region 12 with (go_at_call 46; (with_reducible refine CB.out.mono ?_); rintro e w3 ⟨a, er, rfl, hbk⟩; have HBK := Mem.Aside.mk hbk; clear hbk)
    obtain ⟨hch, G', hG', ⟨hle, _⟩ | ⟨_, rfl, rfl, _⟩⟩ := HBK.out
    case inl => exact absurd hle (by have := HU.out.2.2; simp only [needL, List.map_nil, List.sum_nil]; omega)
    have HF := Mem.Aside.mk (H2.out.2.1.then hch (fun x hx => .inr (H2.out.2.2 x hx)))
    have CAW := Mem.Aside.mk awake7_calls
    clear hch hG' b0 b1 b2 b3 b4 fit
    go_wp2_with (go_at_call 50; (with_reducible refine (CAW.out _).mono ?_); rintro e w6 ⟨rfl, hc6⟩; have HC6 := Mem.Aside.mk (HF.out.then hc6 (by simp)); clear hc6)
    go_ret
    exact ⟨rfl, HC6.out⟩
set_option maxHeartbeats 16000000 in
set_option maxRecDepth 100000 in
theorem n_above {w : World} (i : Int) (f1 : decide (i < -140737488355328) = false) (f2 : 140737488355328 ≤ i) (u N : Nat) (hN : N = 2) (HU : Mem.Aside (u ≤ 100 ∧ Val.ok (.int i) ∧ N = Val.need (.int i))) (hu : (u : Int) ≤ 100) (CP : Mem.Aside (Calls Try.prog 51 #[.agg #[.int .i64 2, .int .i64 i, .int .u64 0, .string noText, .int .u64 0]] (w.alloc (.cells #[.int .i64 2, .int .i64 i, .int .u64 0, .string noText, .int .u64 0] 83)) fun e w' => e = .returned (.bool true) ∧ Chg [] (w.alloc (.cells #[.int .i64 2, .int .i64 i, .int .u64 0, .string noText, .int .u64 0] 83)) w')) :
    Calls Try.prog 16 #[.agg #[.int .i64 2, .int .i64 i, .int .u64 0, .string noText, .int .u64 0], .int .i64 (u : Int)] w fun e w' => e = .returned (.bool true) ∧ Chg [] w w' := by
  subst hN
  have hB0 : Blk (w.alloc (.cells #[.int .i64 2, .int .i64 i, .int .u64 0, .string noText, .int .u64 0] 83)) w.heap.size 83 [.int .i64 2, .int .i64 i, .int .u64 0, .string noText, .int .u64 0] := Blk.newL [_, _, _, _, _] rfl
  have HB0 := Mem.Aside.mk hB0
  have HC0 : Mem.Aside (Chg [] w (w.alloc (.cells #[.int .i64 2, .int .i64 i, .int .u64 0, .string noText, .int .u64 0] 83))) := ⟨(Chg.refl [] w).alloc _⟩
  clear hB0
  go_enter Try.func16, Try.ntmps16
  go_upto_region 3 with (go_at_call 51; (with_reducible refine CP.out.mono ?_); rintro e w1 ⟨rfl, hc1⟩; have HC1 := Mem.Aside.mk (HC0.out.then hc1 (by simp)); have HB1 := Mem.Aside.mk (HB0.out.chg hc1 (by simp)); have b0 := HB1.out.cellAt (i := 0) rfl; have b1 := HB1.out.cellAt (i := 1) rfl; have b2 := HB1.out.cellAt (i := 2) rfl; have b3 := HB1.out.cellAt (i := 3) rfl; have b4 := HB1.out.cellAt (i := 4) rfl; clear hc1)
  clear b0 b1 b2 b3 b4
  have CN := Mem.Aside.mk (new_k u (by have := HU.out.1; omega) w1)
  go_upto_region 11 with (go_at_call 38; (with_reducible refine CN.out.mono ?_); rintro e w2 ⟨p, G, rfl, h2, hc2, hg2⟩; have H2 := Mem.Aside.mk (And.intro h2 (And.intro (HC1.out.then hc2 (by simp)) (fun x hx => Nat.le_trans HC1.out.size (hg2 x hx)))); have HB2 := Mem.Aside.mk (HB1.out.chg hc2 (by simp)); have b0 := HB2.out.cellAt (i := 0) rfl; have b1 := HB2.out.cellAt (i := 1) rfl; have b2 := HB2.out.cellAt (i := 2) rfl; have b3 := HB2.out.cellAt (i := 3) rfl; have b4 := HB2.out.cellAt (i := 4) rfl; clear h2 hc2 hg2)
  have CB := Mem.Aside.mk (box_k H2.out.1 (.int i) HU.out.2.1 (rv := .slice none 0 0) (rs := []) (Row.nil _ _ _) (by simp) (by simp) (by simp) (by simp [hwC]))
  rw [Val.v_eq] at CB
  simp only [Val.k, Val.i, Val.b, Val.t, show ((0 : Nat) : Int) = 0 from rfl] at CB
  by_cases fit : 2 ≤ u
  · have fit1 : (2 : Int) ≤ (u : Int) := by omega
    have fit2 : decide ((u : Int) < (2 : Int)) = false := decide_eq_false (by omega)
    go_upto_region 12 with (go_at_call 46; (with_reducible refine CB.out.mono ?_); rintro e w3 ⟨a, er, rfl, hbk⟩; have HBK := Mem.Aside.mk hbk; clear hbk)
    obtain ⟨hch, G', hG', ⟨_, rfl, K, s1, s2, s3, s4, s5⟩ | ⟨hlt, _⟩⟩ := HBK.out
    case inr => exact absurd hlt (by have := HU.out.2.2; simp only [needL, List.map_nil, List.sum_nil]; omega)
    have hcls := class_of s1 s2 HU.out.2.1 s5
    have hlta := (s1.more (fun q hq => List.mem_append_right [] hq)).lt s2 HU.out.2.1
    have hnl : needL ([] ++ K) = 2 := by rw [s3, HU.out.2.2]; simp [needL]
    have CRE := Mem.Aside.mk (fun (W : World) (hc : Chg [] w3 W) => reach_k ((s2.chg hc (by simp)).chg ((Chg.refl [] W).alloc (.cells #[.int .u64 (a : Int)] 22)) (by simp)) (rv := .slice (some ⟨W.heap.size, 0, none⟩) 1 1) (rs := [a]) (Row.mk (rest := []) (Blk.newL [.int .u64 (a : Int)] rfl) rfl (Nat.le_refl _) (by decide) rfl) (by simp) (by intro x hx; simp at hx; subst hx; exact hlta.1) (by intro x hx; simp at hx; subst hx; exact hlta.2) (by intro x hx; have := s4 x (by simpa using hx); simp [this]))
    rw [hnl] at CRE
    have CCL := Mem.Aside.mk (rclass_calls a hlta.1)
    obtain ⟨C, hC⟩ : ∃ C, C = Wd.cls a := ⟨_, rfl⟩
    rw [← hC] at CCL hcls
    have e6 : ((C : Int) == 6) = decide (0 < 2) := by
      have : (0 < 2) ↔ C = 6 := by have h := hcls; rw [← HU.out.2.2] at h; exact h.symm
      by_cases q : C = 6
      · subst q; rw [decide_eq_true (this.2 rfl)]; rfl
      · rw [decide_eq_false (fun e => q (this.1 e))]; simpa using (by omega : ¬ (C : Int) = 6)
    simp only [Nat.zero_lt_succ, decide_true] at e6
    rw [show ((2 : Nat) : Int) = 2 from rfl] at CRE
    have HF := Mem.Aside.mk (H2.out.2.1.then hch (fun x hx => .inr (H2.out.2.2 x hx)))
    have CAW := Mem.Aside.mk awake7_calls
    clear hch hG' s1 s2 s3 s4 s5 hcls hlta hnl hC b0 b1 b2 b3 b4 fit
    go_wp2_with (first
      | (go_at_call 40; (with_reducible refine (CRE.out _ (Chg.refl _ _)).mono ?_); rintro e w4 ⟨rfl, hc4⟩; have HC4 := Mem.Aside.mk ((HF.out.alloc (.cells #[.int .u64 (a : Int)] 22)).then hc4 (by simp)); clear hc4)
      | (go_at_call 47; (with_reducible refine (CCL.out _).mono ?_); rintro e w5 ⟨rfl, hc5⟩; have HC5 := Mem.Aside.mk (HC4.out.then hc5 (by simp)); clear hc5)
      | (go_at_call 50; (with_reducible refine (CAW.out _).mono ?_); rintro e w6 ⟨rfl, hc6⟩; have HC6 := Mem.Aside.mk (HC5.out.then hc6 (by simp)); clear hc6))
    go_ret
    exact ⟨rfl, HC6.out⟩
  · have fit1 : (u : Int) < (2 : Int) := by omega
    have fit2 : decide ((u : Int) < (2 : Int)) = true := decide_eq_true fit1
    go_upto_region 12 with (go_at_call 46; (with_reducible refine CB.out.mono ?_); rintro e w3 ⟨a, er, rfl, hbk⟩; have HBK := Mem.Aside.mk hbk; clear hbk)
    obtain ⟨hch, G', hG', ⟨hle, _⟩ | ⟨_, rfl, rfl, _⟩⟩ := HBK.out
    case inl => exact absurd hle (by have := HU.out.2.2; simp only [needL, List.map_nil, List.sum_nil]; omega)
    have HF := Mem.Aside.mk (H2.out.2.1.then hch (fun x hx => .inr (H2.out.2.2 x hx)))
    have CAW := Mem.Aside.mk awake7_calls
    clear hch hG' b0 b1 b2 b3 b4 fit
    go_wp2_with (go_at_call 50; (with_reducible refine (CAW.out _).mono ?_); rintro e w6 ⟨rfl, hc6⟩; have HC6 := Mem.Aside.mk (HF.out.then hc6 (by simp)); clear hc6)
    go_ret
    exact ⟨rfl, HC6.out⟩
set_option maxHeartbeats 16000000 in
set_option maxRecDepth 100000 in
theorem n_float {w : World} (b : Nat) (u N : Nat) (hN : N = 0) (HU : Mem.Aside (u ≤ 100 ∧ Val.ok (.float b) ∧ N = Val.need (.float b))) (hu : (u : Int) ≤ 100) (CP : Mem.Aside (Calls Try.prog 51 #[.agg #[.int .i64 3, .int .i64 0, .int .u64 (b : Int), .string noText, .int .u64 0]] (w.alloc (.cells #[.int .i64 3, .int .i64 0, .int .u64 (b : Int), .string noText, .int .u64 0] 83)) fun e w' => e = .returned (.bool true) ∧ Chg [] (w.alloc (.cells #[.int .i64 3, .int .i64 0, .int .u64 (b : Int), .string noText, .int .u64 0] 83)) w')) :
    Calls Try.prog 16 #[.agg #[.int .i64 3, .int .i64 0, .int .u64 (b : Int), .string noText, .int .u64 0], .int .i64 (u : Int)] w fun e w' => e = .returned (.bool true) ∧ Chg [] w w' := by
  subst hN
  have hB0 : Blk (w.alloc (.cells #[.int .i64 3, .int .i64 0, .int .u64 (b : Int), .string noText, .int .u64 0] 83)) w.heap.size 83 [.int .i64 3, .int .i64 0, .int .u64 (b : Int), .string noText, .int .u64 0] := Blk.newL [_, _, _, _, _] rfl
  have HB0 := Mem.Aside.mk hB0
  have HC0 : Mem.Aside (Chg [] w (w.alloc (.cells #[.int .i64 3, .int .i64 0, .int .u64 (b : Int), .string noText, .int .u64 0] 83))) := ⟨(Chg.refl [] w).alloc _⟩
  clear hB0
  go_enter Try.func16, Try.ntmps16
  go_upto_region 3 with (go_at_call 51; (with_reducible refine CP.out.mono ?_); rintro e w1 ⟨rfl, hc1⟩; have HC1 := Mem.Aside.mk (HC0.out.then hc1 (by simp)); have HB1 := Mem.Aside.mk (HB0.out.chg hc1 (by simp)); have b0 := HB1.out.cellAt (i := 0) rfl; have b1 := HB1.out.cellAt (i := 1) rfl; have b2 := HB1.out.cellAt (i := 2) rfl; have b3 := HB1.out.cellAt (i := 3) rfl; have b4 := HB1.out.cellAt (i := 4) rfl; clear hc1)
  clear b0 b1 b2 b3 b4
  have CN := Mem.Aside.mk (new_k u (by have := HU.out.1; omega) w1)
  go_upto_region 11 with (go_at_call 38; (with_reducible refine CN.out.mono ?_); rintro e w2 ⟨p, G, rfl, h2, hc2, hg2⟩; have H2 := Mem.Aside.mk (And.intro h2 (And.intro (HC1.out.then hc2 (by simp)) (fun x hx => Nat.le_trans HC1.out.size (hg2 x hx)))); have HB2 := Mem.Aside.mk (HB1.out.chg hc2 (by simp)); have b0 := HB2.out.cellAt (i := 0) rfl; have b1 := HB2.out.cellAt (i := 1) rfl; have b2 := HB2.out.cellAt (i := 2) rfl; have b3 := HB2.out.cellAt (i := 3) rfl; have b4 := HB2.out.cellAt (i := 4) rfl; clear h2 hc2 hg2)
  have CB := Mem.Aside.mk (box_k H2.out.1 (.float b) HU.out.2.1 (rv := .slice none 0 0) (rs := []) (Row.nil _ _ _) (by simp) (by simp) (by simp) (by simp [hwC]))
  rw [Val.v_eq] at CB
  simp only [Val.k, Val.i, Val.b, Val.t, show ((0 : Nat) : Int) = 0 from rfl] at CB
  by_cases fit : 0 ≤ u
  · have fit1 : (0 : Int) ≤ (u : Int) := by omega
    have fit2 : decide ((u : Int) < (0 : Int)) = false := decide_eq_false (by omega)
    go_upto_region 12 with (go_at_call 46; (with_reducible refine CB.out.mono ?_); rintro e w3 ⟨a, er, rfl, hbk⟩; have HBK := Mem.Aside.mk hbk; clear hbk)
    obtain ⟨hch, G', hG', ⟨_, rfl, K, s1, s2, s3, s4, s5⟩ | ⟨hlt, _⟩⟩ := HBK.out
    case inr => exact absurd hlt (by have := HU.out.2.2; simp only [needL, List.map_nil, List.sum_nil]; omega)
    have hcls := class_of s1 s2 HU.out.2.1 s5
    have hlta := (s1.more (fun q hq => List.mem_append_right [] hq)).lt s2 HU.out.2.1
    have hnl : needL ([] ++ K) = 0 := by rw [s3, HU.out.2.2]; simp [needL]
    have CRE := Mem.Aside.mk (fun (W : World) (hc : Chg [] w3 W) => reach_k ((s2.chg hc (by simp)).chg ((Chg.refl [] W).alloc (.cells #[.int .u64 (a : Int)] 22)) (by simp)) (rv := .slice (some ⟨W.heap.size, 0, none⟩) 1 1) (rs := [a]) (Row.mk (rest := []) (Blk.newL [.int .u64 (a : Int)] rfl) rfl (Nat.le_refl _) (by decide) rfl) (by simp) (by intro x hx; simp at hx; subst hx; exact hlta.1) (by intro x hx; simp at hx; subst hx; exact hlta.2) (by intro x hx; have := s4 x (by simpa using hx); simp [this]))
    rw [hnl] at CRE
    have CCL := Mem.Aside.mk (rclass_calls a hlta.1)
    obtain ⟨C, hC⟩ : ∃ C, C = Wd.cls a := ⟨_, rfl⟩
    rw [← hC] at CCL hcls
    have e6 : ((C : Int) == 6) = decide (0 < 0) := by
      have : (0 < 0) ↔ C = 6 := by have h := hcls; rw [← HU.out.2.2] at h; exact h.symm
      by_cases q : C = 6
      · subst q; rw [decide_eq_true (this.2 rfl)]; rfl
      · rw [decide_eq_false (fun e => q (this.1 e))]; simpa using (by omega : ¬ (C : Int) = 6)
    simp only [Nat.lt_irrefl, decide_false] at e6
    rw [show ((0 : Nat) : Int) = 0 from rfl] at CRE
    have HF := Mem.Aside.mk (H2.out.2.1.then hch (fun x hx => .inr (H2.out.2.2 x hx)))
    have CAW := Mem.Aside.mk awake7_calls
    clear hch hG' s1 s2 s3 s4 s5 hcls hlta hnl hC b0 b1 b2 b3 b4 fit
    go_wp2_with (first
      | (go_at_call 40; (with_reducible refine (CRE.out _ (Chg.refl _ _)).mono ?_); rintro e w4 ⟨rfl, hc4⟩; have HC4 := Mem.Aside.mk ((HF.out.alloc (.cells #[.int .u64 (a : Int)] 22)).then hc4 (by simp)); clear hc4)
      | (go_at_call 47; (with_reducible refine (CCL.out _).mono ?_); rintro e w5 ⟨rfl, hc5⟩; have HC5 := Mem.Aside.mk (HC4.out.then hc5 (by simp)); clear hc5)
      | (go_at_call 50; (with_reducible refine (CAW.out _).mono ?_); rintro e w6 ⟨rfl, hc6⟩; have HC6 := Mem.Aside.mk (HC5.out.then hc6 (by simp)); clear hc6))
    go_ret
    exact ⟨rfl, HC6.out⟩
  · exact absurd (Nat.zero_le u) fit
set_option maxHeartbeats 16000000 in
set_option maxRecDepth 100000 in
theorem n_short {w : World} (s : ByteArray) (f1 : decide ((5 : Int) < (s.size : Int)) = false) (f2 : (s.size : Int) ≤ 300) (u N : Nat) (hN : N = 0) (HU : Mem.Aside (u ≤ 100 ∧ Val.ok (.text s) ∧ N = Val.need (.text s))) (hu : (u : Int) ≤ 100) (CP : Mem.Aside (Calls Try.prog 51 #[.agg #[.int .i64 4, .int .i64 0, .int .u64 0, .string s, .int .u64 0]] (w.alloc (.cells #[.int .i64 4, .int .i64 0, .int .u64 0, .string s, .int .u64 0] 83)) fun e w' => e = .returned (.bool true) ∧ Chg [] (w.alloc (.cells #[.int .i64 4, .int .i64 0, .int .u64 0, .string s, .int .u64 0] 83)) w')) :
    Calls Try.prog 16 #[.agg #[.int .i64 4, .int .i64 0, .int .u64 0, .string s, .int .u64 0], .int .i64 (u : Int)] w fun e w' => e = .returned (.bool true) ∧ Chg [] w w' := by
  subst hN
  have hB0 : Blk (w.alloc (.cells #[.int .i64 4, .int .i64 0, .int .u64 0, .string s, .int .u64 0] 83)) w.heap.size 83 [.int .i64 4, .int .i64 0, .int .u64 0, .string s, .int .u64 0] := Blk.newL [_, _, _, _, _] rfl
  have HB0 := Mem.Aside.mk hB0
  have HC0 : Mem.Aside (Chg [] w (w.alloc (.cells #[.int .i64 4, .int .i64 0, .int .u64 0, .string s, .int .u64 0] 83))) := ⟨(Chg.refl [] w).alloc _⟩
  clear hB0
  go_enter Try.func16, Try.ntmps16
  go_upto_region 3 with (go_at_call 51; (with_reducible refine CP.out.mono ?_); rintro e w1 ⟨rfl, hc1⟩; have HC1 := Mem.Aside.mk (HC0.out.then hc1 (by simp)); have HB1 := Mem.Aside.mk (HB0.out.chg hc1 (by simp)); have b0 := HB1.out.cellAt (i := 0) rfl; have b1 := HB1.out.cellAt (i := 1) rfl; have b2 := HB1.out.cellAt (i := 2) rfl; have b3 := HB1.out.cellAt (i := 3) rfl; have b4 := HB1.out.cellAt (i := 4) rfl; clear hc1)
  clear b0 b1 b2 b3 b4
  have CN := Mem.Aside.mk (new_k u (by have := HU.out.1; omega) w1)
  go_upto_region 11 with (go_at_call 38; (with_reducible refine CN.out.mono ?_); rintro e w2 ⟨p, G, rfl, h2, hc2, hg2⟩; have H2 := Mem.Aside.mk (And.intro h2 (And.intro (HC1.out.then hc2 (by simp)) (fun x hx => Nat.le_trans HC1.out.size (hg2 x hx)))); have HB2 := Mem.Aside.mk (HB1.out.chg hc2 (by simp)); have b0 := HB2.out.cellAt (i := 0) rfl; have b1 := HB2.out.cellAt (i := 1) rfl; have b2 := HB2.out.cellAt (i := 2) rfl; have b3 := HB2.out.cellAt (i := 3) rfl; have b4 := HB2.out.cellAt (i := 4) rfl; clear h2 hc2 hg2)
  have CB := Mem.Aside.mk (box_k H2.out.1 (.text s) HU.out.2.1 (rv := .slice none 0 0) (rs := []) (Row.nil _ _ _) (by simp) (by simp) (by simp) (by simp [hwC]))
  rw [Val.v_eq] at CB
  simp only [Val.k, Val.i, Val.b, Val.t, show ((0 : Nat) : Int) = 0 from rfl] at CB
  by_cases fit : 0 ≤ u
  · have fit1 : (0 : Int) ≤ (u : Int) := by omega
    have fit2 : decide ((u : Int) < (0 : Int)) = false := decide_eq_false (by omega)
    go_upto_region 12 with (go_at_call 46; (with_reducible refine CB.out.mono ?_); rintro e w3 ⟨a, er, rfl, hbk⟩; have HBK := Mem.Aside.mk hbk; clear hbk)
    obtain ⟨hch, G', hG', ⟨_, rfl, K, s1, s2, s3, s4, s5⟩ | ⟨hlt, _⟩⟩ := HBK.out
    case inr => exact absurd hlt (by have := HU.out.2.2; simp only [needL, List.map_nil, List.sum_nil]; omega)
    have hcls := class_of s1 s2 HU.out.2.1 s5
    have hlta := (s1.more (fun q hq => List.mem_append_right [] hq)).lt s2 HU.out.2.1
    have hnl : needL ([] ++ K) = 0 := by rw [s3, HU.out.2.2]; simp [needL]
    have CRE := Mem.Aside.mk (fun (W : World) (hc : Chg [] w3 W) => reach_k ((s2.chg hc (by simp)).chg ((Chg.refl [] W).alloc (.cells #[.int .u64 (a : Int)] 22)) (by simp)) (rv := .slice (some ⟨W.heap.size, 0, none⟩) 1 1) (rs := [a]) (Row.mk (rest := []) (Blk.newL [.int .u64 (a : Int)] rfl) rfl (Nat.le_refl _) (by decide) rfl) (by simp) (by intro x hx; simp at hx; subst hx; exact hlta.1) (by intro x hx; simp at hx; subst hx; exact hlta.2) (by intro x hx; have := s4 x (by simpa using hx); simp [this]))
    rw [hnl] at CRE
    have CCL := Mem.Aside.mk (rclass_calls a hlta.1)
    obtain ⟨C, hC⟩ : ∃ C, C = Wd.cls a := ⟨_, rfl⟩
    rw [← hC] at CCL hcls
    have e6 : ((C : Int) == 6) = decide (0 < 0) := by
      have : (0 < 0) ↔ C = 6 := by have h := hcls; rw [← HU.out.2.2] at h; exact h.symm
      by_cases q : C = 6
      · subst q; rw [decide_eq_true (this.2 rfl)]; rfl
      · rw [decide_eq_false (fun e => q (this.1 e))]; simpa using (by omega : ¬ (C : Int) = 6)
    simp only [Nat.lt_irrefl, decide_false] at e6
    rw [show ((0 : Nat) : Int) = 0 from rfl] at CRE
    have HF := Mem.Aside.mk (H2.out.2.1.then hch (fun x hx => .inr (H2.out.2.2 x hx)))
    have CAW := Mem.Aside.mk awake7_calls
    clear hch hG' s1 s2 s3 s4 s5 hcls hlta hnl hC b0 b1 b2 b3 b4 fit
    go_wp2_with (first
      | (go_at_call 40; (with_reducible refine (CRE.out _ (Chg.refl _ _)).mono ?_); rintro e w4 ⟨rfl, hc4⟩; have HC4 := Mem.Aside.mk ((HF.out.alloc (.cells #[.int .u64 (a : Int)] 22)).then hc4 (by simp)); clear hc4)
      | (go_at_call 47; (with_reducible refine (CCL.out _).mono ?_); rintro e w5 ⟨rfl, hc5⟩; have HC5 := Mem.Aside.mk (HC4.out.then hc5 (by simp)); clear hc5)
      | (go_at_call 50; (with_reducible refine (CAW.out _).mono ?_); rintro e w6 ⟨rfl, hc6⟩; have HC6 := Mem.Aside.mk (HC5.out.then hc6 (by simp)); clear hc6))
    go_ret
    exact ⟨rfl, HC6.out⟩
  · exact absurd (Nat.zero_le u) fit
set_option maxHeartbeats 16000000 in
set_option maxRecDepth 100000 in
theorem n_long {w : World} (s : ByteArray) (f1 : (5 : Int) < (s.size : Int)) (f2 : (s.size : Int) ≤ 300) (u N : Nat) (hN1 : (1 : Int) + ((s.size : Int) + 7) / 8 = (N : Int)) (hN0 : 0 < N) (HU : Mem.Aside (u ≤ 100 ∧ Val.ok (.text s) ∧ N = Val.need (.text s))) (hu : (u : Int) ≤ 100) (CP : Mem.Aside (Calls Try.prog 51 #[.agg #[.int .i64 4, .int .i64 0, .int .u64 0, .string s, .int .u64 0]] (w.alloc (.cells #[.int .i64 4, .int .i64 0, .int .u64 0, .string s, .int .u64 0] 83)) fun e w' => e = .returned (.bool true) ∧ Chg [] (w.alloc (.cells #[.int .i64 4, .int .i64 0, .int .u64 0, .string s, .int .u64 0] 83)) w')) :
    Calls Try.prog 16 #[.agg #[.int .i64 4, .int .i64 0, .int .u64 0, .string s, .int .u64 0], .int .i64 (u : Int)] w fun e w' => e = .returned (.bool true) ∧ Chg [] w w' := by
  have hB0 : Blk (w.alloc (.cells #[.int .i64 4, .int .i64 0, .int .u64 0, .string s, .int .u64 0] 83)) w.heap.size 83 [.int .i64 4, .int .i64 0, .int .u64 0, .string s, .int .u64 0] := Blk.newL [_, _, _, _, _] rfl
  have HB0 := Mem.Aside.mk hB0
  have HC0 : Mem.Aside (Chg [] w (w.alloc (.cells #[.int .i64 4, .int .i64 0, .int .u64 0, .string s, .int .u64 0] 83))) := ⟨(Chg.refl [] w).alloc _⟩
  clear hB0
  go_enter Try.func16, Try.ntmps16
  go_upto_region 3 with (go_at_call 51; (with_reducible refine CP.out.mono ?_); rintro e w1 ⟨rfl, hc1⟩; have HC1 := Mem.Aside.mk (HC0.out.then hc1 (by simp)); have HB1 := Mem.Aside.mk (HB0.out.chg hc1 (by simp)); have b0 := HB1.out.cellAt (i := 0) rfl; have b1 := HB1.out.cellAt (i := 1) rfl; have b2 := HB1.out.cellAt (i := 2) rfl; have b3 := HB1.out.cellAt (i := 3) rfl; have b4 := HB1.out.cellAt (i := 4) rfl; clear hc1)
  clear b0 b1 b2 b3 b4
  have CN := Mem.Aside.mk (new_k u (by have := HU.out.1; omega) w1)
  go_upto_region 11 with (go_at_call 38; (with_reducible refine CN.out.mono ?_); rintro e w2 ⟨p, G, rfl, h2, hc2, hg2⟩; have H2 := Mem.Aside.mk (And.intro h2 (And.intro (HC1.out.then hc2 (by simp)) (fun x hx => Nat.le_trans HC1.out.size (hg2 x hx)))); have HB2 := Mem.Aside.mk (HB1.out.chg hc2 (by simp)); have b0 := HB2.out.cellAt (i := 0) rfl; have b1 := HB2.out.cellAt (i := 1) rfl; have b2 := HB2.out.cellAt (i := 2) rfl; have b3 := HB2.out.cellAt (i := 3) rfl; have b4 := HB2.out.cellAt (i := 4) rfl; clear h2 hc2 hg2)
  have CB := Mem.Aside.mk (box_k H2.out.1 (.text s) HU.out.2.1 (rv := .slice none 0 0) (rs := []) (Row.nil _ _ _) (by simp) (by simp) (by simp) (by simp [hwC]))
  rw [Val.v_eq] at CB
  simp only [Val.k, Val.i, Val.b, Val.t, show ((0 : Nat) : Int) = 0 from rfl] at CB
  by_cases fit : N ≤ u
  · have fit1 : (N : Int) ≤ (u : Int) := by omega
    have fit2 : decide ((u : Int) < (N : Int)) = false := decide_eq_false (by omega)
    go_upto_region 12 with (go_at_call 46; (with_reducible refine CB.out.mono ?_); rintro e w3 ⟨a, er, rfl, hbk⟩; have HBK := Mem.Aside.mk hbk; clear hbk)
    obtain ⟨hch, G', hG', ⟨_, rfl, K, s1, s2, s3, s4, s5⟩ | ⟨hlt, _⟩⟩ := HBK.out
    case inr => exact absurd hlt (by have := HU.out.2.2; simp only [needL, List.map_nil, List.sum_nil]; omega)
    have hcls := class_of s1 s2 HU.out.2.1 s5
    have hlta := (s1.more (fun q hq => List.mem_append_right [] hq)).lt s2 HU.out.2.1
    have hnl : needL ([] ++ K) = N := by rw [s3, HU.out.2.2]; simp [needL]
    have CRE := Mem.Aside.mk (fun (W : World) (hc : Chg [] w3 W) => reach_k ((s2.chg hc (by simp)).chg ((Chg.refl [] W).alloc (.cells #[.int .u64 (a : Int)] 22)) (by simp)) (rv := .slice (some ⟨W.heap.size, 0, none⟩) 1 1) (rs := [a]) (Row.mk (rest := []) (Blk.newL [.int .u64 (a : Int)] rfl) rfl (Nat.le_refl _) (by decide) rfl) (by simp) (by intro x hx; simp at hx; subst hx; exact hlta.1) (by intro x hx; simp at hx; subst hx; exact hlta.2) (by intro x hx; have := s4 x (by simpa using hx); simp [this]))
    rw [hnl] at CRE
    have CCL := Mem.Aside.mk (rclass_calls a hlta.1)
    obtain ⟨C, hC⟩ : ∃ C, C = Wd.cls a := ⟨_, rfl⟩
    rw [← hC] at CCL hcls
    have e6 : ((C : Int) == 6) = decide (0 < N) := by
      have : (0 < N) ↔ C = 6 := by have h := hcls; rw [← HU.out.2.2] at h; exact h.symm
      by_cases q : C = 6
      · subst q; rw [decide_eq_true (this.2 rfl)]; rfl
      · rw [decide_eq_false (fun e => q (this.1 e))]; simpa using (by omega : ¬ (C : Int) = 6)
    rw [decide_eq_true hN0] at e6
    have hpos : (0 : Int) < (N : Int) := by omega
    have HF := Mem.Aside.mk (H2.out.2.1.then hch (fun x hx => .inr (H2.out.2.2 x hx)))
    have CAW := Mem.Aside.mk awake7_calls
    clear hch hG' s1 s2 s3 s4 s5 hcls hlta hnl hC b0 b1 b2 b3 b4 fit
    go_wp2_with (first
      | (go_at_call 40; (with_reducible refine (CRE.out _ (Chg.refl _ _)).mono ?_); rintro e w4 ⟨rfl, hc4⟩; have HC4 := Mem.Aside.mk ((HF.out.alloc (.cells #[.int .u64 (a : Int)] 22)).then hc4 (by simp)); clear hc4)
      | (go_at_call 47; (with_reducible refine (CCL.out _).mono ?_); rintro e w5 ⟨rfl, hc5⟩; have HC5 := Mem.Aside.mk (HC4.out.then hc5 (by simp)); clear hc5)
      | (go_at_call 50; (with_reducible refine (CAW.out _).mono ?_); rintro e w6 ⟨rfl, hc6⟩; have HC6 := Mem.Aside.mk (HC5.out.then hc6 (by simp)); clear hc6))
    go_ret
    exact ⟨rfl, HC6.out⟩
  · have fit1 : (u : Int) < (N : Int) := by omega
    have fit2 : decide ((u : Int) < (N : Int)) = true := decide_eq_true fit1
    go_upto_region 12 with (go_at_call 46; (with_reducible refine CB.out.mono ?_); rintro e w3 ⟨a, er, rfl, hbk⟩; have HBK := Mem.Aside.mk hbk; clear hbk)
    obtain ⟨hch, G', hG', ⟨hle, _⟩ | ⟨_, rfl, rfl, _⟩⟩ := HBK.out
    case inl => exact absurd hle (by have := HU.out.2.2; simp only [needL, List.map_nil, List.sum_nil]; omega)
    have HF := Mem.Aside.mk (H2.out.2.1.then hch (fun x hx => .inr (H2.out.2.2 x hx)))
    have CAW := Mem.Aside.mk awake7_calls
    clear hch hG' b0 b1 b2 b3 b4 fit
    go_wp2_with (go_at_call 50; (with_reducible refine (CAW.out _).mono ?_); rintro e w6 ⟨rfl, hc6⟩; have HC6 := Mem.Aside.mk (HF.out.then hc6 (by simp)); clear hc6)
    go_ret
    exact ⟨rfl, HC6.out⟩
end Go.Proofs.Ytgimcpnelogadaa.Va
