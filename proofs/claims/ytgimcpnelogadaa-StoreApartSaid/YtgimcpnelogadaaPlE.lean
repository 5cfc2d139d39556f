/- Chapter 5: act, its plain cases: take. -/
import Derived.Test.YtgimcpnelogadaaPlH
import Derived.Test.YtgimcpnelogadaaMemI
namespace Go.Proofs.Ytgimcpnelogadaa.Sto
open Go.RowKit Go.Proofs.Ytgimcpnelogadaa.Mem
set_option linter.unusedVariables false
set_option linter.unusedSimpArgs false
attribute [local go_sem] Oper.semAt_some

/-- What act leaves behind. -/
def ActPost (w : World) (p q : Nat) (G : List Nat) (n : Nat) (e : Ending) (w' : World) : Prop := e = .returned (.bool true) ∧ ∃ G', Pair w' p q G' (n + 1) ∧ Chg G w w' ∧ ∀ k ∈ G', k ∈ G ∨ w.heap.size ≤ k

/-- act returns true. -/
theorem act_ret {w W' : World} {p q n t : Nat} {G G' : List Nat} {tmps : Array Value} (ht : tmps.getD 6 undef = .pointer (some ⟨t, 0, none⟩)) (hc : W'.cell? ⟨t, 0, none⟩ = some (.bool true))
    (hp : Pair W' p q G' (n + 1)) (hg : Chg G w W') (hn : ∀ k ∈ G', k ∈ G ∨ w.heap.size ≤ k) : bodyPostM Fence.wide 9 Try.prog Try.f31 (ActPost w p q G n) .ret { tmps := tmps, defers := [] } W' :=
  ret_marks0 (results_cell1 rfl ht (by simp [isAgg, run_underlying Try.underlying4]) hc) ⟨rfl, G', hp, hg, hn⟩

set_option maxHeartbeats 8000000 in
set_option maxRecDepth 100000 in
theorem act_none {w : World} {p q n : Nat} {G : List Nat} (h : Pair w p q G n) (r : ActR) (hr : r.ok) (hw : ¬ (1 ≤ r.what ∧ r.what ≤ 7)) :
    Calls Try.prog 31 #[.pointer (some ⟨p, 0, none⟩), .pointer (some ⟨q, 0, none⟩), r.val] w (ActPost w p q G n) := by
  obtain ⟨W, N, I, O, D, X⟩ := r
  have H := Mem.Aside.mk h
  have HR := Mem.Aside.mk hr
  clear h hr
  simp only [ActR.val] at hw ⊢
  have e1 : (W == 1) = false := by simp; omega
  have e2 : (W == 2) = false := by simp; omega
  have e3 : (W == 3) = false := by simp; omega
  have e4 : (W == 4) = false := by simp; omega
  have e5 : (W == 5) = false := by simp; omega
  have e6 : (W == 6) = false := by simp; omega
  have e7 : (W == 7) = false := by simp; omega
  have HW := Mem.Aside.mk hw
  clear hw
  refine (callsIn_wide (n := 9)).1 ?_
  refine callsIn_of_wp_marks Try.func31 rfl trivial ?_ rfl
  refine wpIn_wide.2 ?_
  simp only [Try.ntmps31, List.size_toArray, List.length_cons, List.length_nil, Nat.reduceAdd, Nat.reduceSub, Array.replicate_succ, Array.replicate_zero, List.push_toArray, List.append_toArray, List.nil_append, List.cons_append]
  go_wp2
  exact act_ret (G' := G) rfl (by go_simp) ((H.out.chg ((((Chg.refl [] w).alloc _).alloc _).alloc _) (by simp)).more (Nat.le_succ _)) (((((Chg.refl [] w).alloc _).alloc _).alloc _).mono (by simp)) (fun k hk => .inl hk)

set_option maxHeartbeats 8000000 in
set_option maxRecDepth 100000 in
theorem act_take_neg {w : World} {p q n : Nat} {G : List Nat} (h : Pair w p q G n) (hn : n ≤ 1000) (r : ActR) (hr : r.ok) (hw : r.what = 1) (hN : r.n < 0) :
    Calls Try.prog 31 #[.pointer (some ⟨p, 0, none⟩), .pointer (some ⟨q, 0, none⟩), r.val] w (ActPost w p q G n) := by
  obtain ⟨F, X, lv, most, hP, rfl⟩ := h
  have H := Mem.Aside.mk hP
  have HLT := Mem.Aside.mk hP.lt
  obtain ⟨W, N, I, O, D, V⟩ := r
  have hr' := hr
  obtain ⟨_, hrN, hrI, hrO, hrD, hrV⟩ := hr'
  have HR := Mem.Aside.mk hr
  simp only [ActR.val] at hN hw hrN hrI hrO hrD hrV ⊢
  subst hw
  clear hP hr
  refine (callsIn_wide (n := 9)).1 ?_
  refine callsIn_of_wp_marks Try.func31 rfl trivial ?_ rfl
  refine wpIn_wide.2 ?_
  simp only [Try.ntmps31, List.size_toArray, List.length_cons, List.length_nil, Nat.reduceAdd, Nat.reduceSub, Array.replicate_succ, Array.replicate_zero, List.push_toArray, List.append_toArray, List.nil_append, List.cons_append]
  go_upto_region 1 with fail
  obtain ⟨b, hb⟩ : ∃ b, b = w.heap.size := ⟨_, rfl⟩
  have hB0 : Blk (((w.alloc (.cells #[.pointer (some ⟨q, 0, none⟩)] 40)).alloc (.cells #[.int .i64 1, .int .i64 N, .int .i64 I, .int .i64 O, .int .i64 D, .int .u64 (V : Int)] 46)).alloc (.cells #[.bool false] 4)) b 40 [.pointer (some ⟨q, 0, none⟩)] := by rw [hb]; exact ((Blk.newL [_] rfl).alloc _).alloc _
  have hB1 : Blk (((w.alloc (.cells #[.pointer (some ⟨q, 0, none⟩)] 40)).alloc (.cells #[.int .i64 1, .int .i64 N, .int .i64 I, .int .i64 O, .int .i64 D, .int .u64 (V : Int)] 46)).alloc (.cells #[.bool false] 4)) (b + 1) 46 [.int .i64 1, .int .i64 N, .int .i64 I, .int .i64 O, .int .i64 D, .int .u64 (V : Int)] := by rw [hb]; exact (Blk.newL [_, _, _, _, _, _] (by simp)).alloc _
  have hB2 : Blk (((w.alloc (.cells #[.pointer (some ⟨q, 0, none⟩)] 40)).alloc (.cells #[.int .i64 1, .int .i64 N, .int .i64 I, .int .i64 O, .int .i64 D, .int .u64 (V : Int)] 46)).alloc (.cells #[.bool false] 4)) (b + 2) 4 [.bool false] := by rw [hb]; exact Blk.newL [_] (by simp)
  have hC0 : Chg [] w (((w.alloc (.cells #[.pointer (some ⟨q, 0, none⟩)] 40)).alloc (.cells #[.int .i64 1, .int .i64 N, .int .i64 I, .int .i64 O, .int .i64 D, .int .u64 (V : Int)] 46)).alloc (.cells #[.bool false] 4)) := (((Chg.refl [] w).alloc _).alloc _).alloc _
  have hsz : b + 3 = (((w.alloc (.cells #[.pointer (some ⟨q, 0, none⟩)] 40)).alloc (.cells #[.int .i64 1, .int .i64 N, .int .i64 I, .int .i64 O, .int .i64 D, .int .u64 (V : Int)] 46)).alloc (.cells #[.bool false] 4)).heap.size := by rw [hb]; simp
  generalize (((w.alloc (.cells #[.pointer (some ⟨q, 0, none⟩)] 40)).alloc (.cells #[.int .i64 1, .int .i64 N, .int .i64 I, .int .i64 O, .int .i64 D, .int .u64 (V : Int)] 46)).alloc (.cells #[.bool false] 4)) = W0 at hB0 hB1 hB2 hC0 hsz ⊢
  simp only [← hb, Nat.add_assoc, Nat.reduceAdd]
  have HB0 := Mem.Aside.mk hB0
  have HB1 := Mem.Aside.mk hB1
  have HB2 := Mem.Aside.mk hB2
  have HC0 := Mem.Aside.mk hC0
  have HSZ := Mem.Aside.mk (And.intro hb hsz)
  have hb0 := hB0.cellAt (i := 0) rfl
  have hb10 := hB1.cellAt (i := 0) rfl
  have hb11 := hB1.cellAt (i := 1) rfl
  have hb12 := hB1.cellAt (i := 2) rfl
  have hb13 := hB1.cellAt (i := 3) rfl
  have hb14 := hB1.cellAt (i := 4) rfl
  have hb15 := hB1.cellAt (i := 5) rfl
  have hb2 := hB2.cellAt (i := 0) rfl
  have hf2 := hB2.frozen 0
  have H0 : Mem.Aside (PairX W0 p q F X lv most n) := ⟨H.out.chg hC0 (by simp)⟩
  have HF : Mem.Aside (∀ k ∈ F ++ rfoot q lv X, k < b) := ⟨fun k hk => by rw [hb]; exact HLT.out k hk⟩
  clear hB0 hB1 hB2 hC0 hsz hb
  go_wp2_with (first
    | (go_at_call 22; (with_reducible refine (take_neg _ p N hN hrN).mono ?_); rintro e w1 ⟨rfl, rfl⟩)
    | (go_at_call 70; (with_reducible refine (rtake_neg q N hN _).mono ?_); rintro e w1 ⟨rfl, rfl⟩))
  exact act_ret (t := b + 2) rfl (by go_simp) ⟨_, _, _, _, ((H.out.chg (HC0.out.setCell (p := ⟨b + 2, 0, none⟩) (.inr (by show w.heap.size ≤ b + 2; rw [HSZ.out.1]; omega)) _) (by simp)).more (Nat.le_succ _)), rfl⟩ ((HC0.out.setCell (p := ⟨b + 2, 0, none⟩) (.inr (by show w.heap.size ≤ b + 2; rw [HSZ.out.1]; omega)) _).mono (by simp)) (fun k hk => .inl hk)
set_option maxHeartbeats 8000000 in
set_option maxRecDepth 100000 in
theorem act_take_long {w : World} {p q n : Nat} {G : List Nat} (h : Pair w p q G n) (hn : n ≤ 1000) (r : ActR) (hr : r.ok) (hw : r.what = 1) (hN : 8388608 < r.n) :
    Calls Try.prog 31 #[.pointer (some ⟨p, 0, none⟩), .pointer (some ⟨q, 0, none⟩), r.val] w (ActPost w p q G n) := by
  obtain ⟨F, X, lv, most, hP, rfl⟩ := h
  have H := Mem.Aside.mk hP
  have HLT := Mem.Aside.mk hP.lt
  obtain ⟨W, N, I, O, D, V⟩ := r
  have hr' := hr
  obtain ⟨_, hrN, hrI, hrO, hrD, hrV⟩ := hr'
  have HR := Mem.Aside.mk hr
  simp only [ActR.val] at hN hw hrN hrI hrO hrD hrV ⊢
  subst hw
  clear hP hr
  refine (callsIn_wide (n := 9)).1 ?_
  refine callsIn_of_wp_marks Try.func31 rfl trivial ?_ rfl
  refine wpIn_wide.2 ?_
  simp only [Try.ntmps31, List.size_toArray, List.length_cons, List.length_nil, Nat.reduceAdd, Nat.reduceSub, Array.replicate_succ, Array.replicate_zero, List.push_toArray, List.append_toArray, List.nil_append, List.cons_append]
  go_upto_region 1 with fail
  obtain ⟨b, hb⟩ : ∃ b, b = w.heap.size := ⟨_, rfl⟩
  have hB0 : Blk (((w.alloc (.cells #[.pointer (some ⟨q, 0, none⟩)] 40)).alloc (.cells #[.int .i64 1, .int .i64 N, .int .i64 I, .int .i64 O, .int .i64 D, .int .u64 (V : Int)] 46)).alloc (.cells #[.bool false] 4)) b 40 [.pointer (some ⟨q, 0, none⟩)] := by rw [hb]; exact ((Blk.newL [_] rfl).alloc _).alloc _
  have hB1 : Blk (((w.alloc (.cells #[.pointer (some ⟨q, 0, none⟩)] 40)).alloc (.cells #[.int .i64 1, .int .i64 N, .int .i64 I, .int .i64 O, .int .i64 D, .int .u64 (V : Int)] 46)).alloc (.cells #[.bool false] 4)) (b + 1) 46 [.int .i64 1, .int .i64 N, .int .i64 I, .int .i64 O, .int .i64 D, .int .u64 (V : Int)] := by rw [hb]; exact (Blk.newL [_, _, _, _, _, _] (by simp)).alloc _
  have hB2 : Blk (((w.alloc (.cells #[.pointer (some ⟨q, 0, none⟩)] 40)).alloc (.cells #[.int .i64 1, .int .i64 N, .int .i64 I, .int .i64 O, .int .i64 D, .int .u64 (V : Int)] 46)).alloc (.cells #[.bool false] 4)) (b + 2) 4 [.bool false] := by rw [hb]; exact Blk.newL [_] (by simp)
  have hC0 : Chg [] w (((w.alloc (.cells #[.pointer (some ⟨q, 0, none⟩)] 40)).alloc (.cells #[.int .i64 1, .int .i64 N, .int .i64 I, .int .i64 O, .int .i64 D, .int .u64 (V : Int)] 46)).alloc (.cells #[.bool false] 4)) := (((Chg.refl [] w).alloc _).alloc _).alloc _
  have hsz : b + 3 = (((w.alloc (.cells #[.pointer (some ⟨q, 0, none⟩)] 40)).alloc (.cells #[.int .i64 1, .int .i64 N, .int .i64 I, .int .i64 O, .int .i64 D, .int .u64 (V : Int)] 46)).alloc (.cells #[.bool false] 4)).heap.size := by rw [hb]; simp
  generalize (((w.alloc (.cells #[.pointer (some ⟨q, 0, none⟩)] 40)).alloc (.cells #[.int .i64 1, .int .i64 N, .int .i64 I, .int .i64 O, .int .i64 D, .int .u64 (V : Int)] 46)).alloc (.cells #[.bool false] 4)) = W0 at hB0 hB1 hB2 hC0 hsz ⊢
  simp only [← hb, Nat.add_assoc, Nat.reduceAdd]
  have HB0 := Mem.Aside.mk hB0
  have HB1 := Mem.Aside.mk hB1
  have HB2 := Mem.Aside.mk hB2
  have HC0 := Mem.Aside.mk hC0
  have HSZ := Mem.Aside.mk (And.intro hb hsz)
  have hb0 := hB0.cellAt (i := 0) rfl
  have hb10 := hB1.cellAt (i := 0) rfl
  have hb11 := hB1.cellAt (i := 1) rfl
  have hb12 := hB1.cellAt (i := 2) rfl
  have hb13 := hB1.cellAt (i := 3) rfl
  have hb14 := hB1.cellAt (i := 4) rfl
  have hb15 := hB1.cellAt (i := 5) rfl
  have hb2 := hB2.cellAt (i := 0) rfl
  have hf2 := hB2.frozen 0
  have H0 : Mem.Aside (PairX W0 p q F X lv most n) := ⟨H.out.chg hC0 (by simp)⟩
  have HF : Mem.Aside (∀ k ∈ F ++ rfoot q lv X, k < b) := ⟨fun k hk => by rw [hb]; exact HLT.out k hk⟩
  clear hB0 hB1 hB2 hC0 hsz hb
  go_wp2_with (first
    | (go_at_call 22; (with_reducible refine (take_long _ p N hN hrN).mono ?_); rintro e w1 ⟨rfl, rfl⟩)
    | (go_at_call 70; (with_reducible refine (rtake_long q N hN _).mono ?_); rintro e w1 ⟨rfl, rfl⟩))
  exact act_ret (t := b + 2) rfl (by go_simp) ⟨_, _, _, _, ((H.out.chg (HC0.out.setCell (p := ⟨b + 2, 0, none⟩) (.inr (by show w.heap.size ≤ b + 2; rw [HSZ.out.1]; omega)) _) (by simp)).more (Nat.le_succ _)), rfl⟩ ((HC0.out.setCell (p := ⟨b + 2, 0, none⟩) (.inr (by show w.heap.size ≤ b + 2; rw [HSZ.out.1]; omega)) _).mono (by simp)) (fun k hk => .inl hk)
set_option maxHeartbeats 8000000 in
set_option maxRecDepth 100000 in
theorem act_take {w : World} {p q n : Nat} {G : List Nat} (h : Pair w p q G n) (hn : n ≤ 1000) (r : ActR) (hr : r.ok) (hw : r.what = 1) (hN : 0 ≤ r.n) (hN2 : r.n ≤ 8388608) :
    Calls Try.prog 31 #[.pointer (some ⟨p, 0, none⟩), .pointer (some ⟨q, 0, none⟩), r.val] w (ActPost w p q G n) := by
  obtain ⟨F, X, lv, most, hP, rfl⟩ := h
  have H := Mem.Aside.mk hP
  have HLT := Mem.Aside.mk hP.lt
  obtain ⟨W, N, I, O, D, V⟩ := r
  have hr' := hr
  obtain ⟨_, hrN, hrI, hrO, hrD, hrV⟩ := hr'
  have HR := Mem.Aside.mk hr
  simp only [ActR.val] at hN hN2 hw hrN hrI hrO hrD hrV ⊢
  subst hw
  clear hP hr
  refine (callsIn_wide (n := 9)).1 ?_
  refine callsIn_of_wp_marks Try.func31 rfl trivial ?_ rfl
  refine wpIn_wide.2 ?_
  simp only [Try.ntmps31, List.size_toArray, List.length_cons, List.length_nil, Nat.reduceAdd, Nat.reduceSub, Array.replicate_succ, Array.replicate_zero, List.push_toArray, List.append_toArray, List.nil_append, List.cons_append]
  go_upto_region 1 with fail
  obtain ⟨b, hb⟩ : ∃ b, b = w.heap.size := ⟨_, rfl⟩
  have hB0 : Blk (((w.alloc (.cells #[.pointer (some ⟨q, 0, none⟩)] 40)).alloc (.cells #[.int .i64 1, .int .i64 N, .int .i64 I, .int .i64 O, .int .i64 D, .int .u64 (V : Int)] 46)).alloc (.cells #[.bool false] 4)) b 40 [.pointer (some ⟨q, 0, none⟩)] := by rw [hb]; exact ((Blk.newL [_] rfl).alloc _).alloc _
  have hB1 : Blk (((w.alloc (.cells #[.pointer (some ⟨q, 0, none⟩)] 40)).alloc (.cells #[.int .i64 1, .int .i64 N, .int .i64 I, .int .i64 O, .int .i64 D, .int .u64 (V : Int)] 46)).alloc (.cells #[.bool false] 4)) (b + 1) 46 [.int .i64 1, .int .i64 N, .int .i64 I, .int .i64 O, .int .i64 D, .int .u64 (V : Int)] := by rw [hb]; exact (Blk.newL [_, _, _, _, _, _] (by simp)).alloc _
  have hB2 : Blk (((w.alloc (.cells #[.pointer (some ⟨q, 0, none⟩)] 40)).alloc (.cells #[.int .i64 1, .int .i64 N, .int .i64 I, .int .i64 O, .int .i64 D, .int .u64 (V : Int)] 46)).alloc (.cells #[.bool false] 4)) (b + 2) 4 [.bool false] := by rw [hb]; exact Blk.newL [_] (by simp)
  have hC0 : Chg [] w (((w.alloc (.cells #[.pointer (some ⟨q, 0, none⟩)] 40)).alloc (.cells #[.int .i64 1, .int .i64 N, .int .i64 I, .int .i64 O, .int .i64 D, .int .u64 (V : Int)] 46)).alloc (.cells #[.bool false] 4)) := (((Chg.refl [] w).alloc _).alloc _).alloc _
  have hsz : b + 3 = (((w.alloc (.cells #[.pointer (some ⟨q, 0, none⟩)] 40)).alloc (.cells #[.int .i64 1, .int .i64 N, .int .i64 I, .int .i64 O, .int .i64 D, .int .u64 (V : Int)] 46)).alloc (.cells #[.bool false] 4)).heap.size := by rw [hb]; simp
  generalize (((w.alloc (.cells #[.pointer (some ⟨q, 0, none⟩)] 40)).alloc (.cells #[.int .i64 1, .int .i64 N, .int .i64 I, .int .i64 O, .int .i64 D, .int .u64 (V : Int)] 46)).alloc (.cells #[.bool false] 4)) = W0 at hB0 hB1 hB2 hC0 hsz ⊢
  simp only [← hb, Nat.add_assoc, Nat.reduceAdd]
  have HB0 := Mem.Aside.mk hB0
  have HB1 := Mem.Aside.mk hB1
  have HB2 := Mem.Aside.mk hB2
  have HC0 := Mem.Aside.mk hC0
  have HSZ := Mem.Aside.mk (And.intro hb hsz)
  have hb0 := hB0.cellAt (i := 0) rfl
  have hb10 := hB1.cellAt (i := 0) rfl
  have hb11 := hB1.cellAt (i := 1) rfl
  have hb12 := hB1.cellAt (i := 2) rfl
  have hb13 := hB1.cellAt (i := 3) rfl
  have hb14 := hB1.cellAt (i := 4) rfl
  have hb15 := hB1.cellAt (i := 5) rfl
  have hb2 := hB2.cellAt (i := 0) rfl
  have hf2 := hB2.frozen 0
  have H0 : Mem.Aside (PairX W0 p q F X lv most n) := ⟨H.out.chg hC0 (by simp)⟩
  have HF : Mem.Aside (∀ k ∈ F ++ rfoot q lv X, k < b) := ⟨fun k hk => by rw [hb]; exact HLT.out k hk⟩
  clear hB0 hB1 hB2 hC0 hsz hb
  obtain ⟨z, rfl⟩ : ∃ z : Nat, N = (z : Int) := ⟨N.toNat, by omega⟩
  have hz : z ≤ 8388608 := by omega
  have hcnt := H0.out.count
  have htx : totalX X ≤ 8388615 * X.length := totalX_le X fun x hx => (H0.out.ref.small.2.1 x hx).2
  have hup := up_le z
  have hmost := H0.out.most
  have HMX : Mem.Aside (max most (totalX X + up z) ≤ 8388616 * (n + 1)) := ⟨by omega⟩
  have CT := Mem.Aside.mk (take_holds2 H0.out.holds z hz (by rw [List.length_map]; omega) (by rw [totalX_pairs]; omega))
  rw [totalX_pairs] at CT
  go_wp2_with (first
    | (go_at_call 22; (with_reducible refine CT.out.mono ?_); rintro e w1 ⟨id, F1, rfl, h1, hl1, hn1, hc1, hF1⟩; have H1 := Mem.Aside.mk h1; have HC1 := Mem.Aside.mk hc1; have HF1 := Mem.Aside.mk hF1; have HL1 := Mem.Aside.mk (And.intro hl1 hn1); have b0' := cell_chg hc1 hb0 (fun hm => by have := HF.out _ (List.mem_append_left _ hm); simp only at this; omega); have b11' := cell_chg hc1 hb11 (fun hm => by have := HF.out _ (List.mem_append_left _ hm); simp only at this; omega); have R1 := Mem.Aside.mk (H0.out.ref.chg hc1 (fun k hk hm => H0.out.apart k hm hk)); have CR := Mem.Aside.mk (rtake_ok R1.out (by omega) z hz); clear h1 hl1 hn1 hF1 hc1)
    | (go_at_call 70; (with_reducible refine CR.out.mono ?_); rintro e w2 ⟨id2, nb, lv2, rfl, hi1, hi2, hi3, h2, hc2, hv2, hnb⟩; obtain rfl : id = id2 := R1.out.least (by have := HL1.out.1; rw [ids_pairs] at this; exact this) (by have := HL1.out.2; rw [ids_pairs] at this; exact this) hi1 hi2 hi3; have H2 := Mem.Aside.mk h2; have HC2 := Mem.Aside.mk hc2; have HV2 := Mem.Aside.mk (And.intro hv2 hnb); have f2' := ((HB2.out.chg HC1.out (fun hm => by have := HF.out _ (List.mem_append_left _ hm); omega)).chg hc2 (fun hm => by have := HF.out _ (List.mem_append_right _ hm); omega)).frozen 0; have g2' := ((HB2.out.chg HC1.out (fun hm => by have := HF.out _ (List.mem_append_left _ hm); omega)).chg hc2 (fun hm => by have := HF.out _ (List.mem_append_right _ hm); omega)).cellAt (i := 0) rfl; clear h2 hc2 hv2 hnb hi1 hi2 hi3))
  have hcell : (w2.setCell ⟨b + 2, 0, none⟩ (.bool true)).cell? ⟨b + 2, 0, none⟩ = some (.bool true) := by go_simp
  have hbw := HSZ.out.1
  have hs0 := HSZ.out.2
  have hs1 := HC1.out.size
  have hs2 := HC2.out.size
  have hrf : ∀ k ∈ rfoot q lv2 (X.take id ++ ⟨id, List.replicate z 0, nb⟩ :: X.drop id), k ∈ rfoot q lv X ∨ w1.heap.size ≤ k := fun k hk => by
    rcases mem_rfoot.1 hk with rfl | hk | hk
    · exact .inl (mem_rfoot.2 (.inl rfl))
    · rcases HV2.out.1 k hk with e | e
      · exact .inl (mem_rfoot.2 (.inr (.inl e)))
      · exact .inr e
    · rw [List.map_append, List.map_cons] at hk
      rcases List.mem_append.1 hk with hk | hk
      · exact .inl (mem_rfoot.2 (.inr (.inr (List.map_subset _ (List.take_subset _ _) hk))))
      · rcases List.mem_cons.1 hk with rfl | hk
        · exact .inr HV2.out.2
        · exact .inl (mem_rfoot.2 (.inr (.inr (List.map_subset _ (List.drop_subset _ _) hk))))
  have hap : ∀ k ∈ F1, k ∉ rfoot q lv X := fun k hk hm => by
    rcases HF1.out k hk with e | e
    · exact H0.out.apart k e hm
    · have := HF.out k (List.mem_append_right _ hm); omega
  have P2 : PairX w2 p q F1 (X.take id ++ ⟨id, List.replicate z 0, nb⟩ :: X.drop id) lv2 (max most (totalX X + up z)) (n + 1) := by
    refine ⟨(H1.out.chg HC2.out hap).perm ?_, H2.out, fun k hk hm => ?_, ?_, HMX.out⟩
    · rw [List.map_append, List.map_cons]
      refine List.Perm.trans ?_ List.perm_middle.symm
      rw [← List.map_append, List.take_append_drop]
      exact .refl _
    · rcases hrf k hm with e | e
      · exact hap k hk e
      · have := H1.out.lt k hk; omega
    · rw [List.length_append, List.length_cons, List.length_take, List.length_drop]; omega
  have far : ∀ k ∈ F1 ++ rfoot q lv2 (X.take id ++ ⟨id, List.replicate z 0, nb⟩ :: X.drop id), k ∈ F ++ rfoot q lv X ∨ W0.heap.size ≤ k := fun k hk => by
    rcases List.mem_append.1 hk with hk | hk
    · rcases HF1.out k hk with e | e
      · exact .inl (List.mem_append_left _ e)
      · exact .inr e
    · rcases hrf k hk with e | e
      · exact .inl (List.mem_append_right _ e)
      · exact .inr (by omega)
  have hne : ∀ k ∈ F1 ++ rfoot q lv2 (X.take id ++ ⟨id, List.replicate z 0, nb⟩ :: X.drop id), k ≠ b + 2 := fun k hk e => by
    rcases far k hk with h | h
    · have := HF.out k h; omega
    · omega
  refine act_ret (t := b + 2) rfl hcell ⟨_, _, _, _, P2.chg ((Chg.refl [b + 2] w2).setCell (p := ⟨b + 2, 0, none⟩) (.inl (by simp)) _) (fun k hk hm => hne k hk (by simpa using hm)), rfl⟩ ?_ (fun k hk => (far k hk).imp (fun h => h) (fun h => by omega))
  have hcm : Chg (F ++ rfoot q lv X) w W0 := HC0.out.mono (by simp)
  exact ((hcm.then HC1.out (fun x hx => .inl (List.mem_append_left _ hx))).then HC2.out (fun x hx => .inl (List.mem_append_right _ hx))).setCell (.inr (by show w.heap.size ≤ b + 2; omega)) _
set_option maxHeartbeats 8000000 in
set_option maxRecDepth 100000 in
theorem act_len {w : World} {p q n : Nat} {G : List Nat} (h : Pair w p q G n) (hn : n ≤ 1000) (r : ActR) (hr : r.ok) (hw : r.what = 3) :
    Calls Try.prog 31 #[.pointer (some ⟨p, 0, none⟩), .pointer (some ⟨q, 0, none⟩), r.val] w (ActPost w p q G n) := by
  obtain ⟨F, X, lv, most, hP, rfl⟩ := h
  have H := Mem.Aside.mk hP
  have HLT := Mem.Aside.mk hP.lt
  obtain ⟨W, N, I, O, D, V⟩ := r
  have hr' := hr
  obtain ⟨_, hrN, hrI, hrO, hrD, hrV⟩ := hr'
  have HR := Mem.Aside.mk hr
  simp only [ActR.val] at hw hrN hrI hrO hrD hrV ⊢
  subst hw
  clear hP hr
  refine (callsIn_wide (n := 9)).1 ?_
  refine callsIn_of_wp_marks Try.func31 rfl trivial ?_ rfl
  refine wpIn_wide.2 ?_
  simp only [Try.ntmps31, List.size_toArray, List.length_cons, List.length_nil, Nat.reduceAdd, Nat.reduceSub, Array.replicate_succ, Array.replicate_zero, List.push_toArray, List.append_toArray, List.nil_append, List.cons_append]
  go_upto_region 1 with fail
  obtain ⟨b, hb⟩ : ∃ b, b = w.heap.size := ⟨_, rfl⟩
  have hB0 : Blk (((w.alloc (.cells #[.pointer (some ⟨q, 0, none⟩)] 40)).alloc (.cells #[.int .i64 3, .int .i64 N, .int .i64 I, .int .i64 O, .int .i64 D, .int .u64 (V : Int)] 46)).alloc (.cells #[.bool false] 4)) b 40 [.pointer (some ⟨q, 0, none⟩)] := by rw [hb]; exact ((Blk.newL [_] rfl).alloc _).alloc _
  have hB1 : Blk (((w.alloc (.cells #[.pointer (some ⟨q, 0, none⟩)] 40)).alloc (.cells #[.int .i64 3, .int .i64 N, .int .i64 I, .int .i64 O, .int .i64 D, .int .u64 (V : Int)] 46)).alloc (.cells #[.bool false] 4)) (b + 1) 46 [.int .i64 3, .int .i64 N, .int .i64 I, .int .i64 O, .int .i64 D, .int .u64 (V : Int)] := by rw [hb]; exact (Blk.newL [_, _, _, _, _, _] (by simp)).alloc _
  have hB2 : Blk (((w.alloc (.cells #[.pointer (some ⟨q, 0, none⟩)] 40)).alloc (.cells #[.int .i64 3, .int .i64 N, .int .i64 I, .int .i64 O, .int .i64 D, .int .u64 (V : Int)] 46)).alloc (.cells #[.bool false] 4)) (b + 2) 4 [.bool false] := by rw [hb]; exact Blk.newL [_] (by simp)
  have hC0 : Chg [] w (((w.alloc (.cells #[.pointer (some ⟨q, 0, none⟩)] 40)).alloc (.cells #[.int .i64 3, .int .i64 N, .int .i64 I, .int .i64 O, .int .i64 D, .int .u64 (V : Int)] 46)).alloc (.cells #[.bool false] 4)) := (((Chg.refl [] w).alloc _).alloc _).alloc _
  have hsz : b + 3 = (((w.alloc (.cells #[.pointer (some ⟨q, 0, none⟩)] 40)).alloc (.cells #[.int .i64 3, .int .i64 N, .int .i64 I, .int .i64 O, .int .i64 D, .int .u64 (V : Int)] 46)).alloc (.cells #[.bool false] 4)).heap.size := by rw [hb]; simp
  generalize (((w.alloc (.cells #[.pointer (some ⟨q, 0, none⟩)] 40)).alloc (.cells #[.int .i64 3, .int .i64 N, .int .i64 I, .int .i64 O, .int .i64 D, .int .u64 (V : Int)] 46)).alloc (.cells #[.bool false] 4)) = W0 at hB0 hB1 hB2 hC0 hsz ⊢
  simp only [← hb, Nat.add_assoc, Nat.reduceAdd]
  have HB0 := Mem.Aside.mk hB0
  have HB1 := Mem.Aside.mk hB1
  have HB2 := Mem.Aside.mk hB2
  have HC0 := Mem.Aside.mk hC0
  have HSZ := Mem.Aside.mk (And.intro hb hsz)
  have hb0 := hB0.cellAt (i := 0) rfl
  have hb10 := hB1.cellAt (i := 0) rfl
  have hb11 := hB1.cellAt (i := 1) rfl
  have hb12 := hB1.cellAt (i := 2) rfl
  have hb13 := hB1.cellAt (i := 3) rfl
  have hb14 := hB1.cellAt (i := 4) rfl
  have hb15 := hB1.cellAt (i := 5) rfl
  have hb2 := hB2.cellAt (i := 0) rfl
  have hf2 := hB2.frozen 0
  have H0 : Mem.Aside (PairX W0 p q F X lv most n) := ⟨H.out.chg hC0 (by simp)⟩
  have HF : Mem.Aside (∀ k ∈ F ++ rfoot q lv X, k < b) := ⟨fun k hk => by rw [hb]; exact HLT.out k hk⟩
  clear hB0 hB1 hB2 hC0 hsz hb
  rcases H.out.ref.find I with ⟨i, hi, hI⟩ | hx
  · have CT := Mem.Aside.mk (fun (W2 : World) (hc : Chg [] W0 W2) => len_holds (H0.out.holds.chg hc (by simp)) (H0.out.ref.mem hi).1)
    have CR := Mem.Aside.mk (fun (W2 : World) (hc : Chg [] W0 W2) => rlen_some (H0.out.ref.chg hc (by simp)) hi (H0.out.ref.mem hi).2)
    rw [hI] at CT CR
    obtain ⟨LN, hLN⟩ : ∃ LN, LN = X[i].bs.length := ⟨_, rfl⟩
    rw [← hLN] at CT CR
    clear hI hLN
    go_wp2_with (first
      | (go_at_call 28; (with_reducible refine (CT.out _ (Chg.refl [] W0)).mono ?_); rintro e w1 ⟨rfl, hc1⟩; have HC1 := Mem.Aside.mk hc1; have b0' := cell_chg hc1 hb0 (by simp); have b11' := cell_chg hc1 hb11 (by simp); have b12' := cell_chg hc1 hb12 (by simp); have b13' := cell_chg hc1 hb13 (by simp); have b14' := cell_chg hc1 hb14 (by simp); have b15' := cell_chg hc1 hb15 (by simp); clear hc1)
      | (go_at_call 72; (with_reducible refine (CR.out _ HC1.out).mono ?_); rintro e w2 ⟨rfl, hc2⟩; have HC2 := Mem.Aside.mk (HC1.out.then hc2 (by simp)); have f2' := (HB2.out.chg HC2.out (by simp)).frozen 0; have g2' := (HB2.out.chg HC2.out (by simp)).cellAt (i := 0) rfl; clear hc2))
    have HCW := Mem.Aside.mk (HC0.out.then HC2.out (by simp))
    exact act_ret (t := b + 2) rfl (by go_simp) ⟨_, _, _, _, ((H.out.chg (HCW.out.setCell (p := ⟨b + 2, 0, none⟩) (.inr (by show w.heap.size ≤ b + 2; rw [HSZ.out.1]; omega)) _) (by simp)).more (Nat.le_succ _)), rfl⟩ ((HCW.out.setCell (p := ⟨b + 2, 0, none⟩) (.inr (by show w.heap.size ≤ b + 2; rw [HSZ.out.1]; omega)) _).mono (by simp)) (fun k hk => .inl hk)
  · have CT := Mem.Aside.mk (fun (W2 : World) (hc : Chg [] W0 W2) => len_absent (H0.out.holds.chg hc (by simp)) I hrI (pair_absent hx))
    have CR := Mem.Aside.mk (fun (W2 : World) (hc : Chg [] W0 W2) => rlen_none (H0.out.ref.chg hc (by simp)) I hrI hx)
    clear hx
    go_wp2_with (first
      | (go_at_call 28; (with_reducible refine (CT.out _ (Chg.refl [] W0)).mono ?_); rintro e w1 ⟨rfl, rfl⟩; have HC1 := Mem.Aside.mk (Chg.refl [] W0))
      | (go_at_call 72; (with_reducible refine (CR.out _ HC1.out).mono ?_); rintro e w2 ⟨rfl, hc2⟩; have HC2 := Mem.Aside.mk (HC1.out.then hc2 (by simp)); have f2' := (HB2.out.chg HC2.out (by simp)).frozen 0; have g2' := (HB2.out.chg HC2.out (by simp)).cellAt (i := 0) rfl; clear hc2))
    have HCW := Mem.Aside.mk (HC0.out.then HC2.out (by simp))
    exact act_ret (t := b + 2) rfl (by go_simp) ⟨_, _, _, _, ((H.out.chg (HCW.out.setCell (p := ⟨b + 2, 0, none⟩) (.inr (by show w.heap.size ≤ b + 2; rw [HSZ.out.1]; omega)) _) (by simp)).more (Nat.le_succ _)), rfl⟩ ((HCW.out.setCell (p := ⟨b + 2, 0, none⟩) (.inr (by show w.heap.size ≤ b + 2; rw [HSZ.out.1]; omega)) _).mono (by simp)) (fun k hk => .inl hk)
set_option maxHeartbeats 8000000 in
set_option maxRecDepth 100000 in
theorem act_load {w : World} {p q n : Nat} {G : List Nat} (h : Pair w p q G n) (hn : n ≤ 1000) (r : ActR) (hr : r.ok) (hw : r.what = 4) :
    Calls Try.prog 31 #[.pointer (some ⟨p, 0, none⟩), .pointer (some ⟨q, 0, none⟩), r.val] w (ActPost w p q G n) := by
  obtain ⟨F, X, lv, most, hP, rfl⟩ := h
  have H := Mem.Aside.mk hP
  have HLT := Mem.Aside.mk hP.lt
  obtain ⟨W, N, I, O, D, V⟩ := r
  have hr' := hr
  obtain ⟨_, hrN, hrI, hrO, hrD, hrV⟩ := hr'
  have HR := Mem.Aside.mk hr
  simp only [ActR.val] at hw hrN hrI hrO hrD hrV ⊢
  subst hw
  clear hP hr
  refine (callsIn_wide (n := 9)).1 ?_
  refine callsIn_of_wp_marks Try.func31 rfl trivial ?_ rfl
  refine wpIn_wide.2 ?_
  simp only [Try.ntmps31, List.size_toArray, List.length_cons, List.length_nil, Nat.reduceAdd, Nat.reduceSub, Array.replicate_succ, Array.replicate_zero, List.push_toArray, List.append_toArray, List.nil_append, List.cons_append]
  go_upto_region 1 with fail
  obtain ⟨b, hb⟩ : ∃ b, b = w.heap.size := ⟨_, rfl⟩
  have hB0 : Blk (((w.alloc (.cells #[.pointer (some ⟨q, 0, none⟩)] 40)).alloc (.cells #[.int .i64 4, .int .i64 N, .int .i64 I, .int .i64 O, .int .i64 D, .int .u64 (V : Int)] 46)).alloc (.cells #[.bool false] 4)) b 40 [.pointer (some ⟨q, 0, none⟩)] := by rw [hb]; exact ((Blk.newL [_] rfl).alloc _).alloc _
  have hB1 : Blk (((w.alloc (.cells #[.pointer (some ⟨q, 0, none⟩)] 40)).alloc (.cells #[.int .i64 4, .int .i64 N, .int .i64 I, .int .i64 O, .int .i64 D, .int .u64 (V : Int)] 46)).alloc (.cells #[.bool false] 4)) (b + 1) 46 [.int .i64 4, .int .i64 N, .int .i64 I, .int .i64 O, .int .i64 D, .int .u64 (V : Int)] := by rw [hb]; exact (Blk.newL [_, _, _, _, _, _] (by simp)).alloc _
  have hB2 : Blk (((w.alloc (.cells #[.pointer (some ⟨q, 0, none⟩)] 40)).alloc (.cells #[.int .i64 4, .int .i64 N, .int .i64 I, .int .i64 O, .int .i64 D, .int .u64 (V : Int)] 46)).alloc (.cells #[.bool false] 4)) (b + 2) 4 [.bool false] := by rw [hb]; exact Blk.newL [_] (by simp)
  have hC0 : Chg [] w (((w.alloc (.cells #[.pointer (some ⟨q, 0, none⟩)] 40)).alloc (.cells #[.int .i64 4, .int .i64 N, .int .i64 I, .int .i64 O, .int .i64 D, .int .u64 (V : Int)] 46)).alloc (.cells #[.bool false] 4)) := (((Chg.refl [] w).alloc _).alloc _).alloc _
  have hsz : b + 3 = (((w.alloc (.cells #[.pointer (some ⟨q, 0, none⟩)] 40)).alloc (.cells #[.int .i64 4, .int .i64 N, .int .i64 I, .int .i64 O, .int .i64 D, .int .u64 (V : Int)] 46)).alloc (.cells #[.bool false] 4)).heap.size := by rw [hb]; simp
  generalize (((w.alloc (.cells #[.pointer (some ⟨q, 0, none⟩)] 40)).alloc (.cells #[.int .i64 4, .int .i64 N, .int .i64 I, .int .i64 O, .int .i64 D, .int .u64 (V : Int)] 46)).alloc (.cells #[.bool false] 4)) = W0 at hB0 hB1 hB2 hC0 hsz ⊢
  simp only [← hb, Nat.add_assoc, Nat.reduceAdd]
  have HB0 := Mem.Aside.mk hB0
  have HB1 := Mem.Aside.mk hB1
  have HB2 := Mem.Aside.mk hB2
  have HC0 := Mem.Aside.mk hC0
  have HSZ := Mem.Aside.mk (And.intro hb hsz)
  have hb0 := hB0.cellAt (i := 0) rfl
  have hb10 := hB1.cellAt (i := 0) rfl
  have hb11 := hB1.cellAt (i := 1) rfl
  have hb12 := hB1.cellAt (i := 2) rfl
  have hb13 := hB1.cellAt (i := 3) rfl
  have hb14 := hB1.cellAt (i := 4) rfl
  have hb15 := hB1.cellAt (i := 5) rfl
  have hb2 := hB2.cellAt (i := 0) rfl
  have hf2 := hB2.frozen 0
  have H0 : Mem.Aside (PairX W0 p q F X lv most n) := ⟨H.out.chg hC0 (by simp)⟩
  have HF : Mem.Aside (∀ k ∈ F ++ rfoot q lv X, k < b) := ⟨fun k hk => by rw [hb]; exact HLT.out k hk⟩
  clear hB0 hB1 hB2 hC0 hsz hb
  rcases H.out.ref.find I with ⟨i, hi, hI⟩ | hx
  · by_cases hE : reachE X[i].bs.length O D = 0
    · obtain ⟨o, wd, rfl, rfl, hwd, hfit, hmod⟩ := reachE_zero hE
      have CT := Mem.Aside.mk (fun (W2 : World) (hc : Chg [] W0 W2) => load_holds (H0.out.holds.chg hc (by simp)) (H0.out.ref.mem hi).1 o wd hwd hfit hmod)
      have CR := Mem.Aside.mk (fun (W2 : World) (hc : Chg [] W0 W2) => rload_ok (H0.out.ref.chg hc (by simp)) hi (H0.out.ref.mem hi).2 o wd hwd hfit hmod)
      rw [hI] at CT CR
      obtain ⟨LN, hLN⟩ : ∃ LN, LN = leN (sl X[i].bs o wd) := ⟨_, rfl⟩
      rw [← hLN] at CT CR
      clear hI hLN hE hwd hfit hmod
      go_wp2_with (first
        | (go_at_call 24; (with_reducible refine (CT.out _ (Chg.refl [] W0)).mono ?_); rintro e w1 ⟨rfl, hc1⟩; have HC1 := Mem.Aside.mk hc1; have b0' := cell_chg hc1 hb0 (by simp); have b11' := cell_chg hc1 hb11 (by simp); have b12' := cell_chg hc1 hb12 (by simp); have b13' := cell_chg hc1 hb13 (by simp); have b14' := cell_chg hc1 hb14 (by simp); have b15' := cell_chg hc1 hb15 (by simp); clear hc1)
        | (go_at_call 73; (with_reducible refine (CR.out _ HC1.out).mono ?_); rintro e w2 ⟨rfl, hc2⟩; have HC2 := Mem.Aside.mk (HC1.out.then hc2 (by simp)); have f2' := (HB2.out.chg HC2.out (by simp)).frozen 0; have g2' := (HB2.out.chg HC2.out (by simp)).cellAt (i := 0) rfl; clear hc2))
      have HCW := Mem.Aside.mk (HC0.out.then HC2.out (by simp))
      exact act_ret (t := b + 2) rfl (by go_simp) ⟨_, _, _, _, ((H.out.chg (HCW.out.setCell (p := ⟨b + 2, 0, none⟩) (.inr (by show w.heap.size ≤ b + 2; rw [HSZ.out.1]; omega)) _) (by simp)).more (Nat.le_succ _)), rfl⟩ ((HCW.out.setCell (p := ⟨b + 2, 0, none⟩) (.inr (by show w.heap.size ≤ b + 2; rw [HSZ.out.1]; omega)) _).mono (by simp)) (fun k hk => .inl hk)
    · have CT := Mem.Aside.mk (fun (W2 : World) (hc : Chg [] W0 W2) => load_badH (H0.out.holds.chg hc (by simp)) (H0.out.ref.mem hi).1 O D hE)
      have CR := Mem.Aside.mk (fun (W2 : World) (hc : Chg [] W0 W2) => rload_bad (H0.out.ref.chg hc (by simp)) hi (H0.out.ref.mem hi).2 O D hrO hrD hE)
      rw [hI] at CT CR
      obtain ⟨LN, hLN⟩ : ∃ LN, LN = reachE X[i].bs.length O D := ⟨_, rfl⟩
      rw [← hLN] at CT CR
      clear hI hLN hE
      go_wp2_with (first
        | (go_at_call 24; (with_reducible refine (CT.out _ (Chg.refl [] W0)).mono ?_); rintro e w1 ⟨rfl, hc1⟩; have HC1 := Mem.Aside.mk hc1; have b0' := cell_chg hc1 hb0 (by simp); have b11' := cell_chg hc1 hb11 (by simp); have b12' := cell_chg hc1 hb12 (by simp); have b13' := cell_chg hc1 hb13 (by simp); have b14' := cell_chg hc1 hb14 (by simp); have b15' := cell_chg hc1 hb15 (by simp); clear hc1)
        | (go_at_call 73; (with_reducible refine (CR.out _ HC1.out).mono ?_); rintro e w2 ⟨rfl, hc2⟩; have HC2 := Mem.Aside.mk (HC1.out.then hc2 (by simp)); have f2' := (HB2.out.chg HC2.out (by simp)).frozen 0; have g2' := (HB2.out.chg HC2.out (by simp)).cellAt (i := 0) rfl; clear hc2))
      have HCW := Mem.Aside.mk (HC0.out.then HC2.out (by simp))
      exact act_ret (t := b + 2) rfl (by go_simp) ⟨_, _, _, _, ((H.out.chg (HCW.out.setCell (p := ⟨b + 2, 0, none⟩) (.inr (by show w.heap.size ≤ b + 2; rw [HSZ.out.1]; omega)) _) (by simp)).more (Nat.le_succ _)), rfl⟩ ((HCW.out.setCell (p := ⟨b + 2, 0, none⟩) (.inr (by show w.heap.size ≤ b + 2; rw [HSZ.out.1]; omega)) _).mono (by simp)) (fun k hk => .inl hk)
  · have CT := Mem.Aside.mk (fun (W2 : World) (hc : Chg [] W0 W2) => load_absent (H0.out.holds.chg hc (by simp)) I O D hrI (pair_absent hx))
    have CR := Mem.Aside.mk (fun (W2 : World) (hc : Chg [] W0 W2) => rload_none (H0.out.ref.chg hc (by simp)) I O D hrI hx)
    clear hx
    go_wp2_with (first
      | (go_at_call 24; (with_reducible refine (CT.out _ (Chg.refl [] W0)).mono ?_); rintro e w1 ⟨rfl, rfl⟩; have HC1 := Mem.Aside.mk (Chg.refl [] W0))
      | (go_at_call 73; (with_reducible refine (CR.out _ HC1.out).mono ?_); rintro e w2 ⟨rfl, hc2⟩; have HC2 := Mem.Aside.mk (HC1.out.then hc2 (by simp)); have f2' := (HB2.out.chg HC2.out (by simp)).frozen 0; have g2' := (HB2.out.chg HC2.out (by simp)).cellAt (i := 0) rfl; clear hc2))
    have HCW := Mem.Aside.mk (HC0.out.then HC2.out (by simp))
    exact act_ret (t := b + 2) rfl (by go_simp) ⟨_, _, _, _, ((H.out.chg (HCW.out.setCell (p := ⟨b + 2, 0, none⟩) (.inr (by show w.heap.size ≤ b + 2; rw [HSZ.out.1]; omega)) _) (by simp)).more (Nat.le_succ _)), rfl⟩ ((HCW.out.setCell (p := ⟨b + 2, 0, none⟩) (.inr (by show w.heap.size ≤ b + 2; rw [HSZ.out.1]; omega)) _).mono (by simp)) (fun k hk => .inl hk)
set_option maxHeartbeats 8000000 in
set_option maxRecDepth 100000 in
theorem act_give {w : World} {p q n : Nat} {G : List Nat} (h : Pair w p q G n) (hn : n ≤ 1000) (r : ActR) (hr : r.ok) (hw : r.what = 2) :
    Calls Try.prog 31 #[.pointer (some ⟨p, 0, none⟩), .pointer (some ⟨q, 0, none⟩), r.val] w (ActPost w p q G n) := by
  obtain ⟨F, X, lv, most, hP, rfl⟩ := h
  have H := Mem.Aside.mk hP
  have HLT := Mem.Aside.mk hP.lt
  obtain ⟨W, N, I, O, D, V⟩ := r
  have hr' := hr
  obtain ⟨_, hrN, hrI, hrO, hrD, hrV⟩ := hr'
  have HR := Mem.Aside.mk hr
  simp only [ActR.val] at hw hrN hrI hrO hrD hrV ⊢
  subst hw
  clear hP hr
  refine (callsIn_wide (n := 9)).1 ?_
  refine callsIn_of_wp_marks Try.func31 rfl trivial ?_ rfl
  refine wpIn_wide.2 ?_
  simp only [Try.ntmps31, List.size_toArray, List.length_cons, List.length_nil, Nat.reduceAdd, Nat.reduceSub, Array.replicate_succ, Array.replicate_zero, List.push_toArray, List.append_toArray, List.nil_append, List.cons_append]
  go_upto_region 1 with fail
  obtain ⟨b, hb⟩ : ∃ b, b = w.heap.size := ⟨_, rfl⟩
  have hB0 : Blk (((w.alloc (.cells #[.pointer (some ⟨q, 0, none⟩)] 40)).alloc (.cells #[.int .i64 2, .int .i64 N, .int .i64 I, .int .i64 O, .int .i64 D, .int .u64 (V : Int)] 46)).alloc (.cells #[.bool false] 4)) b 40 [.pointer (some ⟨q, 0, none⟩)] := by rw [hb]; exact ((Blk.newL [_] rfl).alloc _).alloc _
  have hB1 : Blk (((w.alloc (.cells #[.pointer (some ⟨q, 0, none⟩)] 40)).alloc (.cells #[.int .i64 2, .int .i64 N, .int .i64 I, .int .i64 O, .int .i64 D, .int .u64 (V : Int)] 46)).alloc (.cells #[.bool false] 4)) (b + 1) 46 [.int .i64 2, .int .i64 N, .int .i64 I, .int .i64 O, .int .i64 D, .int .u64 (V : Int)] := by rw [hb]; exact (Blk.newL [_, _, _, _, _, _] (by simp)).alloc _
  have hB2 : Blk (((w.alloc (.cells #[.pointer (some ⟨q, 0, none⟩)] 40)).alloc (.cells #[.int .i64 2, .int .i64 N, .int .i64 I, .int .i64 O, .int .i64 D, .int .u64 (V : Int)] 46)).alloc (.cells #[.bool false] 4)) (b + 2) 4 [.bool false] := by rw [hb]; exact Blk.newL [_] (by simp)
  have hC0 : Chg [] w (((w.alloc (.cells #[.pointer (some ⟨q, 0, none⟩)] 40)).alloc (.cells #[.int .i64 2, .int .i64 N, .int .i64 I, .int .i64 O, .int .i64 D, .int .u64 (V : Int)] 46)).alloc (.cells #[.bool false] 4)) := (((Chg.refl [] w).alloc _).alloc _).alloc _
  have hsz : b + 3 = (((w.alloc (.cells #[.pointer (some ⟨q, 0, none⟩)] 40)).alloc (.cells #[.int .i64 2, .int .i64 N, .int .i64 I, .int .i64 O, .int .i64 D, .int .u64 (V : Int)] 46)).alloc (.cells #[.bool false] 4)).heap.size := by rw [hb]; simp
  generalize (((w.alloc (.cells #[.pointer (some ⟨q, 0, none⟩)] 40)).alloc (.cells #[.int .i64 2, .int .i64 N, .int .i64 I, .int .i64 O, .int .i64 D, .int .u64 (V : Int)] 46)).alloc (.cells #[.bool false] 4)) = W0 at hB0 hB1 hB2 hC0 hsz ⊢
  simp only [← hb, Nat.add_assoc, Nat.reduceAdd]
  have HB0 := Mem.Aside.mk hB0
  have HB1 := Mem.Aside.mk hB1
  have HB2 := Mem.Aside.mk hB2
  have HC0 := Mem.Aside.mk hC0
  have HSZ := Mem.Aside.mk (And.intro hb hsz)
  have hb0 := hB0.cellAt (i := 0) rfl
  have hb10 := hB1.cellAt (i := 0) rfl
  have hb11 := hB1.cellAt (i := 1) rfl
  have hb12 := hB1.cellAt (i := 2) rfl
  have hb13 := hB1.cellAt (i := 3) rfl
  have hb14 := hB1.cellAt (i := 4) rfl
  have hb15 := hB1.cellAt (i := 5) rfl
  have hb2 := hB2.cellAt (i := 0) rfl
  have hf2 := hB2.frozen 0
  have H0 : Mem.Aside (PairX W0 p q F X lv most n) := ⟨H.out.chg hC0 (by simp)⟩
  have HF : Mem.Aside (∀ k ∈ F ++ rfoot q lv X, k < b) := ⟨fun k hk => by rw [hb]; exact HLT.out k hk⟩
  clear hB0 hB1 hB2 hC0 hsz hb
  rcases H.out.ref.find I with ⟨i, hi, hI⟩ | hx
  · have hspl : (X.map RX.pair).Perm ((X[i].id, X[i].bs) :: (X.take i ++ X.drop (i + 1)).map RX.pair) := by
      conv => lhs; rw [split_at X hi]
      rw [List.map_append, List.map_cons, List.map_append]
      exact List.perm_middle
    have hsub : ∀ x ∈ X.take i ++ X.drop (i + 1), x ∈ X := fun x hx => (List.mem_append.1 hx).elim (List.mem_of_mem_take) (List.mem_of_mem_drop)
    have d0 := HB0.out.drew.cellAt (i := 0) rfl
    have d12 := HB1.out.drew.cellAt (i := 2) rfl
    have d13 := HB1.out.drew.cellAt (i := 3) rfl
    have d14 := HB1.out.drew.cellAt (i := 4) rfl
    have d15 := HB1.out.drew.cellAt (i := 5) rfl
    have CT := Mem.Aside.mk (give_holds ((H0.out.holds.chg (Chg.refl [] W0).drew (by simp)).perm hspl))
    rw [hI] at CT
    go_upto_region 7 with fail
    go_region_held3 (fun w' => w'.cell? ⟨b, 0, none⟩ = some (.pointer (some ⟨q, 0, none⟩)) ∧ w'.cell? ⟨b + 1, 2, none⟩ = some (.int .i64 I))
      (first | exact ⟨d0, d12⟩ | exact ⟨b0', b12'⟩ | exact ⟨b0'', b12''⟩ | go_keep)
      (first | (go_at_call 26; (with_reducible refine CT.out.mono ?_); rintro e w1 ⟨rfl, h1, hc1⟩; have H1 := Mem.Aside.mk h1; have HC1 := Mem.Aside.mk hc1; have hbF : b ∉ F := (fun hm => by have := HF.out _ (List.mem_append_left _ hm); omega); have hbF1 : b + 1 ∉ F := (fun hm => by have := HF.out _ (List.mem_append_left _ hm); omega); have b0' := cell_chg hc1 d0 hbF; have b12' := cell_chg hc1 d12 hbF1; have R1 := Mem.Aside.mk ((H0.out.ref.chg (Chg.refl [] W0).drew (by simp)).chg hc1 (fun k hk hm => H0.out.apart k hm hk)); have CR := Mem.Aside.mk (rgive_some R1.out (by have := H0.out.count; omega) hi (H0.out.ref.mem hi).2); rw [hI] at CR; clear h1 hc1) | (go_at_call 71; (with_reducible refine CR.out.mono ?_); rintro e w2 ⟨lv2, rfl, h2, hc2, hv2⟩; have H2 := Mem.Aside.mk h2; have HC2 := Mem.Aside.mk hc2; have HV2 := Mem.Aside.mk hv2; have hqb : b ≠ q := (fun e => by have := HF.out q (List.mem_append_right _ (mem_rfoot.2 (.inl rfl))); omega); have hqb1 : b + 1 ≠ q := (fun e => by have := HF.out q (List.mem_append_right _ (mem_rfoot.2 (.inl rfl))); omega); have b0'' := cell_chg hc2 b0' (by simpa using hqb); have b12'' := cell_chg hc2 b12' (by simpa using hqb1); have B2 := Mem.Aside.mk ((HB2.out.drew.chg HC1.out (fun hm => by have := HF.out _ (List.mem_append_left _ hm); omega)).chg hc2 (by have := HF.out q (List.mem_append_right _ (mem_rfoot.2 (.inl rfl))); simp; omega)); have f2' := B2.out.frozen 0; have g2' := B2.out.cellAt (i := 0) rfl; clear h2 hc2 hv2))
    go_wp2
    have hrq : q ∈ rfoot q lv X := mem_rfoot.2 (.inl rfl)
    have hs1 : W0.heap.size ≤ w1.heap.size := HC1.out.size
    have hrf : ∀ k ∈ rfoot q lv2 (X.take i ++ X.drop (i + 1)), k ∈ rfoot q lv X ∨ w1.heap.size ≤ k := fun k hk => by
      rcases mem_rfoot.1 hk with rfl | hk | hk
      · exact .inl hrq
      · exact .inr (HV2.out k hk)
      · exact .inl (mem_rfoot.2 (.inr (.inr (List.map_subset _ (fun x hx => hsub x hx) hk))))
    have P2 : PairX w2 p q F (X.take i ++ X.drop (i + 1)) lv2 most (n + 1) := by
      have h1 := H0.out.count
      have h2 := H0.out.most
      refine ⟨H1.out.chg HC2.out (fun k hk hm => H0.out.apart k hk (by simp at hm; exact hm ▸ hrq)), H2.out, fun k hk hm => ?_, ?_, by omega⟩
      · rcases hrf k hm with e | e
        · exact H0.out.apart k hk e
        · have := H1.out.lt k hk; omega
      · rw [List.length_append, List.length_take, List.length_drop]; omega
    have far : ∀ k ∈ F ++ rfoot q lv2 (X.take i ++ X.drop (i + 1)), k ∈ F ++ rfoot q lv X ∨ W0.heap.size ≤ k := fun k hk => by
      rcases List.mem_append.1 hk with hk | hk
      · exact .inl (List.mem_append_left _ hk)
      · exact (hrf k hk).imp (fun h => List.mem_append_right _ h) (fun h => by omega)
    have hcell : (w2.setCell ⟨b + 2, 0, none⟩ (.bool true)).cell? ⟨b + 2, 0, none⟩ = some (.bool true) := by go_simp
    have hbw := HSZ.out.1
    have hs0 := HSZ.out.2
    have hs1 : W0.heap.size ≤ w1.heap.size := HC1.out.size
    have hne : ∀ k ∈ F ++ rfoot q lv2 (X.take i ++ X.drop (i + 1)), k ≠ b + 2 := fun k hk e => by
      rcases far k hk with h | h
      · have := HF.out k h; omega
      · omega
    refine act_ret (t := b + 2) rfl hcell ⟨_, _, _, _, P2.chg ((Chg.refl [b + 2] w2).setCell (p := ⟨b + 2, 0, none⟩) (.inl (by simp)) _) (fun k hk hm => hne k hk (by simpa using hm)), rfl⟩ ?_ (fun k hk => (far k hk).imp (fun h => h) (fun h => by omega))
    have hcm : Chg (F ++ rfoot q lv X) w W0.drew := (HC0.out.mono (by simp)).drew
    exact ((hcm.then HC1.out (fun x hx => .inl (List.mem_append_left _ hx))).then HC2.out (fun x hx => .inl (List.mem_append_right _ (by simp at hx; exact hx ▸ hrq)))).setCell (.inr (by show w.heap.size ≤ b + 2; omega)) _
  · have d0 := HB0.out.drew.cellAt (i := 0) rfl
    have d12 := HB1.out.drew.cellAt (i := 2) rfl
    have d13 := HB1.out.drew.cellAt (i := 3) rfl
    have d14 := HB1.out.drew.cellAt (i := 4) rfl
    have d15 := HB1.out.drew.cellAt (i := 5) rfl
    have H0D : Mem.Aside (PairX W0.drew p q F X lv most n) := ⟨H0.out.chg (Chg.refl [] W0).drew (by simp)⟩
    have CT := Mem.Aside.mk (fun (W2 : World) (hc : Chg [] W0.drew W2) => give_absent (H0D.out.holds.chg hc (by simp)) I hrI (pair_absent hx))
    have CR := Mem.Aside.mk (fun (W2 : World) (hc : Chg [] W0.drew W2) => rgive_none (H0D.out.ref.chg hc (by simp)) I hrI hx)
    clear hx
    go_upto_region 7 with fail
    go_region_held3 (fun w' => w'.cell? ⟨b, 0, none⟩ = some (.pointer (some ⟨q, 0, none⟩)) ∧ w'.cell? ⟨b + 1, 2, none⟩ = some (.int .i64 I))
      (first | exact ⟨d0, d12⟩ | exact ⟨b0'', b12''⟩ | go_keep)
      (first | (go_at_call 26; (with_reducible refine (CT.out _ (Chg.refl [] W0.drew)).mono ?_); rintro e w1 ⟨rfl, rfl⟩; have HC1 := Mem.Aside.mk (Chg.refl [] W0.drew)) | (go_at_call 71; (with_reducible refine (CR.out _ HC1.out).mono ?_); rintro e w2 ⟨rfl, hc2⟩; have HC2 := Mem.Aside.mk (HC1.out.then hc2 (by simp)); have b0'' := cell_chg hc2 d0 (by simp); have b12'' := cell_chg hc2 d12 (by simp); have f2' := (HB2.out.drew.chg HC2.out (by simp)).frozen 0; have g2' := (HB2.out.drew.chg HC2.out (by simp)).cellAt (i := 0) rfl; clear hc2))
    go_wp2
    have HCW := Mem.Aside.mk (HC0.out.drew.then HC2.out (by simp))
    exact act_ret (t := b + 2) rfl (by go_simp) ⟨_, _, _, _, ((H.out.chg (HCW.out.setCell (p := ⟨b + 2, 0, none⟩) (.inr (by show w.heap.size ≤ b + 2; rw [HSZ.out.1]; omega)) _) (by simp)).more (Nat.le_succ _)), rfl⟩ ((HCW.out.setCell (p := ⟨b + 2, 0, none⟩) (.inr (by show w.heap.size ≤ b + 2; rw [HSZ.out.1]; omega)) _).mono (by simp)) (fun k hk => .inl hk)
set_option maxHeartbeats 8000000 in
set_option maxRecDepth 100000 in
theorem act_save {w : World} {p q n : Nat} {G : List Nat} (h : Pair w p q G n) (hn : n ≤ 1000) (r : ActR) (hr : r.ok) (hw : r.what = 5) :
    Calls Try.prog 31 #[.pointer (some ⟨p, 0, none⟩), .pointer (some ⟨q, 0, none⟩), r.val] w (ActPost w p q G n) := by
  obtain ⟨F, X, lv, most, hP, rfl⟩ := h
  have H := Mem.Aside.mk hP
  have HLT := Mem.Aside.mk hP.lt
  obtain ⟨W, N, I, O, D, V⟩ := r
  have hr' := hr
  obtain ⟨_, hrN, hrI, hrO, hrD, hrV⟩ := hr'
  have HR := Mem.Aside.mk hr
  simp only [ActR.val] at hw hrN hrI hrO hrD hrV ⊢
  subst hw
  clear hP hr
  refine (callsIn_wide (n := 9)).1 ?_
  refine callsIn_of_wp_marks Try.func31 rfl trivial ?_ rfl
  refine wpIn_wide.2 ?_
  simp only [Try.ntmps31, List.size_toArray, List.length_cons, List.length_nil, Nat.reduceAdd, Nat.reduceSub, Array.replicate_succ, Array.replicate_zero, List.push_toArray, List.append_toArray, List.nil_append, List.cons_append]
  go_upto_region 1 with fail
  obtain ⟨b, hb⟩ : ∃ b, b = w.heap.size := ⟨_, rfl⟩
  have hB0 : Blk (((w.alloc (.cells #[.pointer (some ⟨q, 0, none⟩)] 40)).alloc (.cells #[.int .i64 5, .int .i64 N, .int .i64 I, .int .i64 O, .int .i64 D, .int .u64 (V : Int)] 46)).alloc (.cells #[.bool false] 4)) b 40 [.pointer (some ⟨q, 0, none⟩)] := by rw [hb]; exact ((Blk.newL [_] rfl).alloc _).alloc _
  have hB1 : Blk (((w.alloc (.cells #[.pointer (some ⟨q, 0, none⟩)] 40)).alloc (.cells #[.int .i64 5, .int .i64 N, .int .i64 I, .int .i64 O, .int .i64 D, .int .u64 (V : Int)] 46)).alloc (.cells #[.bool false] 4)) (b + 1) 46 [.int .i64 5, .int .i64 N, .int .i64 I, .int .i64 O, .int .i64 D, .int .u64 (V : Int)] := by rw [hb]; exact (Blk.newL [_, _, _, _, _, _] (by simp)).alloc _
  have hB2 : Blk (((w.alloc (.cells #[.pointer (some ⟨q, 0, none⟩)] 40)).alloc (.cells #[.int .i64 5, .int .i64 N, .int .i64 I, .int .i64 O, .int .i64 D, .int .u64 (V : Int)] 46)).alloc (.cells #[.bool false] 4)) (b + 2) 4 [.bool false] := by rw [hb]; exact Blk.newL [_] (by simp)
  have hC0 : Chg [] w (((w.alloc (.cells #[.pointer (some ⟨q, 0, none⟩)] 40)).alloc (.cells #[.int .i64 5, .int .i64 N, .int .i64 I, .int .i64 O, .int .i64 D, .int .u64 (V : Int)] 46)).alloc (.cells #[.bool false] 4)) := (((Chg.refl [] w).alloc _).alloc _).alloc _
  have hsz : b + 3 = (((w.alloc (.cells #[.pointer (some ⟨q, 0, none⟩)] 40)).alloc (.cells #[.int .i64 5, .int .i64 N, .int .i64 I, .int .i64 O, .int .i64 D, .int .u64 (V : Int)] 46)).alloc (.cells #[.bool false] 4)).heap.size := by rw [hb]; simp
  generalize (((w.alloc (.cells #[.pointer (some ⟨q, 0, none⟩)] 40)).alloc (.cells #[.int .i64 5, .int .i64 N, .int .i64 I, .int .i64 O, .int .i64 D, .int .u64 (V : Int)] 46)).alloc (.cells #[.bool false] 4)) = W0 at hB0 hB1 hB2 hC0 hsz ⊢
  simp only [← hb, Nat.add_assoc, Nat.reduceAdd]
  have HB0 := Mem.Aside.mk hB0
  have HB1 := Mem.Aside.mk hB1
  have HB2 := Mem.Aside.mk hB2
  have HC0 := Mem.Aside.mk hC0
  have HSZ := Mem.Aside.mk (And.intro hb hsz)
  have hb0 := hB0.cellAt (i := 0) rfl
  have hb10 := hB1.cellAt (i := 0) rfl
  have hb11 := hB1.cellAt (i := 1) rfl
  have hb12 := hB1.cellAt (i := 2) rfl
  have hb13 := hB1.cellAt (i := 3) rfl
  have hb14 := hB1.cellAt (i := 4) rfl
  have hb15 := hB1.cellAt (i := 5) rfl
  have hb2 := hB2.cellAt (i := 0) rfl
  have hf2 := hB2.frozen 0
  have H0 : Mem.Aside (PairX W0 p q F X lv most n) := ⟨H.out.chg hC0 (by simp)⟩
  have HF : Mem.Aside (∀ k ∈ F ++ rfoot q lv X, k < b) := ⟨fun k hk => by rw [hb]; exact HLT.out k hk⟩
  clear hB0 hB1 hB2 hC0 hsz hb
  rcases H.out.ref.find I with ⟨i, hi, hI⟩ | hx
  · by_cases hE : reachE X[i].bs.length O D = 0
    · obtain ⟨o, wd, rfl, rfl, hwd, hfit, hmod⟩ := reachE_zero hE
      have hspl : (X.map RX.pair).Perm ((X[i].id, X[i].bs) :: (X.take i ++ X.drop (i + 1)).map RX.pair) := by
        conv => lhs; rw [split_at X hi]
        rw [List.map_append, List.map_cons, List.map_append]
        exact List.perm_middle
      have hsub : ∀ x ∈ X.take i ++ X.drop (i + 1), x ∈ X := fun x hx => (List.mem_append.1 hx).elim (List.mem_of_mem_take) (List.mem_of_mem_drop)
      have d0 := HB0.out.drew.cellAt (i := 0) rfl
      have d12 := HB1.out.drew.cellAt (i := 2) rfl
      have d13 := HB1.out.drew.cellAt (i := 3) rfl
      have d14 := HB1.out.drew.cellAt (i := 4) rfl
      have d15 := HB1.out.drew.cellAt (i := 5) rfl
      have CT := Mem.Aside.mk (save_holds ((H0.out.holds.chg (Chg.refl [] W0).drew (by simp)).perm hspl) o wd hwd hfit hmod V hrV)
      rw [hI] at CT
      go_upto_region 17 with fail
      go_region_held3 (fun w' => w'.cell? ⟨b, 0, none⟩ = some (.pointer (some ⟨q, 0, none⟩)) ∧ w'.cell? ⟨b + 1, 2, none⟩ = some (.int .i64 I) ∧ w'.cell? ⟨b + 1, 3, none⟩ = some (.int .i64 (o : Int)) ∧ w'.cell? ⟨b + 1, 4, none⟩ = some (.int .i64 (wd : Int)) ∧ w'.cell? ⟨b + 1, 5, none⟩ = some (.int .u64 (V : Int)))
        (first | exact ⟨d0, d12, d13, d14, d15⟩ | exact ⟨b0', b12', b13', b14', b15'⟩ | exact ⟨b0'', b12'', b13'', b14'', b15''⟩ | go_keep)
        (first | (go_at_call 23; (with_reducible refine CT.out.mono ?_); rintro e w1 ⟨rfl, h1, hc1⟩; have H1 := Mem.Aside.mk h1; have HC1 := Mem.Aside.mk hc1; have hbF : b ∉ F := (fun hm => by have := HF.out _ (List.mem_append_left _ hm); omega); have hbF1 : b + 1 ∉ F := (fun hm => by have := HF.out _ (List.mem_append_left _ hm); omega); have b0' := cell_chg hc1 d0 hbF; have b12' := cell_chg hc1 d12 hbF1; have b13' := cell_chg hc1 d13 hbF1; have b14' := cell_chg hc1 d14 hbF1; have b15' := cell_chg hc1 d15 hbF1; have R1 := Mem.Aside.mk ((H0.out.ref.chg (Chg.refl [] W0).drew (by simp)).chg hc1 (fun k hk hm => H0.out.apart k hm hk)); have CR := Mem.Aside.mk (rsave_ok R1.out hi (H0.out.ref.mem hi).2 o wd hwd hfit hmod V hrV); rw [hI] at CR; clear h1 hc1) | (go_at_call 74; (with_reducible refine CR.out.mono ?_); rintro e w2 ⟨rfl, h2, hc2⟩; have H2 := Mem.Aside.mk h2; have HC2 := Mem.Aside.mk hc2; have hqb : b ∉ [X[i].blk] := (fun hm => by have := HF.out b (List.mem_append_right _ (mem_rfoot.2 (.inr (.inr (by simp at hm; rw [hm]; exact List.mem_map_of_mem (List.getElem_mem hi)))))); omega); have hqb1 : b + 1 ∉ [X[i].blk] := (fun hm => by have := HF.out (b + 1) (List.mem_append_right _ (mem_rfoot.2 (.inr (.inr (by simp at hm; rw [hm]; exact List.mem_map_of_mem (List.getElem_mem hi)))))); omega); have hqb2 : b + 2 ∉ [X[i].blk] := (fun hm => by have := HF.out (b + 2) (List.mem_append_right _ (mem_rfoot.2 (.inr (.inr (by simp at hm; rw [hm]; exact List.mem_map_of_mem (List.getElem_mem hi)))))); omega); have b0'' := cell_chg hc2 b0' hqb; have b12'' := cell_chg hc2 b12' hqb1; have b13'' := cell_chg hc2 b13' hqb1; have b14'' := cell_chg hc2 b14' hqb1; have b15'' := cell_chg hc2 b15' hqb1; have B2 := Mem.Aside.mk ((HB2.out.drew.chg HC1.out (fun hm => by have := HF.out _ (List.mem_append_left _ hm); omega)).chg hc2 hqb2); have f2' := B2.out.frozen 0; have g2' := B2.out.cellAt (i := 0) rfl; clear h2 hc2))
      go_wp2
      have hmb : X[i].blk ∈ rfoot q lv X := mem_rfoot.2 (.inr (.inr (List.mem_map_of_mem (List.getElem_mem hi))))
      have hrfE : rfoot q lv (X.take i ++ ⟨X[i].id, splice X[i].bs o (leB V wd), X[i].blk⟩ :: X.drop (i + 1)) = rfoot q lv X := by
        have e : (X.take i ++ ⟨X[i].id, splice X[i].bs o (leB V wd), X[i].blk⟩ :: X.drop (i + 1)).map RX.blk = X.map RX.blk := by
          have := congrArg (List.map RX.blk) (split_at X hi)
          rw [List.map_append, List.map_cons] at this ⊢
          exact this.symm
        unfold rfoot
        rw [e]
      have P2 : PairX w2 p q F (X.take i ++ ⟨X[i].id, splice X[i].bs o (leB V wd), X[i].blk⟩ :: X.drop (i + 1)) lv most (n + 1) := by
        have h1 := H0.out.count
        have h2 := H0.out.most
        refine ⟨(H1.out.chg HC2.out (fun k hk hm => H0.out.apart k hk (by simp at hm; exact hm ▸ hmb))).perm ?_, H2.out, fun k hk hm => H0.out.apart k hk (hrfE ▸ hm), ?_, by omega⟩
        · simp only [List.map_append, List.map_cons, RX.pair]
          exact List.perm_middle.symm
        · rw [List.length_append, List.length_cons, List.length_take, List.length_drop]; omega
      have far : ∀ k ∈ F ++ rfoot q lv (X.take i ++ ⟨X[i].id, splice X[i].bs o (leB V wd), X[i].blk⟩ :: X.drop (i + 1)), k ∈ F ++ rfoot q lv X ∨ W0.heap.size ≤ k := fun k hk => .inl (by rw [hrfE] at hk; exact hk)
      have hcell : (w2.setCell ⟨b + 2, 0, none⟩ (.bool true)).cell? ⟨b + 2, 0, none⟩ = some (.bool true) := by go_simp
      have hbw := HSZ.out.1
      have hs0 := HSZ.out.2
      have hs1 : W0.heap.size ≤ w1.heap.size := HC1.out.size
      have hne : ∀ k ∈ F ++ rfoot q lv (X.take i ++ ⟨X[i].id, splice X[i].bs o (leB V wd), X[i].blk⟩ :: X.drop (i + 1)), k ≠ b + 2 := fun k hk e => by
        rcases far k hk with h | h
        · have := HF.out k h; omega
        · omega
      refine act_ret (t := b + 2) rfl hcell ⟨_, _, _, _, P2.chg ((Chg.refl [b + 2] w2).setCell (p := ⟨b + 2, 0, none⟩) (.inl (by simp)) _) (fun k hk hm => hne k hk (by simpa using hm)), rfl⟩ ?_ (fun k hk => (far k hk).imp (fun h => h) (fun h => by omega))
      have hcm : Chg (F ++ rfoot q lv X) w W0.drew := (HC0.out.mono (by simp)).drew
      exact ((hcm.then HC1.out (fun x hx => .inl (List.mem_append_left _ hx))).then HC2.out (fun x hx => .inl (List.mem_append_right _ (by simp at hx; exact hx ▸ hmb)))).setCell (.inr (by show w.heap.size ≤ b + 2; omega)) _
    
    · have d0 := HB0.out.drew.cellAt (i := 0) rfl
      have d12 := HB1.out.drew.cellAt (i := 2) rfl
      have d13 := HB1.out.drew.cellAt (i := 3) rfl
      have d14 := HB1.out.drew.cellAt (i := 4) rfl
      have d15 := HB1.out.drew.cellAt (i := 5) rfl
      have H0D : Mem.Aside (PairX W0.drew p q F X lv most n) := ⟨H0.out.chg (Chg.refl [] W0).drew (by simp)⟩
      have CT := Mem.Aside.mk (fun (W2 : World) (hc : Chg [] W0.drew W2) => save_badH (H0D.out.holds.chg hc (by simp)) (H0.out.ref.mem hi).1 O D (V : Int) hE)
      have CR := Mem.Aside.mk (fun (W2 : World) (hc : Chg [] W0.drew W2) => rsave_bad (H0D.out.ref.chg hc (by simp)) hi (H0.out.ref.mem hi).2 O D (V : Int) hrO hrD hE)
      rw [hI] at CT CR
      obtain ⟨LN, hLN⟩ : ∃ LN, LN = reachE X[i].bs.length O D := ⟨_, rfl⟩
      rw [← hLN] at CT CR
      clear hI hLN hE
      go_upto_region 17 with fail
      go_region_held3 (fun w' => w'.cell? ⟨b, 0, none⟩ = some (.pointer (some ⟨q, 0, none⟩)) ∧ w'.cell? ⟨b + 1, 2, none⟩ = some (.int .i64 I) ∧ w'.cell? ⟨b + 1, 3, none⟩ = some (.int .i64 O) ∧ w'.cell? ⟨b + 1, 4, none⟩ = some (.int .i64 D) ∧ w'.cell? ⟨b + 1, 5, none⟩ = some (.int .u64 (V : Int)))
        (first | exact ⟨d0, d12, d13, d14, d15⟩ | exact ⟨b0', b12', b13', b14', b15'⟩ | exact ⟨b0'', b12'', b13'', b14'', b15''⟩ | go_keep)
        (first | (go_at_call 23; (with_reducible refine (CT.out _ (Chg.refl [] W0.drew)).mono ?_); rintro e w1 ⟨rfl, hc1⟩; have HC1 := Mem.Aside.mk hc1; have b0' := cell_chg hc1 d0 (by simp); have b12' := cell_chg hc1 d12 (by simp); have b13' := cell_chg hc1 d13 (by simp); have b14' := cell_chg hc1 d14 (by simp); have b15' := cell_chg hc1 d15 (by simp); clear hc1) | (go_at_call 74; (with_reducible refine (CR.out _ HC1.out).mono ?_); rintro e w2 ⟨rfl, hc2⟩; have HC2 := Mem.Aside.mk (HC1.out.then hc2 (by simp)); have b0'' := cell_chg hc2 b0' (by simp); have b12'' := cell_chg hc2 b12' (by simp); have b13'' := cell_chg hc2 b13' (by simp); have b14'' := cell_chg hc2 b14' (by simp); have b15'' := cell_chg hc2 b15' (by simp); have f2' := (HB2.out.drew.chg HC2.out (by simp)).frozen 0; have g2' := (HB2.out.drew.chg HC2.out (by simp)).cellAt (i := 0) rfl; clear hc2))
      go_wp2
      have HCW := Mem.Aside.mk (HC0.out.drew.then HC2.out (by simp))
      exact act_ret (t := b + 2) rfl (by go_simp) ⟨_, _, _, _, ((H.out.chg (HCW.out.setCell (p := ⟨b + 2, 0, none⟩) (.inr (by show w.heap.size ≤ b + 2; rw [HSZ.out.1]; omega)) _) (by simp)).more (Nat.le_succ _)), rfl⟩ ((HCW.out.setCell (p := ⟨b + 2, 0, none⟩) (.inr (by show w.heap.size ≤ b + 2; rw [HSZ.out.1]; omega)) _).mono (by simp)) (fun k hk => .inl hk)
  · have d0 := HB0.out.drew.cellAt (i := 0) rfl
    have d12 := HB1.out.drew.cellAt (i := 2) rfl
    have d13 := HB1.out.drew.cellAt (i := 3) rfl
    have d14 := HB1.out.drew.cellAt (i := 4) rfl
    have d15 := HB1.out.drew.cellAt (i := 5) rfl
    have H0D : Mem.Aside (PairX W0.drew p q F X lv most n) := ⟨H0.out.chg (Chg.refl [] W0).drew (by simp)⟩
    have CT := Mem.Aside.mk (fun (W2 : World) (hc : Chg [] W0.drew W2) => save_absent (H0D.out.holds.chg hc (by simp)) I O D (V : Int) hrI (pair_absent hx))
    have CR := Mem.Aside.mk (fun (W2 : World) (hc : Chg [] W0.drew W2) => rsave_none (H0D.out.ref.chg hc (by simp)) I O D (V : Int) hrI hx)
    clear hx
    go_upto_region 17 with fail
    go_region_held3 (fun w' => w'.cell? ⟨b, 0, none⟩ = some (.pointer (some ⟨q, 0, none⟩)) ∧ w'.cell? ⟨b + 1, 2, none⟩ = some (.int .i64 I) ∧ w'.cell? ⟨b + 1, 3, none⟩ = some (.int .i64 O) ∧ w'.cell? ⟨b + 1, 4, none⟩ = some (.int .i64 D) ∧ w'.cell? ⟨b + 1, 5, none⟩ = some (.int .u64 (V : Int)))
      (first | exact ⟨d0, d12, d13, d14, d15⟩ | exact ⟨b0'', b12'', b13'', b14'', b15''⟩ | go_keep)
      (first | (go_at_call 23; (with_reducible refine (CT.out _ (Chg.refl [] W0.drew)).mono ?_); rintro e w1 ⟨rfl, rfl⟩; have HC1 := Mem.Aside.mk (Chg.refl [] W0.drew)) | (go_at_call 74; (with_reducible refine (CR.out _ HC1.out).mono ?_); rintro e w2 ⟨rfl, hc2⟩; have HC2 := Mem.Aside.mk (HC1.out.then hc2 (by simp)); have b0'' := cell_chg hc2 d0 (by simp); have b12'' := cell_chg hc2 d12 (by simp); have b13'' := cell_chg hc2 d13 (by simp); have b14'' := cell_chg hc2 d14 (by simp); have b15'' := cell_chg hc2 d15 (by simp); have f2' := (HB2.out.drew.chg HC2.out (by simp)).frozen 0; have g2' := (HB2.out.drew.chg HC2.out (by simp)).cellAt (i := 0) rfl; clear hc2))
    go_wp2
    have HCW := Mem.Aside.mk (HC0.out.drew.then HC2.out (by simp))
    exact act_ret (t := b + 2) rfl (by go_simp) ⟨_, _, _, _, ((H.out.chg (HCW.out.setCell (p := ⟨b + 2, 0, none⟩) (.inr (by show w.heap.size ≤ b + 2; rw [HSZ.out.1]; omega)) _) (by simp)).more (Nat.le_succ _)), rfl⟩ ((HCW.out.setCell (p := ⟨b + 2, 0, none⟩) (.inr (by show w.heap.size ≤ b + 2; rw [HSZ.out.1]; omega)) _).mono (by simp)) (fun k hk => .inl hk)
end Go.Proofs.Ytgimcpnelogadaa.Sto
