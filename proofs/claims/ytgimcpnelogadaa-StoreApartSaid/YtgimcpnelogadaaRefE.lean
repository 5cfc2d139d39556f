/- Chapter 5's reference, by hand: Take of a bad number; Give. -/
import Derived.Test.YtgimcpnelogadaaRefD
namespace Go.Proofs.Ytgimcpnelogadaa.Sto
open Go.RowKit Go.Proofs.Ytgimcpnelogadaa.Mem
set_option linter.unusedVariables false
set_option linter.unusedSimpArgs false

theorem rtake_neg (q : Nat) (n : Int) (hn : n < 0) (w : World) :
    Calls Try.prog 70 #[.pointer (some ⟨q, 0, none⟩), .int .i64 n] w fun e w' => e = .returned (.tuple #[.int .i64 0, .int .i64 13]) ∧ w = w' := by
  go_enter Try.func70, Try.ntmps70
  go_wp2
  go_ret2
  exact ⟨rfl, rfl⟩
theorem rtake_long (q : Nat) (n : Int) (hn : 8388608 < n) (w : World) :
    Calls Try.prog 70 #[.pointer (some ⟨q, 0, none⟩), .int .i64 n] w fun e w' => e = .returned (.tuple #[.int .i64 0, .int .i64 2]) ∧ w = w' := by
  have hn0 : 0 ≤ n := by omega
  go_enter Try.func70, Try.ntmps70
  go_wp2
  go_ret2
  exact ⟨rfl, rfl⟩
theorem rgive_none {w : World} {q most : Nat} {X : List RX} {lv : Value} (h : RefAt w q X lv most) (k : Int) (hk : I64 k) (hn : ∀ x ∈ X, (x.id : Int) ≠ k) :
    Calls Try.prog 71 #[.pointer (some ⟨q, 0, none⟩), .int .i64 k] w fun e w' => e = .returned (.int .i64 30) ∧ Chg [] w w' := by
  have C := Mem.Aside.mk (rfind_none h k hk hn)
  clear h hn hk
  go_enter Try.func71, Try.ntmps71
  go_wp2_with (go_at_call 116; (with_reducible refine C.out.mono ?_); rintro e w' ⟨⟨m, rfl, _⟩, hc⟩)
  go_ret
  exact ⟨rfl, hc⟩

theorem RefAt.gave {w w6 : World} {q most i : Nat} {X : List RX} {lv v6 : Value} (h : RefAt w q X lv most) (hi : i < X.length) (hc : Chg [] w w6)
    (hr : Row w6 125 2 v6 (X.length - 1) (refV (X.take i) ++ refV (X.drop (i + 1)))) (hv : ∀ g, v6.ownBlock = some g → w.heap.size ≤ g) :
    RefAt (w6.setCell ⟨q, 0, none⟩ v6) q (X.take i ++ X.drop (i + 1)) v6 most := by
  have hq := h.cells.lt
  have hlen : (X.take i ++ X.drop (i + 1)).length = X.length - 1 := by simp; omega
  have hsub : (X.take i ++ X.drop (i + 1)).Sublist X := by
    conv => rhs; rw [split_at X hi]
    exact (List.Sublist.refl _).append (List.sublist_cons_self _ _)
  refine ⟨(h.cells.chg hc (by simp)).set 0 v6, ?_, fun x hx => ?_, h.apart.sublist (hsub.map _), h.sorted.sublist (hsub.map _), ?_⟩
  · rw [hlen, refV_append]
    exact hr.farCell (p := ⟨q, 0, none⟩) (fun e => by have := hv q e; omega) v6
  · have := hsub.subset hx
    exact ((h.bytes x this).chg hc (by simp)).far (p := ⟨q, 0, none⟩) (h.q_bytes x this) v6
  · exact ⟨by have := h.small.1; omega, fun x hx => h.small.2.1 x (hsub.subset hx), h.small.2.2⟩

set_option maxRecDepth 100000 in
set_option maxHeartbeats 8000000 in
theorem rgive_some {w : World} {q most : Nat} {X : List RX} {lv : Value} (h : RefAt w q X lv most) (hX : X.length ≤ 10000000) {i : Nat} (hi : i < X.length) (hk : I64 (X[i].id : Int)) :
    Calls Try.prog 71 #[.pointer (some ⟨q, 0, none⟩), .int .i64 (X[i].id : Int)] w fun e w' => ∃ lv' : Value, e = .returned (.int .i64 0) ∧ RefAt w' q (X.take i ++ X.drop (i + 1)) lv' most ∧ Chg [q] w w' ∧ (∀ g, lv'.ownBlock = some g → w.heap.size ≤ g) := by
  have CF := Mem.Aside.mk (rfind_some h hi hk)
  have h0 := h.c0
  have H := Mem.Aside.mk h
  obtain ⟨a, c, rfl⟩ := Row_form h.row
  have hl := h.small.1
  obtain ⟨hcc, hsrc, hnl⟩ : X.length ≤ c ∧ (∀ ad, a = some ad → ∀ j u, (refV X)[j]? = some u → w.cell? (ad.add j) = some u) ∧ ∃ ad, a = some ad := by
    rcases h.row.cases with ⟨h1, h2, _⟩ | ⟨g, cap, rest, h1, hb, h2, _⟩
    · omega
    · cases h1
      exact ⟨h2, fun ad e j u hu => by cases e; rw [addr_add, Nat.zero_add]; exact hb.cellAt (List.getElem?_append_left_some (b := rest) hu), _, rfl⟩
  obtain ⟨ad, rfl⟩ := hnl
  have HSRC := Mem.Aside.mk (hsrc ad rfl)
  have hi' : (i : Int) < (X.length : Int) := by omega
  have hic : (i : Int) ≤ (c : Int) := by omega
  have hic' : i ≤ c := by omega
  have hXc : (X.length : Int) ≤ (c : Int) := by omega
  have hi1 : (i : Int) + 1 ≤ (X.length : Int) := by omega
  have hi1' : i + 1 ≤ X.length := by omega
  have hwi := (IntWalk.i64_in ((i : Int) + 1) (by omega) : IntKind.i64.wrap ((i : Int) + 1) = ((i + 1 : Nat) : Int))
  clear h hk hsrc
  go_enter Try.func71, Try.ntmps71
  go_upto_region 5 with (first
    | (go_at_call 116; (with_reducible refine CF.out.mono ?_); rintro e w1 ⟨rfl, hc1⟩
       have h1 := (H.out.chg (hc1.alloc (.cells #[] 125)) (by simp)).c0
       have R0 : Row (w1.alloc (.cells #[] 125)) 125 2 (.slice (some ⟨w1.heap.size, 0, none⟩) 0 0) 0 [] := Row.mk (rest := []) (Blk.newL [] rfl) rfl (Nat.le_refl _) (by omega) rfl
       obtain ⟨v2, w2, hr2, hR2, hC2, hO2⟩ := R0.append (c := c) Try.underlying41 elemRX (ad := ad) (m := i) (news := refV (X.take i)) (by rw [refV_length, List.length_take]; congr 1; omega) (fun j u hu => cell_chg (hc1.alloc _) (HSRC.out j u (refV_pre hu)) (by simp)) (refV_one _) (by omega) (by omega)
       have HR2 := Mem.Aside.mk hR2
       have HC2 : Mem.Aside (Chg [] w w2) := ⟨(hc1.alloc _).then hC2 (fun x hx => .inr (by simp [Value.ownBlock] at hx; subst hx; exact hc1.size))⟩
       have HO2 : Mem.Aside (∀ g, v2.ownBlock = some g → w.heap.size ≤ g) := ⟨fun g hg => by have := hc1.size; rcases hO2 with e | e <;> rw [e] at hg <;> simp [Value.ownBlock] at hg <;> omega⟩
       have HRUN2 := Mem.Aside.mk hr2
       have h2 := (H.out.chg HC2.out (by simp)).c0
       clear hc1 R0 hr2 hR2 hC2 hO2 h0)
    | (at_builtin; refine wpList_builtin2 _ (by rfl) .append _ _ _ (by rfl) _ _ (by rfl) (by rfl) _ _ (HRUN2.out _) ?_; clear HRUN2 h1))
  rw [Nat.zero_add, List.nil_append] at HR2
  have hi1c : ((i + 1 : Nat) : Int) ≤ (c : Int) := by omega
  by_cases hcm : c = i + 1
  case' pos =>
    have hXm : X.length - (i + 1) = 0 := by omega
    obtain ⟨v6, w6, hr6, hR6, hC6, hO6⟩ := HR2.out.append2 (c := 0) Try.underlying41 elemRX (ad := some ad) (m := X.length - (i + 1)) (news := refV (X.drop (i + 1))) (by rw [refV_length, List.length_drop]) (fun _ => hXm) (fun _ _ _ _ hu => by rw [List.drop_eq_nil_of_le (by omega)] at hu; simp [refV] at hu) (refV_one _) (by omega) (by omega)
    clear hXm
  case' neg =>
    obtain ⟨v6, w6, hr6, hR6, hC6, hO6⟩ := HR2.out.append2 (c := c - (i + 1)) Try.underlying41 elemRX (ad := some (ad.add ((i + 1) * 2))) (m := X.length - (i + 1)) (news := refV (X.drop (i + 1))) (by rw [refV_length, List.length_drop]) (fun e => by cases e) (fun a' e j u hu => by cases e; rw [Addr.add_add']; exact cell_chg HC2.out (HSRC.out _ u (refV_post hi1' hu)) (by simp)) (refV_one _) (by omega) (by omega)
  all_goals
    rw [show i + (X.length - (i + 1)) = X.length - 1 by omega] at hR6
    obtain ⟨a6, c6, rfl⟩ := Row_form hR6
    have HRUN6 := Mem.Aside.mk hr6
    have HC6 : Mem.Aside (Chg [] w w6) := ⟨HC2.out.then hC6 (fun x hx => .inr (HO2.out x (Option.mem_toList.1 hx)))⟩
    have HO6 : Mem.Aside (∀ g, (Value.slice a6 (X.length - 1) c6).ownBlock = some g → w.heap.size ≤ g) := ⟨fun g hg => by
      rcases hO6 with e | e
      · rw [e] at hg; exact HO2.out g hg
      · rw [e] at hg; have h1 := Option.some.inj hg; have h2 := HC2.out.size; omega⟩
    have f6 := (H.out.chg HC6.out (by simp)).cells.frozen 0
    have h6 := (H.out.chg HC6.out (by simp)).c0
    have H7 := Mem.Aside.mk (H.out.gave hi HC6.out hR6 HO6.out)
    clear hr6 hR6 hC6 hO6 HR2 HC2 HO2
    go_wp2_with (at_builtin; refine wpList_builtin2 _ (by rfl) .append _ _ _ (by rfl) _ _ (by rfl) (by rfl) _ _ (HRUN6.out _) ?_)
    go_ret
    exact ⟨_, rfl, H7.out, (HC6.out.mono (by simp)).setCell (p := ⟨q, 0, none⟩) (.inl (by simp)) _, HO6.out⟩
end Go.Proofs.Ytgimcpnelogadaa.Sto
