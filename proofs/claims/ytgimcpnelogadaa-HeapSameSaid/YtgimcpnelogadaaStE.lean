/- Chapter 5, the store, by hand: find, Len. -/
import Derived.Test.YtgimcpnelogadaaStD
namespace Go.Proofs.Ytgimcpnelogadaa.Sto
open Go.RowKit Go.Proofs.Ytgimcpnelogadaa.Mem
set_option linter.unusedVariables false
set_option linter.unusedSimpArgs false

/-- A whole number of 64 bits. -/
def I64 (k : Int) : Prop := -9223372036854775808 ≤ k ∧ k ≤ 9223372036854775807
theorem I64.wf {k : Int} (h : I64 k) : (Lit.int .i64 k).wf = true := WalkArith.wf_i64 h
theorem zeroInt (w : World) : (zeroValue 3).run Try.prog w = .ok (.int .i64 0) w := by kernel_rfl

theorem find_none {w : World} {p : Nat} {s : St} {F : List Nat} (h : Sto w p s F) (k : Int) (hk : I64 k) (hn : atOf s.all k = none) :
    Calls Try.prog 67 #[.pointer (some ⟨p, 0, none⟩), .int .i64 k] w fun e w' => e = .returned (.tuple #[.int .i64 0, .bool false]) ∧ w = w' := by
  obtain ⟨rawv, allv, mb, h, rfl⟩ := h
  have hl := h.by_.look Try.underlying52 Try.underlying3 (zeroInt w) k hk.wf
  rw [hn] at hl
  have h2 := h.c2
  clear h hn hk
  go_enter Try.func67, Try.ntmps67
  go_wp2
  go_ret2
  exact ⟨rfl, rfl⟩

theorem find_some {w : World} {p : Nat} {s : St} {F : List Nat} (h : Sto w p s F) (ho : Ok s) (hl : s.all.length ≤ 1000000000) {i : Nat} (hi : i < s.all.length) (hk : I64 (s.all[i].id : Int)) :
    Calls Try.prog 67 #[.pointer (some ⟨p, 0, none⟩), .int .i64 (s.all[i].id : Int)] w fun e w' => e = .returned (.tuple #[.int .i64 (i : Int), .bool true]) ∧ Chg [] w w' := by
  obtain ⟨rawv, allv, mb, h, rfl⟩ := h
  have hlk := h.by_.look Try.underlying52 Try.underlying3 (zeroInt w) _ hk.wf
  rw [atOf_some ho.lay.ids (List.getElem_mem hi)] at hlk
  have hp : place ⟨s.all[i].id, s.all[i].at_, 0⟩ s.all = i := place_of_mem ho.lay.sorted hi _ rfl rfl
  have hf : foundB ⟨s.all[i].id, s.all[i].at_, 0⟩ s.all = true := by unfold foundB; rw [hp, List.getElem?_eq_getElem hi]; simp
  have C : Aside (Calls Try.prog 63 #[allv, .agg #[.int .i64 (s.all[i].id : Int), .int .i64 (s.all[i].at_ : Int), .int .i64 0], .func (.func 64) #[] #[]] w fun e w' =>
      e = .returned (.tuple #[.int .i64 (i : Int), .bool true]) ∧ Chg [] w w') := ⟨by
    have := bsearch_calls h.all ho.lay.sorted hl ⟨s.all[i].id, s.all[i].at_, 0⟩
    rw [hp, hf] at this
    exact this⟩
  have h1 := h.c1
  have h2 := h.c2
  clear h hk ho hp hf hl
  go_enter Try.func67, Try.ntmps67
  go_wp2_with (go_at_call 63; (with_reducible refine C.out.mono ?_); rintro e w' ⟨rfl, hc⟩)
  go_ret2
  exact ⟨rfl, hc⟩

theorem len_none {w : World} {p : Nat} {s : St} {F : List Nat} (h : Sto w p s F) (k : Int) (hk : I64 k) (hn : atOf s.all k = none) :
    Calls Try.prog 28 #[.pointer (some ⟨p, 0, none⟩), .int .i64 k] w fun e w' => e = .returned (.tuple #[.int .i64 0, .int .i64 30]) ∧ w = w' := by
  have C := Aside.mk (find_none h k hk hn)
  clear h hn hk
  go_enter Try.func28, Try.ntmps28
  go_wp2_with (go_at_call 67; (with_reducible refine C.out.mono ?_); rintro e w' ⟨rfl, rfl⟩)
  go_ret2
  exact ⟨rfl, rfl⟩

/-- The cells of the i-th extent, in a store. -/
theorem StoAt.ext {w : World} {p mb : Nat} {s : St} {rawv allv : Value} (h : StoAt w p s rawv allv mb) {i : Nat} (hi : i < s.all.length) : ∃ g cap, allv = .slice (some ⟨g, 0, none⟩) s.all.length cap ∧
    w.cell? ⟨g, i * 3, none⟩ = some (.int .i64 (s.all[i].id : Int)) ∧ w.cell? ⟨g, i * 3 + 1, none⟩ = some (.int .i64 (s.all[i].at_ : Int)) ∧ w.cell? ⟨g, i * 3 + 2, none⟩ = some (.int .i64 (s.all[i].len : Int)) := by
  rcases h.all.cases with ⟨h1, h2, _⟩ | ⟨g, cap, rest, h1, hb, _⟩
  · omega
  · obtain ⟨r0, r1, r2⟩ := rowV_get s.all hi
    exact ⟨g, cap, h1, hb.cellAt (List.getElem?_append_left_some (b := rest) r0), hb.cellAt (List.getElem?_append_left_some (b := rest) r1), hb.cellAt (List.getElem?_append_left_some (b := rest) r2)⟩

theorem len_some {w : World} {p : Nat} {s : St} {F : List Nat} (h : Sto w p s F) (ho : Ok s) (hl : s.all.length ≤ 1000000000) {i : Nat} (hi : i < s.all.length) (hk : I64 (s.all[i].id : Int)) :
    Calls Try.prog 28 #[.pointer (some ⟨p, 0, none⟩), .int .i64 (s.all[i].id : Int)] w fun e w' => e = .returned (.tuple #[.int .i64 (s.all[i].len : Int), .int .i64 0]) ∧ Chg [] w w' := by
  have C := Aside.mk (find_some h ho hl hi hk)
  obtain ⟨rawv, allv, mb, h, rfl⟩ := h
  have H := Aside.mk h
  have hi' : (i : Int) < (s.all.length : Int) := by omega
  clear h ho hk hl
  go_enter Try.func28, Try.ntmps28
  go_wp2_with (go_at_call 67; (with_reducible refine C.out.mono ?_); rintro e w' ⟨rfl, hc⟩; have h1 := (H.out.chg hc (by simp)).c1; obtain ⟨g, cap, rfl, e0, e1, e2⟩ := (H.out.chg hc (by simp)).ext hi)
  go_outline
  go_ret2
  exact ⟨rfl, hc⟩
end Go.Proofs.Ytgimcpnelogadaa.Sto
