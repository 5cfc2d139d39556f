/- Chapter 5, the store, by hand: slices.Clone of extents. -/
import Derived.Test.YtgimcpnelogadaaStB
namespace Go.Proofs.Ytgimcpnelogadaa.Sto
open Go.RowKit Go.Proofs.Ytgimcpnelogadaa.Mem
set_option linter.unusedVariables false
set_option linter.unusedSimpArgs false
theorem infoExt : (Try.prog.info? 114).map (fun i => (i.zero, i.size, i.bytes)) = some (some (.agg #[.int .i64 0, .int .i64 0, .int .i64 0]), 3, 24) := by kernel_rfl
theorem oneExt : ∀ (l : List Ext), ∀ v ∈ rowV l, v.oneCell' = true := by
  intro l v hv
  unfold rowV extV at hv
  simp only [List.mem_flatMap] at hv
  obtain ⟨x, _, hv⟩ := hv
  simp at hv
  rcases hv with rfl | rfl | rfl <;> rfl
theorem List.getElem?_append_left_some {α : Type} {a b : List α} {j : Nat} {u : α} (h : a[j]? = some u) : (a ++ b)[j]? = some u := by
  rw [List.getElem?_append_left (List.getElem?_eq_some_iff.1 h).1]; exact h
theorem rowV_length (l : List Ext) : (rowV l).length = l.length * 3 := by
  unfold rowV
  induction l with
  | nil => rfl
  | cons x xs ih => simp [List.flatMap_cons, extV, ih]; omega

set_option maxRecDepth 100000 in
theorem clone_calls {w : World} {v : Value} {l : List Ext} (h : Row w 114 3 v l.length (rowV l)) (hl : l.length ≤ 1000000000) :
    Calls Try.prog 78 #[v] w fun e w' => ∃ v', e = .returned v' ∧ Row w' 114 3 v' l.length (rowV l) ∧ Chg [] w w' ∧ ∀ g, v'.ownBlock = some g → w.heap.size ≤ g := by
  obtain ⟨i0, hi, hz0, hz1, hz2⟩ := info_parts infoExt
  have hu := Try.underlying114
  have hq := fun (w : World) a n c => Lib.run_eql_slice_nil (P := Try.prog) w 109 114 a n c 0 0 Try.underlying109
  rcases h.cases with ⟨rfl, hn, hx⟩ | ⟨g, cap, rest, rfl, hb, hn, hc, hlen⟩
  · have hl0 : l = [] := List.eq_nil_of_length_eq_zero hn
    subst hl0
    clear h hn hx
    go_enter Try.func78, Try.ntmps78
    go_wp2
    go_ret
    exact ⟨_, rfl, Row.nil _ _ _, Chg.refl _ _, fun g hg => by cases hg⟩
  · have H := Aside.mk hb
    have H1 := Aside.mk hn
    have H2 := Aside.mk hl
    have H3 := Aside.mk hlen
    clear h hb hn hc hlen hl
    go_enter Try.func78, Try.ntmps78
    go_wp2_with (at_builtin; refine wpList_append_own _ rfl _ _ 109 rfl w.heap.size 114 i0 _ 3 24 Try.underlying109 hi hz0 hz1 hz2 rfl (by decide) _ _ _ rfl (World.ownsRow_made w #[] 0 (Nat.le_refl _) (Nat.zero_le _) rfl) ⟨g, 0, none⟩ l.length cap (rowV l) rfl (rowV_length l) ((H.out.alloc _).from (fun j u hu => by rw [Nat.zero_add]; exact List.getElem?_append_left_some hu)) (oneExt l) (by have := H2.out; unfold maxLen; omega) (by have := H2.out; omega) (by simp) ?_; intro v' w1 hown hgrow _)
    go_ret
    simp only [Nat.zero_add, List.nil_append] at hown
    refine ⟨_, rfl, Row.of_owns hown, ((Chg.refl [] w).alloc _).then (Chg.of_grown (F := [w.heap.size]) hgrow (fun k hk => .inl ?_)) (by simp), fun k hk => (World.ownsRow.lt hown k hk).1⟩
    have hk' : some w.heap.size = some k := hk
    simp at hk'; simp [hk']
end Go.Proofs.Ytgimcpnelogadaa.Sto
