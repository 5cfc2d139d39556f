/- Chapter 5: Pack, with all that it leaves told; an element of a row. -/
import Derived.Test.YtgimcpnelogadaaPlP
import Derived.Test.YtgimcpnelogadaaStM
namespace Go.Proofs.Ytgimcpnelogadaa.Sto
open Go.RowKit Go.Proofs.Ytgimcpnelogadaa.Mem
set_option linter.unusedVariables false
set_option linter.unusedSimpArgs false

theorem row_get1 {w : World} {t : TypeId} {n : Nat} {v : Value} {xs : List Value} (h : Row w t 1 v n xs) {i : Nat} {u : Value} (hi : xs[i]? = some u) : ∃ g cap, v = .slice (some ⟨g, 0, none⟩) n cap ∧ w.cell? ⟨g, i, none⟩ = some u := by
  rcases h.cases with ⟨h1, rfl, rfl⟩ | ⟨g, cap, rest, h1, hb, _⟩
  · simp at hi
  · exact ⟨g, cap, h1, hb.cellAt (List.getElem?_append_left_some (b := rest) hi)⟩
theorem pack_sto {w : World} {p m : Nat} {s : St} {F : List Nat} {L : List (Nat × List UInt8)} (h : Sto w p s F) (h2 : Ok s) (h3 : s.pairs.Perm L) (h4 : s.most ≤ m) (hids : ∀ q ∈ L, q.1 ≤ 1000000000) (h6 : L.length ≤ 100000000) (h7 : m ≤ 100000000000) :
    Calls Try.prog 27 #[.pointer (some ⟨p, 0, none⟩)] w fun e w' => e = .returned (.tuple #[]) ∧ ∃ s', Sto w' p s' F ∧ Ok s' ∧ s'.pairs.Perm L ∧ s'.most ≤ m ∧ s'.used = s.used ∧ s'.raw.length = total s'.all ∧
      s'.all.Perm (packGo 0 s.all) ∧ s'.all.Pairwise Ext.lt ∧ s'.all.length = s.all.length ∧ Chg F w w' := by
  obtain ⟨rawv, allv, mb, h1, rfl⟩ := h
  have hlen : s.all.length = L.length := by rw [← pairs_length, h3.length_eq]
  have hsp := h2.span
  refine (pack_calls h1 h2.lies (by omega) (by omega) (fun x hx => ?_)).mono ?_
  · have := hids (x.id, s.bytes x) (h3.mem_iff.1 (List.mem_map_of_mem hx))
    exact ⟨by omega, by simp at this; omega⟩
  · rintro e w' ⟨s', rawv', h8, h9, h10, h11, raw, hp, hr, ha, hs, hu, hm⟩
    have hmo := h2.most
    have M := Mid.packed h2 (n := 0) hp hr ha hs (by rw [hu]; rfl) (by rw [hm]; show s.most = max s.most (s.used + 0); omega)
    have hl : s'.raw.length = s.used := by
      rw [hr, List.length_take, hp.length, h2.used]
      exact Nat.min_eq_left h2.lay.total_le
    exact ⟨h8, s', ⟨_, _, _, h9, (foot_congr h10 rfl).symm⟩, ⟨M.lay, by rw [hu, M.total], by rw [hu, hm]; exact hmo, M.span⟩, M.pairs.trans h3, by rw [hm]; exact h4, hu, by rw [hl, M.total], ha, hs, M.length, h11⟩
end Go.Proofs.Ytgimcpnelogadaa.Sto
