/- Chapter 5: Load and Save of an absent or a bad place, over what is held. -/
import Derived.Test.YtgimcpnelogadaaPlD
namespace Go.Proofs.Ytgimcpnelogadaa.Sto
open Go.RowKit Go.Proofs.Ytgimcpnelogadaa.Mem
set_option linter.unusedVariables false
set_option linter.unusedSimpArgs false
section
variable {w : World} {p m : Nat} {F : List Nat} {L : List (Nat × List UInt8)}
theorem load_absent (h : Holds w p F L m) (k off width : Int) (hk : I64 k) (hn : ∀ q ∈ L, (q.1 : Int) ≠ k) :
    Calls Try.prog 24 #[.pointer (some ⟨p, 0, none⟩), .int .i64 k, .int .i64 off, .int .i64 width] w fun e w' => e = .returned (.tuple #[.int .u64 0, .int .i64 30]) ∧ w = w' := by
  obtain ⟨⟨s, h1, h2, h3, h4⟩, _⟩ := h
  exact load_none h1 k off width hk (atOf_pairs h3 hn)
theorem save_absent (h : Holds w p F L m) (k off width x : Int) (hk : I64 k) (hn : ∀ q ∈ L, (q.1 : Int) ≠ k) :
    Calls Try.prog 23 #[.pointer (some ⟨p, 0, none⟩), .int .i64 k, .int .i64 off, .int .i64 width, .int .u64 x] w fun e w' => e = .returned (.int .i64 30) ∧ w = w' := by
  obtain ⟨⟨s, h1, h2, h3, h4⟩, _⟩ := h
  exact save_none h1 k off width x hk (atOf_pairs h3 hn)
theorem load_badH (h : Holds w p F L m) {id : Nat} {bs : List UInt8} (hm : (id, bs) ∈ L) (off width : Int) (hb : reachE bs.length off width ≠ 0) :
    Calls Try.prog 24 #[.pointer (some ⟨p, 0, none⟩), .int .i64 (id : Int), .int .i64 off, .int .i64 width] w fun e w' => e = .returned (.tuple #[.int .u64 0, .int .i64 (reachE bs.length off width)]) ∧ Chg [] w w' := by
  have hq := h.ids _ hm
  obtain ⟨⟨s, h1, h2, h3, h4⟩, h5, h6, h7⟩ := h
  have hlen : s.all.length = L.length := by rw [← pairs_length, h3.length_eq]
  obtain ⟨i, hi, rfl, rfl⟩ := ext_of h3 hm
  have hsp := h2.span
  rw [bytes_length h2 (List.getElem_mem hi)] at hb ⊢
  exact load_bad h1 h2 (by omega) (by omega) hi ⟨by omega, by simp at hq; omega⟩ off width hb
theorem save_badH (h : Holds w p F L m) {id : Nat} {bs : List UInt8} (hm : (id, bs) ∈ L) (off width x : Int) (hb : reachE bs.length off width ≠ 0) :
    Calls Try.prog 23 #[.pointer (some ⟨p, 0, none⟩), .int .i64 (id : Int), .int .i64 off, .int .i64 width, .int .u64 x] w fun e w' => e = .returned (.int .i64 (reachE bs.length off width)) ∧ Chg [] w w' := by
  have hq := h.ids _ hm
  obtain ⟨⟨s, h1, h2, h3, h4⟩, h5, h6, h7⟩ := h
  have hlen : s.all.length = L.length := by rw [← pairs_length, h3.length_eq]
  obtain ⟨i, hi, rfl, rfl⟩ := ext_of h3 hm
  have hsp := h2.span
  rw [bytes_length h2 (List.getElem_mem hi)] at hb ⊢
  exact save_bad h1 h2 (by omega) (by omega) hi ⟨by omega, by simp at hq; omega⟩ off width x hb
end
/-- The extent that is told by both. -/
theorem RefAt.mem {w : World} {q most : Nat} {X : List RX} {lv : Value} (h : RefAt w q X lv most) {i : Nat} (hi : i < X.length) : (X[i].id, X[i].bs) ∈ X.map RX.pair ∧ I64 (X[i].id : Int) := by
  refine ⟨List.mem_map_of_mem (f := RX.pair) (List.getElem_mem hi), ?_⟩
  have := (h.small.2.1 _ (List.getElem_mem hi)).1
  unfold I64
  omega
end Go.Proofs.Ytgimcpnelogadaa.Sto
