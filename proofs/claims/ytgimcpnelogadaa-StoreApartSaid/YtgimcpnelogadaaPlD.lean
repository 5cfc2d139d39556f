/- Chapter 5: Take over what is held, with its most told; what two stores hold together. -/
import Derived.Test.YtgimcpnelogadaaPlB
namespace Go.Proofs.Ytgimcpnelogadaa.Sto
open Go.RowKit Go.Proofs.Ytgimcpnelogadaa.Mem
set_option linter.unusedVariables false
set_option linter.unusedSimpArgs false

theorem total_holds {s : St} {L : List (Nat × List UInt8)} (h2 : Ok s) (h3 : s.pairs.Perm L) : totalL L = s.used := by
  rw [h2.used]
  unfold totalL
  rw [← (h3.map fun x => up x.2.length).sum_nat]
  unfold St.pairs
  rw [List.map_map]
  unfold Sto.total
  congr 1
  exact List.map_congr_left fun x hx => by simp [bytes_length h2 hx]

theorem take_holds2 {w : World} {p m : Nat} {F : List Nat} {L : List (Nat × List UInt8)} (h : Holds w p F L m) (n : Nat) (hn : n ≤ 8388608) (hl : L.length < 100000000) (hm : max m (totalL L + up n) ≤ 100000000000) :
    Calls Try.prog 22 #[.pointer (some ⟨p, 0, none⟩), .int .i64 (n : Int)] w fun e w' => ∃ (id : Nat) (F' : List Nat), e = .returned (.tuple #[.int .i64 (id : Int), .int .i64 0]) ∧ Holds w' p F' ((id, List.replicate n 0) :: L) (max m (totalL L + up n)) ∧
      (∀ j < id, j ∈ L.map Prod.fst) ∧ id ∉ L.map Prod.fst ∧ Chg F w w' ∧ ∀ k ∈ F', k ∈ F ∨ w.heap.size ≤ k := by
  obtain ⟨⟨s, ⟨rawv, allv, mb, h1, rfl⟩, h2, h3, h4⟩, h5, h6, h7⟩ := h
  have hlen : s.all.length = L.length := by rw [← pairs_length, h3.length_eq]
  have htot := total_holds h2 h3
  have hid : ∀ j, j ∈ s.all.map Ext.id ↔ j ∈ L.map Prod.fst := fun j => by rw [← pairs_ids, (h3.map Prod.fst).mem_iff]
  refine (take_ok h1 h2 (by omega) (by omega) (fun x hx => ?_) n hn).mono ?_
  · have := h5 (x.id, s.bytes x) (h3.mem_iff.1 (List.mem_map_of_mem hx))
    exact ⟨by omega, by simp at this; omega⟩
  · rintro e w' ⟨id, s', F', h8, h9, hT, hC, hF⟩
    have hle := least_le hT.least
    rw [List.length_map] at hle
    refine ⟨id, F', h8, ⟨⟨s', h9, hT.ok, hT.pairs.trans (.cons _ h3), ?_⟩, ?_, by simp; omega, hm⟩, fun j hj => (hid j).1 (hT.least j hj), fun hi => hT.fresh ((hid id).2 hi), hC, hF⟩
    · have a1 := hT.most; have a2 := hT.used; omega
    · intro q hq
      rcases List.mem_cons.1 hq with rfl | hq
      · show id ≤ _; omega
      · exact h5 q hq

/-- A store and the reference, made of the blocks G, hold the same: n extents at most. -/
structure PairX (w : World) (p q : Nat) (F : List Nat) (X : List RX) (lv : Value) (most n : Nat) : Prop where
  holds : Holds w p F (X.map RX.pair) most
  ref : RefAt w q X lv most
  apart : ∀ k ∈ F, k ∉ rfoot q lv X
  count : X.length ≤ n
  most : most ≤ 8388616 * n
def Pair (w : World) (p q : Nat) (G : List Nat) (n : Nat) : Prop := ∃ F X lv most, PairX w p q F X lv most n ∧ G = F ++ rfoot q lv X

section
variable {w w' : World} {p q most n : Nat} {F G : List Nat} {X : List RX} {lv : Value}
theorem PairX.lt (h : PairX w p q F X lv most n) : ∀ k ∈ F ++ rfoot q lv X, k < w.heap.size := fun k hk => (List.mem_append.1 hk).elim (h.holds.lt k) (h.ref.lt k)
theorem PairX.chg (h : PairX w p q F X lv most n) (hc : Chg G w w') (hG : ∀ k ∈ F ++ rfoot q lv X, k ∉ G) : PairX w' p q F X lv most n :=
  ⟨h.holds.chg hc fun k hk => hG k (List.mem_append_left _ hk), h.ref.chg hc fun k hk => hG k (List.mem_append_right _ hk), h.apart, h.count, h.most⟩
theorem Pair.lt (h : Pair w p q F n) : ∀ k ∈ F, k < w.heap.size := by
  obtain ⟨_, _, _, _, h, rfl⟩ := h
  exact h.lt
theorem Pair.chg (h : Pair w p q F n) (hc : Chg G w w') (hG : ∀ k ∈ F, k ∉ G) : Pair w' p q F n := by
  obtain ⟨_, _, _, _, h, rfl⟩ := h
  exact ⟨_, _, _, _, h.chg hc hG, rfl⟩
theorem PairX.more (h : PairX w p q F X lv most n) {m : Nat} (hm : n ≤ m) : PairX w p q F X lv most m := ⟨h.holds, h.ref, h.apart, by have := h.count; omega, by have := h.most; omega⟩
theorem Pair.more (h : Pair w p q F n) {m : Nat} (hm : n ≤ m) : Pair w p q F m := by
  obtain ⟨_, _, _, _, h, e⟩ := h
  exact ⟨_, _, _, _, h.more hm, e⟩
/-- Its extents have Ids of their own. -/
theorem RefAt.nodup (h : RefAt w q X lv most) : (X.map RX.id).Nodup := h.sorted.imp fun h => Nat.ne_of_lt h
theorem RefAt.find (h : RefAt w q X lv most) (k : Int) : (∃ i, ∃ hi : i < X.length, (X[i].id : Int) = k) ∨ ∀ x ∈ X, (x.id : Int) ≠ k := by
  by_cases c : ∃ x ∈ X, (x.id : Int) = k
  · obtain ⟨x, hx, rfl⟩ := c
    obtain ⟨i, hi, rfl⟩ := List.getElem_of_mem hx
    exact .inl ⟨i, hi, rfl⟩
  · exact .inr fun x hx e => c ⟨x, hx, e⟩
theorem pair_absent {k : Int} (hn : ∀ x ∈ X, (x.id : Int) ≠ k) : ∀ y ∈ X.map RX.pair, (y.1 : Int) ≠ k := by
  intro y hy
  obtain ⟨x, hx, rfl⟩ := List.mem_map.1 hy
  exact hn x hx
theorem ids_pairs : (X.map RX.pair).map Prod.fst = X.map RX.id := by simp [Function.comp_def, RX.pair]
/-- The least Id that is free, told by both. -/
theorem RefAt.least (h : RefAt w q X lv most) {i j : Nat} (h1 : ∀ k < i, k ∈ X.map RX.id) (h2 : i ∉ X.map RX.id) (h3 : j ≤ X.length) (h4 : ∀ k (hk : k < X.length), k < j → X[k].id = k) (h5 : ∀ hj : j < X.length, X[j].id ≠ j) : i = j := by
  have hj : j ∉ X.map RX.id := by
    intro hm
    obtain ⟨x, hx, e⟩ := List.mem_map.1 hm
    obtain ⟨k, hk, rfl⟩ := List.getElem_of_mem hx
    rcases Nat.lt_trichotomy k j with c | c | c
    · have := h4 k hk c; omega
    · subst c; exact h5 hk e
    · by_cases d : j < X.length
      · have a := h.rise c hk
        have b : j ≤ X[j].id := by
          cases j with
          | zero => exact Nat.zero_le _
          | succ m =>
            have b1 : X[m].id < X[m + 1].id := h.rise (Nat.lt_succ_self m) d
            have b2 : X[m].id = m := h4 m (by omega) (Nat.lt_succ_self m)
            omega
        have := h5 d
        omega
      · omega
  rcases Nat.lt_trichotomy i j with c | c | c
  · exact absurd (List.mem_map.2 ⟨_, List.getElem_mem (by omega : i < X.length), h4 i (by omega) c⟩) h2
  · exact c
  · exact absurd (h1 j c) hj
end
end Go.Proofs.Ytgimcpnelogadaa.Sto
