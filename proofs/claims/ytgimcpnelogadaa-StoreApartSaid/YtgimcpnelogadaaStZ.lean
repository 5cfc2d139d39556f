/- Chapter 5, plain: what StoreFills' store holds behind its first loop's rounds. -/
import Derived.Test.YtgimcpnelogadaaStY
namespace Go.Proofs.Ytgimcpnelogadaa.Sto
open Go.RowKit Go.Proofs.Ytgimcpnelogadaa.Mem
set_option linter.unusedVariables false
set_option linter.unusedSimpArgs false

/-- Behind i rounds: the Ids below i, each with its size's bytes, all of them j + 1. -/
def fillL (zs : List Int) : Nat → List (Nat × List UInt8)
  | 0 => []
  | i + 1 => (i, List.replicate (zs.getD i 0).toNat (UInt8.ofNat (i + 1))) :: fillL zs i
theorem fillL_length (zs : List Int) : ∀ i, (fillL zs i).length = i
  | 0 => rfl
  | i + 1 => by simp [fillL, fillL_length zs i]
theorem fillL_ids (zs : List Int) {j : Nat} : ∀ i, j ∈ (fillL zs i).map Prod.fst ↔ j < i
  | 0 => by simp [fillL]
  | i + 1 => by
    simp only [fillL, List.map_cons, List.mem_cons, fillL_ids zs i]
    omega
/-- The least Id that is free. -/
theorem fill_id {zs : List Int} {i id : Nat} (h1 : ∀ j < id, j ∈ (fillL zs i).map Prod.fst) (h2 : id ∉ (fillL zs i).map Prod.fst) : id = i := by
  rw [fillL_ids] at h2
  by_cases c : i < id
  · have := (fillL_ids zs i).1 (h1 i c)
    omega
  · omega
/-- Half filled: the first k of n are x. -/
def halfL (n k : Nat) (x : UInt8) : List UInt8 := List.replicate k x ++ List.replicate (n - k) 0
theorem halfL_zero (n : Nat) (x : UInt8) : halfL n 0 x = List.replicate n 0 := by simp [halfL]
theorem halfL_all (n : Nat) (x : UInt8) : halfL n n x = List.replicate n x := by simp [halfL]
theorem halfL_length {n k : Nat} (h : k ≤ n) (x : UInt8) : (halfL n k x).length = n := by simp [halfL]; omega
theorem halfL_get {n k : Nat} (h : k < n) (x : UInt8) : leN (sl (halfL n k x) k 1) = 0 := by
  have e : sl (halfL n k x) k 1 = [0] := by
    unfold sl halfL
    rw [List.drop_append_of_le_length (by simp)]
    simp only [List.drop_replicate, Nat.sub_self, List.replicate_zero, List.nil_append]
    rw [show n - k = (n - k - 1) + 1 by omega, List.replicate_succ]
    rfl
  rw [e]; rfl
theorem halfL_set {n k : Nat} (h : k < n) (x : UInt8) : splice (halfL n k x) k [x] = halfL n (k + 1) x := by
  unfold halfL
  rw [show n - k = (n - (k + 1)) + 1 by omega, List.replicate_succ]
  have := splice_mid (List.replicate k x) [0] (List.replicate (n - (k + 1)) 0) [x] rfl
  rw [List.length_replicate] at this
  rw [show (0 : UInt8) :: List.replicate (n - (k + 1)) 0 = [0] ++ List.replicate (n - (k + 1)) 0 from rfl, this, List.replicate_succ']
  simp
/-- What lives: the Ids below i whose size in ns is no negative number. -/
def liveL (ns : List Int) : Nat → List (Nat × List UInt8)
  | 0 => []
  | i + 1 => if ns.getD i 0 < 0 then liveL ns i else (i, List.replicate (ns.getD i 0).toNat (UInt8.ofNat (i + 1))) :: liveL ns i
theorem liveL_fill {zs ns : List Int} : ∀ {i : Nat}, (∀ j < i, ns.getD j 0 = zs.getD j 0) → (∀ j < i, 0 ≤ zs.getD j 0) → liveL ns i = fillL zs i
  | 0, _, _ => rfl
  | i + 1, h1, h2 => by
    have a := h1 i (Nat.lt_succ_self i)
    have b := h2 i (Nat.lt_succ_self i)
    rw [liveL, if_neg (by omega), fillL, a, liveL_fill (fun j hj => h1 j (by omega)) (fun j hj => h2 j (by omega))]
theorem liveL_mem {ns : List Int} {q : Nat × List UInt8} : ∀ {i : Nat}, q ∈ liveL ns i ↔ q.1 < i ∧ 0 ≤ ns.getD q.1 0 ∧ q.2 = List.replicate (ns.getD q.1 0).toNat (UInt8.ofNat (q.1 + 1))
  | 0 => by simp [liveL]
  | i + 1 => by
    unfold liveL
    have ih := @liveL_mem ns q i
    split
    · rename_i h
      rw [ih]
      constructor
      · rintro ⟨a, b, c⟩; exact ⟨by omega, b, c⟩
      · rintro ⟨a, b, c⟩
        refine ⟨?_, b, c⟩
        by_cases e : q.1 = i
        · rw [e] at b; omega
        · omega
    · rename_i h
      rw [List.mem_cons, ih]
      constructor
      · rintro (rfl | ⟨a, b, c⟩)
        · exact ⟨Nat.lt_succ_self _, by simp only; omega, rfl⟩
        · exact ⟨by omega, b, c⟩
      · rintro ⟨a, b, c⟩
        by_cases e : q.1 = i
        · left
          rw [e] at c
          exact Prod.ext e c
        · exact .inr ⟨by omega, b, c⟩
theorem liveL_congr {ns ms : List Int} : ∀ {i : Nat}, (∀ j < i, ns.getD j 0 = ms.getD j 0) → liveL ns i = liveL ms i
  | 0, _ => rfl
  | i + 1, h => by rw [liveL, liveL, h i (Nat.lt_succ_self i), liveL_congr (fun j hj => h j (by omega))]
theorem getD_set (ns : List Int) (k j : Nat) (v : Int) (hk : k < ns.length) : (ns.set k v).getD j 0 = if k = j then v else ns.getD j 0 := by
  rw [List.getD_eq_getElem?_getD, List.getD_eq_getElem?_getD, List.getElem?_set]
  split
  · rename_i e; subst e; simp [hk]
  · rfl
/-- One that lives is given back. -/
theorem liveL_give {ns : List Int} {k : Nat} (hl : 0 ≤ ns.getD k 0) (hk : k < ns.length) : ∀ {i : Nat}, k < i → (liveL ns i).Perm ((k, List.replicate (ns.getD k 0).toNat (UInt8.ofNat (k + 1))) :: liveL (ns.set k (-1)) i)
  | 0, h => by omega
  | i + 1, h => by
    by_cases e : k = i
    · subst e
      rw [liveL, if_neg (by omega), liveL, getD_set _ _ _ _ hk, if_pos rfl, if_pos (by decide), liveL_congr (ms := ns.set k (-1)) (fun j hj => by rw [getD_set _ _ _ _ hk, if_neg (by omega)])]
    · have ih := liveL_give hl hk (i := i) (by omega)
      rw [liveL, liveL, getD_set _ _ _ _ hk, if_neg e]
      split
      · exact ih
      · exact (List.Perm.cons _ ih).trans (List.Perm.swap _ _ _)
end Go.Proofs.Ytgimcpnelogadaa.Sto
