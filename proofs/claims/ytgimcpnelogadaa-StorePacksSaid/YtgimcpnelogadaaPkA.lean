/- Chapter 5, plain: what StorePacks' store holds: Ids with their sizes; the last byte of each is told by its Id. -/
import Derived.Test.YtgimcpnelogadaaStY
import Derived.Test.YtgimcpnelogadaaStX
namespace Go.Proofs.Ytgimcpnelogadaa.Sto
open Go.RowKit Go.Proofs.Ytgimcpnelogadaa.Mem
set_option linter.unusedVariables false
set_option linter.unusedSimpArgs false

/-- The bytes of an Id of n bytes. -/
def packB (id n : Nat) : List UInt8 := if n = 0 then [] else List.replicate (n - 1) 0 ++ [UInt8.ofNat (id + 7)]
def packL (q : List (Nat × Nat)) : List (Nat × List UInt8) := q.map fun x => (x.1, packB x.1 x.2)
theorem packB_length (id n : Nat) : (packB id n).length = n := by
  unfold packB
  split
  · simp; omega
  · simp; omega
theorem packB_set {id n : Nat} (h : 0 < n) : splice (List.replicate n (0 : UInt8)) (n - 1) (leB (id + 7) 1) = packB id n := by
  have hle : leB (id + 7) 1 = [UInt8.ofNat (id + 7)] := by simp [leB]
  rw [hle, packB, if_neg (by omega)]
  have := splice_mid (List.replicate (n - 1) (0 : UInt8)) [0] [] [UInt8.ofNat (id + 7)] rfl
  rw [List.length_replicate, List.append_nil, List.append_nil] at this
  rw [← this, show n = (n - 1) + 1 by omega, List.replicate_succ']
  simp
theorem packB_get {id n : Nat} (h : 0 < n) (hi : id ≤ 1000) : leN (sl (packB id n) (n - 1) 1) = (id + 7) % 256 := by
  have e : sl (packB id n) (n - 1) 1 = [UInt8.ofNat (id + 7)] := by
    unfold sl packB
    rw [if_neg (by omega), List.drop_append_of_le_length (by simp)]
    simp
  rw [e]
  simp [leN]
theorem packL_length (q : List (Nat × Nat)) : (packL q).length = q.length := by simp [packL]
theorem packL_ids (q : List (Nat × Nat)) : (packL q).map Prod.fst = q.map Prod.fst := by simp [packL, Function.comp_def]
theorem packL_mem {q : List (Nat × Nat)} {id n : Nat} (h : (id, n) ∈ q) : (id, packB id n) ∈ packL q := List.mem_map.2 ⟨_, h, rfl⟩

theorem Holds.more {w : World} {p m m' : Nat} {F : List Nat} {L : List (Nat × List UInt8)} (h : Holds w p F L m) (hm : m ≤ m') (h' : m' ≤ 100000000000) : Holds w p F L m' := by
  obtain ⟨⟨s, h1, h2, h3, h4⟩, h5, h6, h7⟩ := h
  exact ⟨⟨s, h1, h2, h3, Nat.le_trans h4 hm⟩, h5, h6, h'⟩
theorem wrap_u64' {n : Nat} (h : n < 1000000) : IntKind.u64.wrap (n : Int) = (n : Int) := by
  rw [IntKind.wrap_u64]; omega
/-- The map tells the list. -/
def Tells (f : Int → Option Int) (q : List (Nat × Nat)) : Prop := ∀ k v, f k = some v ↔ ∃ id n : Nat, k = id ∧ v = n ∧ (id, n) ∈ q
theorem Tells.nil : Tells (fun _ => none) [] := fun k v => by simp
theorem Tells.add {f : Int → Option Int} {q : List (Nat × Nat)} (h : Tells f q) {id n : Nat} (hn : id ∉ q.map Prod.fst) : Tells (fun x => if x = (id : Int) then some (n : Int) else f x) ((id, n) :: q) := fun k v => by
  by_cases e : k = (id : Int)
  · subst e
    simp only [if_true]
    constructor
    · intro h'; cases h'; exact ⟨id, n, rfl, rfl, List.mem_cons_self ..⟩
    · rintro ⟨i, m, h1, h2, h3⟩
      obtain rfl : id = i := by omega
      rcases List.mem_cons.1 h3 with h3 | h3
      · cases h3; rw [h2]
      · exact absurd (List.mem_map_of_mem (f := Prod.fst) h3) hn
  · simp only [if_neg e]
    rw [h k v]
    constructor
    · rintro ⟨i, m, h1, h2, h3⟩; exact ⟨i, m, h1, h2, List.mem_cons_of_mem _ h3⟩
    · rintro ⟨i, m, h1, h2, h3⟩
      rcases List.mem_cons.1 h3 with h3 | h3
      · cases h3; exact absurd h1 e
      · exact ⟨i, m, h1, h2, h3⟩
theorem Tells.del {f : Int → Option Int} {q : List (Nat × Nat)} {id n : Nat} (h : Tells f ((id, n) :: q)) (hn : id ∉ q.map Prod.fst) : Tells (fun x => if x = (id : Int) then none else f x) q := fun k v => by
  by_cases e : k = (id : Int)
  · subst e
    simp only [if_true]
    constructor
    · intro h'; cases h'
    · rintro ⟨i, m, h1, h2, h3⟩
      obtain rfl : id = i := by omega
      exact absurd (List.mem_map_of_mem (f := Prod.fst) h3) hn
  · simp only [if_neg e]
    rw [h k v]
    constructor
    · rintro ⟨i, m, h1, h2, h3⟩
      rcases List.mem_cons.1 h3 with h3 | h3
      · cases h3; exact absurd h1 e
      · exact ⟨i, m, h1, h2, h3⟩
    · rintro ⟨i, m, h1, h2, h3⟩; exact ⟨i, m, h1, h2, List.mem_cons_of_mem _ h3⟩
theorem Tells.perm {f : Int → Option Int} {q r : List (Nat × Nat)} (h : Tells f q) (hp : q.Perm r) : Tells f r := fun k v => by
  rw [h k v]
  simp only [hp.mem_iff]
theorem Tells.some {f : Int → Option Int} {q : List (Nat × Nat)} (h : Tells f q) (k : Int) : (f k).isSome ↔ k ∈ q.map fun x => (x.1 : Int) := by
  rw [Option.isSome_iff_exists]
  constructor
  · rintro ⟨v, hv⟩
    obtain ⟨i, m, rfl, _, h3⟩ := (h k v).1 hv
    exact List.mem_map.2 ⟨_, h3, rfl⟩
  · intro hm
    obtain ⟨⟨i, m⟩, h3, rfl⟩ := List.mem_map.1 hm
    exact ⟨m, (h _ _).2 ⟨i, m, rfl, rfl, h3⟩⟩

/-- What is done: the sizes of those that are no longer to come. -/
def doneL (left : Int → Bool) (q : List (Nat × Nat)) : Nat := (q.map fun x => if left (x.1 : Int) then 0 else up x.2).sum
theorem doneL_none {left : Int → Bool} {q : List (Nat × Nat)} (h : ∀ x ∈ q, left (x.1 : Int) = true) : doneL left q = 0 := by
  unfold doneL
  induction q with
  | nil => rfl
  | cons x q ih => simp [h x (List.mem_cons_self ..), ih fun y hy => h y (List.mem_cons_of_mem _ hy)]
theorem doneL_all {left : Int → Bool} {q : List (Nat × Nat)} (h : ∀ x ∈ q, left (x.1 : Int) = false) : doneL left q = totalL (packL q) := by
  unfold doneL totalL packL
  rw [List.map_map]
  congr 1
  exact List.map_congr_left fun x hx => by simp [h x hx, packB_length]
theorem doneL_congr {l l' : Int → Bool} {q : List (Nat × Nat)} (h : ∀ x ∈ q, l (x.1 : Int) = l' (x.1 : Int)) : doneL l q = doneL l' q := by
  unfold doneL
  congr 1
  exact List.map_congr_left fun x hx => by rw [h x hx]
theorem doneL_step {left : Int → Bool} {id n : Nat} : ∀ {q : List (Nat × Nat)}, (q.map Prod.fst).Nodup → (id, n) ∈ q → left (id : Int) = true → doneL (fun y => left y && !decide (y = (id : Int))) q = doneL left q + up n
  | [], _, h, _ => by cases h
  | x :: q, hn, h, hl => by
    have hn' := List.nodup_cons.1 hn
    have e1 : ∀ l : Int → Bool, doneL l (x :: q) = (if l (x.1 : Int) then 0 else up x.2) + doneL l q := fun l => by simp [doneL]
    rw [e1, e1]
    rcases List.mem_cons.1 h with h | h
    · subst h
      have : doneL (fun y => left y && !decide (y = ((id, n).1 : Int))) q = doneL left q := doneL_congr fun x hx => by
        have : x.1 ≠ id := fun e => hn'.1 (List.mem_map.2 ⟨x, hx, e⟩)
        simp; omega
      skip
      simp [this, hl]; omega
    · have ih := doneL_step (left := left) hn'.2 h hl
      have hne : x.1 ≠ id := fun e => hn'.1 (by rw [e]; exact List.mem_map.2 ⟨_, h, rfl⟩)
      rw [ih]
      have : ¬ ((x.1 : Int) = (id : Int)) := by omega
      simp [this]; omega
theorem doneL_le (left : Int → Bool) (q : List (Nat × Nat)) (h : ∀ x ∈ q, x.2 ≤ 200) : doneL left q ≤ 207 * q.length := by
  induction q with
  | nil => simp [doneL]
  | cons x q ih =>
    have e1 : doneL left (x :: q) = (if left (x.1 : Int) then 0 else up x.2) + doneL left q := by simp [doneL]
    have := ih fun y hy => h y (List.mem_cons_of_mem _ hy)
    have h2 := up_le x.2
    have h3 := h x (List.mem_cons_self ..)
    rw [e1, List.length_cons]
    split <;> omega
end Go.Proofs.Ytgimcpnelogadaa.Sto
