/- Chapter 6, plain: cells; what is reached from words, and how it is marked. No program in sight. -/
import Derived.Test.YtgimcpnelogadaaWdA
namespace Go.Proofs.Ytgimcpnelogadaa.Hp
open Go.Proofs.Ytgimcpnelogadaa.Wd
set_option linter.unusedVariables false

/-- What a handle is of. bytes: those of a buffer, which lie in the store under ext. -/
structure Cel where
  kind : Int
  view : Bool
  int : Int
  text : ByteArray
  bytes : List UInt8
  words : List Nat
  base : Nat
  from_ : Int
  len : Int
  ext : Nat
  need : Nat

abbrev Cells := List (Option Cel)
/-- Which cell a word leads to. -/
def Cells.at_ (cs : Cells) (w : Nat) : Option Nat := match hdl w with
  | some n => if (cs[n]?.getD none).isSome then some n else none
  | none => none
/-- The words that a cell has. -/
def Cel.refs (c : Cel) : List Nat := c.words ++ if c.view then [c.base] else []
def Cells.need (cs : Cells) (n : Nat) : Nat := match cs[n]?.getD none with | some c => c.need | none => 0
def Cells.refs (cs : Cells) (n : Nat) : List Nat := match cs[n]?.getD none with | some c => c.refs | none => []
theorem at_lt {cs : Cells} {w n : Nat} (h : cs.at_ w = some n) : n < cs.length := by
  unfold Cells.at_ at h
  split at h
  · split at h
    · rename_i h1
      cases h
      by_cases c : n < cs.length
      · exact c
      · rw [List.getElem?_eq_none (by omega)] at h1; simp at h1
    · cases h
  · cases h

/-- What is reached from words. -/
inductive Rch (cs : Cells) (R : List Nat) : Nat → Prop where
  | root {w n : Nat} (hw : w ∈ R) (h : cs.at_ w = some n) : Rch cs R n
  | next {m w n : Nat} (hm : Rch cs R m) (hw : w ∈ cs.refs m) (h : cs.at_ w = some n) : Rch cs R n

theorem Rch.mono {cs : Cells} {R S : List Nat} {n : Nat} (h : Rch cs R n) (hs : ∀ w ∈ R, w ∈ S) : Rch cs S n := by
  induction h with
  | root hw h => exact .root (hs _ hw) h
  | next _ hw h ih => exact .next ih hw h
theorem Rch.lt {cs : Cells} {R : List Nat} {n : Nat} (h : Rch cs R n) : n < cs.length := by
  cases h with
  | root _ h => exact at_lt h
  | next _ _ h => exact at_lt h

/-- The needs of what is marked. -/
def unitsOf (cs : Cells) (M : List Bool) : Nat := ((List.range cs.length).map fun n => if M.getD n false then cs.need n else 0).sum

/-- A walk's record: what is marked, the units, what is to be looked at. -/
structure Mk where
  marks : List Bool
  units : Nat
  todo : List Nat
/-- One word is marked. -/
def Mk.step (cs : Cells) (s : Mk) (w : Nat) : Mk := match cs.at_ w with
  | some n => if s.marks.getD n false then s else ⟨s.marks.set n true, s.units + cs.need n, s.todo ++ [n]⟩
  | none => s
def Mk.list (cs : Cells) (s : Mk) (l : List Nat) : Mk := l.foldl (Mk.step cs) s

/-- What holds of the record: D: the words that have been marked; E: the cells that are being looked at. -/
structure MkOk (cs : Cells) (R E D : List Nat) (s : Mk) : Prop where
  len : s.marks.length = cs.length
  only : ∀ n, s.marks.getD n false = true → Rch cs R n
  done : ∀ w ∈ D, ∀ n, cs.at_ w = some n → s.marks.getD n false = true
  next : ∀ m, s.marks.getD m false = true → m ∈ s.todo ∨ m ∈ E ∨ ∀ w ∈ cs.refs m, ∀ n, cs.at_ w = some n → s.marks.getD n false = true
  todo : ∀ n ∈ s.todo, s.marks.getD n false = true
  units : s.units = unitsOf cs s.marks

theorem getD_set (l : List Bool) (n m : Nat) (b : Bool) : (l.set n b).getD m false = if n = m ∧ n < l.length then b else l.getD m false := by
  simp only [List.getD_eq_getElem?_getD, List.getElem?_set]
  by_cases h : n = m
  · subst h
    by_cases c : n < l.length
    · simp [c]
    · simp [c]
  · simp [h]
theorem sum_bump (f : Nat → Nat) {n : Nat} (d : Nat) : ∀ k, n < k → ((List.range k).map fun i => if i = n then f i + d else f i).sum = ((List.range k).map f).sum + d
  | 0, h => by omega
  | k + 1, h => by
    rw [List.range_succ, List.map_append, List.map_append, List.sum_append, List.sum_append]
    simp only [List.map_cons, List.map_nil, List.sum_cons, List.sum_nil]
    by_cases c : k = n
    · subst c
      have : ((List.range k).map fun i => if i = k then f i + d else f i) = (List.range k).map f := List.map_congr_left fun i hi => by rw [if_neg (by have := List.mem_range.1 hi; omega)]
      rw [this, if_pos rfl]
      omega
    · rw [sum_bump f d k (by omega), if_neg c]
      omega
theorem units_set {cs : Cells} {M : List Bool} {n : Nat} (hl : M.length = cs.length) (hn : n < cs.length) (h0 : M.getD n false = false) : unitsOf cs (M.set n true) = unitsOf cs M + cs.need n := by
  unfold unitsOf
  rw [← sum_bump _ _ _ hn]
  congr 1
  refine List.map_congr_left fun i hi => ?_
  by_cases c : n = i
  · subst c
    have e : (M.set n true).getD n false = true := by rw [getD_set, if_pos ⟨rfl, by omega⟩]
    rw [e, h0]
    simp
  · have e : (M.set n true).getD i false = M.getD i false := by rw [getD_set, if_neg (by simp [c])]
    have d : ¬ i = n := fun e => c e.symm
    simp only [e, if_neg d]
theorem Mk.step_marks {cs : Cells} {s : Mk} (w m : Nat) (h : s.marks.getD m false = true) : (s.step cs w).marks.getD m false = true := by
  unfold Mk.step
  split
  · split
    · exact h
    · show (s.marks.set _ true).getD m false = true
      rw [getD_set]
      split <;> simp_all
  · exact h
theorem MkOk.step {cs : Cells} {R E D : List Nat} {s : Mk} (h : MkOk cs R E D s) {w : Nat} (hw : ∀ n, cs.at_ w = some n → Rch cs R n) : MkOk cs R E (D ++ [w]) (s.step cs w) := by
  have keep : ∀ m, s.marks.getD m false = true → (s.step cs w).marks.getD m false = true := fun m hm => Mk.step_marks w m hm
  have key : ∀ n, cs.at_ w = some n → (s.step cs w).marks.getD n false = true := fun n hn => by
    unfold Mk.step
    rw [hn]
    simp only
    split
    · assumption
    · show (s.marks.set n true).getD n false = true
      rw [getD_set, if_pos ⟨rfl, by rw [h.len]; exact at_lt hn⟩]
  have done : ∀ v ∈ D ++ [w], ∀ n, cs.at_ v = some n → (s.step cs w).marks.getD n false = true := fun v hv n hn => by
    rcases List.mem_append.1 hv with hv | hv
    · exact keep n (h.done v hv n hn)
    · simp at hv; subst hv; exact key n hn
  cases e : cs.at_ w with
  | none =>
    have : s.step cs w = s := by unfold Mk.step; rw [e]
    rw [this] at done ⊢
    exact ⟨h.len, h.only, done, h.next, h.todo, h.units⟩
  | some n =>
    by_cases c : s.marks.getD n false = true
    · have : s.step cs w = s := by unfold Mk.step; rw [e]; simp only; rw [if_pos c]
      rw [this] at done ⊢
      exact ⟨h.len, h.only, done, h.next, h.todo, h.units⟩
    · have hs : s.step cs w = ⟨s.marks.set n true, s.units + cs.need n, s.todo ++ [n]⟩ := by unfold Mk.step; rw [e]; simp only; rw [if_neg c]
      rw [hs] at done keep ⊢
      have hlt := at_lt e
      have hn : (s.marks.set n true).getD n false = true := by rw [getD_set, if_pos ⟨rfl, by rw [h.len]; exact hlt⟩]
      refine ⟨by simp [h.len], fun m hm => ?_, done, fun m hm => ?_, fun m hm => ?_, ?_⟩
      · simp only at hm
        rw [getD_set] at hm
        split at hm
        · rename_i hc; exact hc.1 ▸ hw n e
        · exact h.only m hm
      · simp only at hm
        by_cases d : n = m
        · left; simp [d]
        · rw [getD_set, if_neg (by simp [d])] at hm
          rcases h.next m hm with h1 | h1 | h1
          · left; simp [h1]
          · exact .inr (.inl h1)
          · right; right; intro v hv k hk; exact keep k (h1 v hv k hk)
      · rcases List.mem_append.1 hm with hm | hm
        · exact keep m (h.todo m hm)
        · simp at hm; subst hm; exact hn
      · show s.units + cs.need n = unitsOf cs (s.marks.set n true)
        rw [units_set h.len hlt (by simpa using c), h.units]
theorem MkOk.list {cs : Cells} {R E : List Nat} : ∀ (l D : List Nat) (s : Mk), MkOk cs R E D s → (∀ w ∈ l, ∀ n, cs.at_ w = some n → Rch cs R n) → MkOk cs R E (D ++ l) (s.list cs l)
  | [], D, s, h, _ => by simpa [Mk.list] using h
  | w :: l, D, s, h, hw => by
    have := MkOk.list l (D ++ [w]) (s.step cs w) (h.step (hw w (List.mem_cons_self ..))) (fun v hv => hw v (List.mem_cons_of_mem _ hv))
    simpa [Mk.list] using this
theorem MkOk.start (cs : Cells) (R : List Nat) : MkOk cs R [] [] ⟨List.replicate cs.length false, 0, []⟩ := by
  have h0 : ∀ n, (List.replicate cs.length false).getD n false = false := fun n => by
    rw [List.getD_eq_getElem?_getD, List.getElem?_replicate]; split <;> rfl
  refine ⟨by simp, fun n hn => ?_, by simp, fun n hn => ?_, by simp, ?_⟩
  · simp only at hn; rw [h0] at hn; cases hn
  · simp only at hn; rw [h0] at hn; cases hn
  · show 0 = unitsOf cs _
    unfold unitsOf
    have : ((List.range cs.length).map fun n => if (List.replicate cs.length false).getD n false then cs.need n else 0) = (List.range cs.length).map fun _ => 0 := List.map_congr_left fun i _ => by rw [h0]; rfl
    rw [this]
    induction List.range cs.length with
    | nil => rfl
    | cons a l ih => simpa using ih
/-- The last of what is to be looked at is taken. -/
theorem MkOk.pop {cs : Cells} {R E D t : List Nat} {m U : Nat} {M : List Bool} (h : MkOk cs R E D ⟨M, U, t ++ [m]⟩) : MkOk cs R (m :: E) D ⟨M, U, t⟩ ∧ Rch cs R m :=
  ⟨⟨h.len, h.only, h.done, fun k hk => by
    rcases h.next k hk with h1 | h1 | h1
    · rcases List.mem_append.1 h1 with h1 | h1
      · exact .inl h1
      · simp at h1; exact .inr (.inl (by simp [h1]))
    · exact .inr (.inl (List.mem_cons_of_mem _ h1))
    · exact .inr (.inr h1), fun k hk => h.todo k (List.mem_append_left _ hk), h.units⟩, h.only m (h.todo m (by simp))⟩
/-- It has been looked at. -/
theorem MkOk.settle {cs : Cells} {R E D : List Nat} {m : Nat} {s : Mk} (h : MkOk cs R (m :: E) D s) (hm : ∀ w ∈ cs.refs m, w ∈ D) : MkOk cs R E D s :=
  ⟨h.len, h.only, h.done, fun k hk => by
    rcases h.next k hk with h1 | h1 | h1
    · exact .inl h1
    · rcases List.mem_cons.1 h1 with rfl | h1
      · exact .inr (.inr fun w hw n hn => h.done w (hm w hw) n hn)
      · exact .inr (.inl h1)
    · exact .inr (.inr h1), h.todo, h.units⟩
/-- At the end the marked are those that are reached. -/
theorem MkOk.ends {cs : Cells} {R D : List Nat} {M : List Bool} {U : Nat} (h : MkOk cs R [] D ⟨M, U, []⟩) (hR : ∀ w ∈ R, w ∈ D) : ∀ n, M.getD n false = true ↔ Rch cs R n := by
  refine fun n => ⟨h.only n, fun hn => ?_⟩
  induction hn with
  | root hw e => exact h.done _ (hR _ hw) _ e
  | next _ hw e ih =>
    rcases h.next _ ih with h1 | h1 | h1
    · cases h1
    · cases h1
    · exact h1 _ hw _ e
/-- How much there is to do. -/
def Mk.left (s : Mk) : Nat := 2 * (s.marks.filter fun b => !b).length + s.todo.length
theorem filter_set : ∀ (M : List Bool) (n : Nat), n < M.length → M.getD n false = false → ((M.set n true).filter fun b => !b).length + 1 = (M.filter fun b => !b).length
  | [], _, h, _ => by simp at h
  | b :: M, 0, _, h => by
    simp only [List.getD_cons_zero] at h
    subst h
    simp
  | b :: M, n + 1, hl, h => by
    have ih := filter_set M n (by simpa using hl) (by simpa using h)
    cases b <;> simp <;> omega
theorem Mk.step_left {cs : Cells} {s : Mk} (w : Nat) (hl : s.marks.length = cs.length) : (s.step cs w).left ≤ s.left := by
  unfold Mk.step
  split
  · rename_i n e
    split
    · exact Nat.le_refl _
    · rename_i c
      have := filter_set s.marks n (by have := at_lt e; omega) (by simpa using c)
      simp only [Mk.left, List.length_append, List.length_cons, List.length_nil]
      omega
  · exact Nat.le_refl _
end Go.Proofs.Ytgimcpnelogadaa.Hp
