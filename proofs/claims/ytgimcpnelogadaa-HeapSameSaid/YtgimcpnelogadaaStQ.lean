/- Chapter 5, plain: the bytes of extents: what a packing keeps; the state of a store, and what it means. No program in sight. -/
import Derived.Test.YtgimcpnelogadaaStP
import Derived.Laws.CopyOwn
namespace Go.Proofs.Ytgimcpnelogadaa.Sto
open Go (splice)

/-- n bytes from a on. -/
def sl {α : Type} (r : List α) (a n : Nat) : List α := (r.drop a).take n

section
variable {α : Type}
theorem sl_length {r : List α} {a n : Nat} (h : a + n ≤ r.length) : (sl r a n).length = n := by
  unfold sl; rw [List.length_take, List.length_drop]; omega
theorem sl_zero (r : List α) (a : Nat) : sl r a 0 = [] := by simp [sl]
theorem sl_getElem? (r : List α) (a n i : Nat) (h : i < n) : (sl r a n)[i]? = r[a + i]? := by
  unfold sl; rw [List.getElem?_take, if_pos h, List.getElem?_drop]
theorem sl_ext {r s : List α} {a b n : Nat} (h : ∀ i, i < n → r[a + i]? = s[b + i]?) : sl r a n = sl s b n := by
  apply List.ext_getElem?
  intro i
  by_cases hi : i < n
  · rw [sl_getElem? _ _ _ _ hi, sl_getElem? _ _ _ _ hi]; exact h i hi
  · rw [List.getElem?_eq_none, List.getElem?_eq_none]
    · simp [sl]; omega
    · simp [sl]; omega
theorem splice_getElem? (r : List α) (e : Nat) (b : List α) (h : e + b.length ≤ r.length) (i : Nat) : (splice r e b)[i]? = if i < e then r[i]? else if i < e + b.length then b[i - e]? else r[i]? := by
  unfold splice
  rw [List.getElem?_append, List.length_take, Nat.min_eq_left (by omega)]
  split
  · rw [List.getElem?_take, if_pos (by assumption)]
  · rw [List.getElem?_append]
    split
    · rw [if_pos (by omega)]
    · rw [if_neg (by omega), List.getElem?_drop]
      congr 1; omega
theorem sl_splice_far {r : List α} {e : Nat} {b : List α} {a n : Nat} (h : e + b.length ≤ r.length) (hf : a + n ≤ e ∨ e + b.length ≤ a) : sl (splice r e b) a n = sl r a n := by
  refine sl_ext fun i hi => ?_
  rw [splice_getElem? _ _ _ h]
  rcases hf with c | c
  · rw [if_pos (by omega)]
  · rw [if_neg (by omega), if_neg (by omega)]
theorem sl_splice_same {r : List α} {e : Nat} {b : List α} (h : e + b.length ≤ r.length) : sl (splice r e b) e b.length = b := by
  apply List.ext_getElem?
  intro i
  by_cases hi : i < b.length
  · rw [sl_getElem? _ _ _ _ hi, splice_getElem? _ _ _ h, if_neg (by omega), if_pos (by omega)]
    congr 1; omega
  · rw [List.getElem?_eq_none, List.getElem?_eq_none]
    · omega
    · rw [sl_length (by rw [length_splice _ _ _ h]; omega)]; omega
theorem sl_take {r : List α} {a n m : Nat} (h : a + n ≤ m) : sl (r.take m) a n = sl r a n := by
  refine sl_ext fun i hi => ?_
  rw [List.getElem?_take, if_pos (by omega)]
theorem sl_append {r s : List α} {a n : Nat} (h : a + n ≤ r.length) : sl (r ++ s) a n = sl r a n := by
  refine sl_ext fun i hi => ?_
  rw [List.getElem?_append_left (by omega)]
theorem sl_set_far {r : List α} {a n i : Nat} {v : α} (h : i < a ∨ a + n ≤ i) : sl (r.set i v) a n = sl r a n := by
  refine sl_ext fun j hj => ?_
  rw [List.getElem?_set_ne (by omega)]
theorem sl_set_in {r : List α} {a n i : Nat} {v : α} (h : i < n) : sl (r.set (a + i) v) a n = (sl r a n).set i v := by
  apply List.ext_getElem?
  intro j
  by_cases hj : j < n
  · rw [sl_getElem? _ _ _ _ hj, List.getElem?_set, List.getElem?_set, sl_getElem? _ _ _ _ hj]
    by_cases e : i = j
    · subst e
      simp only [if_true]
      by_cases hl : a + i < r.length
      · rw [if_pos hl, if_pos (by simp [sl]; omega)]
      · rw [if_neg hl, if_neg (by simp [sl]; omega)]
    · rw [if_neg (by omega), if_neg e]
  · rw [List.getElem?_eq_none, List.getElem?_eq_none]
    · simp [sl]; omega
    · simp [sl]; omega
end

/-- The state of a store. -/
structure St where
  raw : List UInt8
  all : List Ext
  used : Nat
  most : Nat

/-- Where an Id is. -/
def atOf (l : List Ext) (k : Int) : Option Int := (l.find? fun x => decide ((x.id : Int) = k)).map fun x => (x.at_ : Int)

structure Ok (s : St) : Prop where
  lay : Lay s.all s.raw.length
  used : s.used = total s.all
  most : s.used ≤ s.most
  span : s.raw.length ≤ 2 * s.most + 64

theorem atOf_some {l : List Ext} (hn : (l.map Ext.id).Nodup) {x : Ext} (hx : x ∈ l) : atOf l x.id = some (x.at_ : Int) := by
  unfold atOf
  induction l with
  | nil => cases hx
  | cons y ys ih =>
    rw [List.find?_cons]
    simp only [List.map_cons, List.nodup_cons] at hn
    rcases List.mem_cons.1 hx with rfl | hx
    · simp
    · have hne : ¬ ((y.id : Int) = (x.id : Int)) := fun e => hn.1 (by rw [show y.id = x.id by omega]; exact List.mem_map_of_mem hx)
      simp only [hne, decide_false]
      exact ih hn.2 hx
theorem atOf_none {l : List Ext} {k : Int} (h : ∀ x ∈ l, (x.id : Int) ≠ k) : atOf l k = none := by
  unfold atOf
  rw [List.find?_eq_none.2 (fun x hx => by simpa using h x hx)]
  rfl
theorem atOf_isSome {l : List Ext} {k : Int} (h : (atOf l k).isSome) : ∃ x ∈ l, (x.id : Int) = k := by
  unfold atOf at h
  rw [Option.isSome_map, List.find?_isSome] at h
  obtain ⟨x, hx, hk⟩ := h
  exact ⟨x, hx, by simpa using hk⟩
theorem atOf_perm {l m : List Ext} (hn : (l.map Ext.id).Nodup) (h : l.Perm m) (k : Int) : atOf m k = atOf l k := by
  have hm : (m.map Ext.id).Nodup := ((h.map Ext.id).nodup_iff).1 hn
  by_cases c : ∃ x ∈ l, (x.id : Int) = k
  · obtain ⟨x, hx, rfl⟩ := c
    rw [atOf_some hn hx, atOf_some hm (h.mem_iff.1 hx)]
  · rw [atOf_none (fun x hx e => c ⟨x, hx, e⟩), atOf_none (fun x hx e => c ⟨x, h.mem_iff.2 hx, e⟩)]

/-- The bytes of an extent. -/
def St.bytes (s : St) (x : Ext) : List UInt8 := sl s.raw x.at_ x.len

/-- What the store means: Ids, rising, each with its bytes. -/
def Means (s : St) (L : List (Nat × List UInt8)) : Prop :=
  L.Pairwise (fun a b => a.1 < b.1) ∧ (s.all.map fun x => (x.id, s.bytes x)).Perm L

def totalL (L : List (Nat × List UInt8)) : Nat := (L.map fun x => up x.2.length).sum

theorem bytes_length {s : St} (h : Ok s) {x : Ext} (hx : x ∈ s.all) : (s.bytes x).length = x.len :=
  sl_length (by have := h.lay.inside x hx; have := up_ge x.len; omega)
theorem Means.total {s : St} {L : List (Nat × List UInt8)} (h : Ok s) (hm : Means s L) : totalL L = s.used := by
  rw [h.used]
  unfold totalL
  rw [← (hm.2.map fun x => up x.2.length).sum_nat, List.map_map]
  unfold Sto.total
  congr 1
  exact List.map_congr_left fun x hx => by simp [bytes_length h hx]

/-! ### A packing. -/
/-- What holds behind k rounds: the first k are packed, the others lie where they lay, and all that have bytes have theirs. -/
structure Packing (l : List Ext) (raw0 : List UInt8) (k : Nat) (raw : List UInt8) : Prop where
  length : raw.length = raw0.length
  done : ∀ j (hj : j < l.length), j < k → sl raw (total (l.take j)) l[j].len = sl raw0 l[j].at_ l[j].len
  rest : ∀ j (hj : j < l.length), k ≤ j → sl raw l[j].at_ l[j].len = sl raw0 l[j].at_ l[j].len

theorem Packing.start (l : List Ext) (raw : List UInt8) : Packing l raw 0 raw := ⟨rfl, fun _ _ h => by omega, fun _ _ _ => rfl⟩

theorem Lay.ahead_at {l : List Ext} {span : Nat} (h : Lay l span) {j : Nat} (hj : j < l.length) (hx : 0 < l[j].len) : total (l.take j) ≤ l[j].at_ := by
  have h' := h
  rw [← List.take_append_drop j l, List.drop_eq_getElem_cons hj] at h'
  exact h'.ahead hx

theorem total_take_succ (l : List Ext) {j : Nat} (hj : j < l.length) : total (l.take (j + 1)) = total (l.take j) + up l[j].len := by
  rw [List.take_succ_eq_append_getElem hj, total_append]; simp
theorem total_take_le (l : List Ext) {i j : Nat} (h : i ≤ j) : total (l.take i) ≤ total (l.take j) := by
  have : (l.take i) = (l.take j).take i := by rw [List.take_take, Nat.min_eq_left h]
  rw [this]
  have := congrArg total (List.take_append_drop i (l.take j))
  rw [total_append] at this
  omega
theorem Lay.total_take {l : List Ext} {span : Nat} (h : Lay l span) (j : Nat) : total (l.take j) ≤ span := by
  have h1 := h.total_le
  have h2 := congrArg total (List.take_append_drop j l)
  rw [total_append] at h2
  omega

theorem Packing.step {l : List Ext} {raw0 raw : List UInt8} {k : Nat} (hl : Lay l raw0.length) (h : Packing l raw0 k raw) (hk : k < l.length) :
    Packing l raw0 (k + 1) (splice raw (total (l.take k)) (sl raw l[k].at_ l[k].len)) := by
  have hin := hl.inside l[k] (List.getElem_mem hk)
  have hup := up_ge l[k].len
  have hlen : (sl raw l[k].at_ l[k].len).length = l[k].len := sl_length (by rw [h.length]; omega)
  have hfit : total (l.take k) + (sl raw l[k].at_ l[k].len).length ≤ raw.length := by
    rw [hlen, h.length]
    have := hl.total_take (k + 1)
    rw [total_take_succ l hk] at this
    omega
  refine ⟨by rw [length_splice _ _ _ hfit, h.length], fun j hj hjk => ?_, fun j hj hjk => ?_⟩
  · by_cases e : j = k
    · subst e
      have := sl_splice_same hfit
      rw [hlen] at this
      rw [this]
      exact h.rest j hj (Nat.le_refl _)
    · rw [sl_splice_far hfit (.inl ?_)]
      · exact h.done j hj (by omega)
      · have := total_take_le l (show j + 1 ≤ k by omega)
        rw [total_take_succ l hj] at this
        have := up_ge l[j].len
        omega
  · by_cases h0 : 0 < l[j].len
    · rw [sl_splice_far hfit (.inr ?_)]
      · exact h.rest j hj (by omega)
      · rw [hlen]
        have := hl.ahead_at hj h0
        have := total_take_le l (show k + 1 ≤ j by omega)
        rw [total_take_succ l hk] at this
        omega
    · have h0' : l[j].len = 0 := by omega
      rw [h0', sl_zero, sl_zero]

/-- How the list stands behind k rounds. -/
theorem packGo_take_set (l : List Ext) {k : Nat} (hk : k < l.length) :
    (packGo 0 (l.take k) ++ l.drop k).set k { l[k] with at_ := total (l.take k) } = packGo 0 (l.take (k + 1)) ++ l.drop (k + 1) := by
  have hlen : (packGo 0 (l.take k)).length = k := by rw [packGo_length, List.length_take]; omega
  rw [List.take_succ_eq_append_getElem hk, packGo_append, List.drop_eq_getElem_cons hk, List.set_append_right _ _ (by omega), hlen, Nat.sub_self, List.set_cons_zero]
  simp [packGo]
theorem packGo_getElem? (l : List Ext) {k : Nat} (hk : k < l.length) : (packGo 0 (l.take k) ++ l.drop k)[k]? = some l[k] := by
  have hlen : (packGo 0 (l.take k)).length = k := by rw [packGo_length, List.length_take]; omega
  rw [List.getElem?_append_right (by omega), hlen, Nat.sub_self, List.drop_eq_getElem_cons hk]
  rfl

/-- Each extent that is packed has its bytes. -/
theorem packed_bytes {l : List Ext} {raw0 raw : List UInt8} (h : Packing l raw0 l.length raw) :
    ((packGo 0 l).map fun x => (x.id, sl raw x.at_ x.len)) = l.map fun x => (x.id, sl raw0 x.at_ x.len) := by
  have gen : ∀ (m pre : List Ext), pre ++ m = l → ((packGo (total pre) m).map fun x => (x.id, sl raw x.at_ x.len)) = m.map fun x => (x.id, sl raw0 x.at_ x.len) := by
    intro m
    induction m with
    | nil => intro pre _; rfl
    | cons x xs ih =>
      intro pre hp
      have hj : pre.length < l.length := by rw [← hp]; simp
      have e1 : l[pre.length] = x := by simp [← hp]
      have e2 : l.take pre.length = pre := by simp [← hp]
      have h1 := h.done pre.length hj hj
      rw [e1, e2] at h1
      have h2 := ih (pre ++ [x]) (by simp [hp])
      simp only [total_append, total_cons, total_nil, Nat.add_zero] at h2
      simp only [packGo, List.map_cons, h1, h2]
  exact gen l [] rfl

end Go.Proofs.Ytgimcpnelogadaa.Sto
