/- Chapter 5, plain: extents in a row of bytes: where the first gap is, how they are packed. No program in sight. -/
namespace Go.Proofs.Ytgimcpnelogadaa.Sto

/-- Rounded up to a multiple of 8. -/
def up (n : Nat) : Nat := (n + 7) / 8 * 8
theorem up_ge (n : Nat) : n ≤ up n := by unfold up; omega
theorem up_mod (n : Nat) : up n % 8 = 0 := by unfold up; omega
theorem up_le (n : Nat) : up n ≤ n + 7 := by unfold up; omega
theorem up_zero : up 0 = 0 := rfl
theorem up_pos {n : Nat} : 0 < up n ↔ 0 < n := by unfold up; omega

structure Ext where
  id : Nat
  at_ : Nat
  len : Nat
  deriving DecidableEq, Inhabited

/-- How extents lie. -/
def Ext.lt (x y : Ext) : Prop := x.at_ < y.at_ ∨ (x.at_ = y.at_ ∧ x.id < y.id)
instance (x y : Ext) : Decidable (x.lt y) := inferInstanceAs (Decidable (_ ∨ _))
theorem Ext.lt_trans {x y z : Ext} (h : x.lt y) (k : y.lt z) : x.lt z := by unfold Ext.lt at *; omega
theorem Ext.lt_irrefl (x : Ext) : ¬ x.lt x := by unfold Ext.lt; omega
theorem Ext.lt_asymm {x y : Ext} (h : x.lt y) : ¬ y.lt x := by unfold Ext.lt at *; omega
theorem Ext.lt_total {x y : Ext} (h : x.id ≠ y.id) : x.lt y ∨ y.lt x := by unfold Ext.lt; omega
theorem Ext.lt_at {x y : Ext} (h : x.lt y) : x.at_ ≤ y.at_ := by unfold Ext.lt at h; omega

/-- The first gap. -/
def gapGo (need : Nat) : Nat → List Ext → Nat
  | e, [] => e
  | e, x :: xs => if e + need ≤ x.at_ then e else gapGo need (max e (x.at_ + up x.len)) xs

def total (l : List Ext) : Nat := (l.map fun x => up x.len).sum
@[simp] theorem total_nil : total [] = 0 := rfl
@[simp] theorem total_cons (x : Ext) (l : List Ext) : total (x :: l) = up x.len + total l := by simp [total]
@[simp] theorem total_append (l m : List Ext) : total (l ++ m) = total l + total m := by simp [total]
theorem total_perm {l m : List Ext} (h : l.Perm m) : total l = total m := (h.map _).sum_nat

/-- Two extents that both have bytes have none in common. -/
def Ext.apart (x y : Ext) : Prop := 0 < x.len → 0 < y.len → x.at_ + up x.len ≤ y.at_ ∨ y.at_ + up y.len ≤ x.at_
theorem Ext.apart_symm {x y : Ext} (h : x.apart y) : y.apart x := fun a b => (h b a).symm

structure Lay (l : List Ext) (span : Nat) : Prop where
  sorted : l.Pairwise Ext.lt
  apart : l.Pairwise Ext.apart
  eights : ∀ x ∈ l, x.at_ % 8 = 0
  inside : ∀ x ∈ l, x.at_ + up x.len ≤ span
  ids : (l.map Ext.id).Nodup

theorem Lay.nil (span : Nat) : Lay [] span := ⟨.nil, .nil, by simp, by simp, by simp⟩

theorem Lay.wider {l : List Ext} {s t : Nat} (h : Lay l s) (hs : s ≤ t) : Lay l t :=
  ⟨h.sorted, h.apart, h.eights, fun x hx => Nat.le_trans (h.inside x hx) hs, h.ids⟩

/-! The gap. -/
theorem gap_ge (need : Nat) : ∀ (l : List Ext) (e : Nat), e ≤ gapGo need e l
  | [], e => Nat.le_refl _
  | x :: xs, e => by
    unfold gapGo
    split
    · exact Nat.le_refl _
    · exact Nat.le_trans (Nat.le_max_left _ _) (gap_ge need xs _)

theorem gap_le (need : Nat) {b : Nat} : ∀ (l : List Ext) (e : Nat), e ≤ b → (∀ x ∈ l, x.at_ + up x.len ≤ b) → gapGo need e l ≤ b
  | [], e, he, _ => he
  | x :: xs, e, he, h => by
    unfold gapGo
    split
    · exact he
    · exact gap_le need xs _ (Nat.max_le.2 ⟨he, h x (by simp)⟩) (fun y hy => h y (by simp [hy]))

theorem gap_mod (need : Nat) : ∀ (l : List Ext) (e : Nat), e % 8 = 0 → (∀ x ∈ l, x.at_ % 8 = 0) → gapGo need e l % 8 = 0
  | [], e, he, _ => he
  | x :: xs, e, he, h => by
    unfold gapGo
    split
    · exact he
    · refine gap_mod need xs _ ?_ (fun y hy => h y (by simp [hy]))
      have h1 := h x (by simp)
      have h2 := up_mod x.len
      rcases Nat.le_total e (x.at_ + up x.len) with c | c
      · rw [Nat.max_eq_right c]; omega
      · rw [Nat.max_eq_left c]; exact he

/-- What is ahead of the gap ends there; what is behind begins behind it. -/
theorem gap_free (need : Nat) : ∀ (l : List Ext) (e : Nat), l.Pairwise Ext.lt → ∀ x ∈ l, x.at_ + up x.len ≤ gapGo need e l ∨ gapGo need e l + need ≤ x.at_
  | [], _, _, x, hx => by cases hx
  | y :: ys, e, hp, x, hx => by
    unfold gapGo
    have hp' := List.pairwise_cons.1 hp
    split
    · rename_i c
      right
      rcases List.mem_cons.1 hx with rfl | hx
      · exact c
      · exact Nat.le_trans c (Ext.lt_at (hp'.1 x hx))
    · rcases List.mem_cons.1 hx with rfl | hx
      · exact .inl (Nat.le_trans (Nat.le_max_right _ _) (gap_ge need ys _))
      · exact gap_free need ys _ hp'.2 x hx

/-! Packing. -/
def packGo : Nat → List Ext → List Ext
  | _, [] => []
  | e, x :: xs => { x with at_ := e } :: packGo (e + up x.len) xs

theorem packGo_length : ∀ (l : List Ext) (e : Nat), (packGo e l).length = l.length
  | [], _ => rfl
  | x :: xs, e => by simp [packGo, packGo_length xs]
theorem packGo_ids : ∀ (l : List Ext) (e : Nat), (packGo e l).map Ext.id = l.map Ext.id
  | [], _ => rfl
  | x :: xs, e => by simp [packGo, packGo_ids xs]
theorem packGo_lens : ∀ (l : List Ext) (e : Nat), (packGo e l).map Ext.len = l.map Ext.len
  | [], _ => rfl
  | x :: xs, e => by simp [packGo, packGo_lens xs]
theorem packGo_append : ∀ (l m : List Ext) (e : Nat), packGo e (l ++ m) = packGo e l ++ packGo (e + total l) m
  | [], m, e => by simp [packGo]
  | x :: xs, m, e => by simp [packGo, packGo_append xs, Nat.add_assoc]
theorem packGo_total : ∀ (l : List Ext) (e : Nat), total (packGo e l) = total l
  | [], _ => rfl
  | x :: xs, e => by simp [packGo, packGo_total xs]
theorem packGo_mem_at : ∀ (l : List Ext) (e : Nat), ∀ x ∈ packGo e l, e ≤ x.at_ ∧ x.at_ + up x.len ≤ e + total l
  | [], _, x, hx => by cases hx
  | y :: ys, e, x, hx => by
    simp only [packGo, List.mem_cons] at hx
    rcases hx with rfl | hx
    · simp
    · have := packGo_mem_at ys _ x hx
      simp; omega
theorem packGo_eights : ∀ (l : List Ext) (e : Nat), e % 8 = 0 → ∀ x ∈ packGo e l, x.at_ % 8 = 0
  | [], _, _, x, hx => by cases hx
  | y :: ys, e, he, x, hx => by
    simp only [packGo, List.mem_cons] at hx
    rcases hx with rfl | hx
    · exact he
    · exact packGo_eights ys _ (by have := up_mod y.len; omega) x hx
theorem packGo_apart : ∀ (l : List Ext) (e : Nat), (packGo e l).Pairwise Ext.apart
  | [], _ => .nil
  | y :: ys, e => by
    simp only [packGo, List.pairwise_cons]
    refine ⟨fun x hx _ _ => .inl ?_, packGo_apart ys _⟩
    exact (packGo_mem_at ys _ x hx).1

/-- A packed row, sorted anew. -/
theorem Lay.packed {l m : List Ext} {span : Nat} (h : Lay l span) (hm : m.Perm (packGo 0 l)) (hs : m.Pairwise Ext.lt) : Lay m (total l) where
  sorted := hs
  apart := (packGo_apart l 0).perm hm.symm (fun h => Ext.apart_symm h)
  eights := fun x hx => packGo_eights l 0 rfl x (hm.mem_iff.1 hx)
  inside := fun x hx => by have := packGo_mem_at l 0 x (hm.mem_iff.1 hx); omega
  ids := by rw [(hm.map Ext.id).nodup_iff, packGo_ids]; exact h.ids

/-- All that lies ahead of an extent that has bytes is no more than its place. -/
theorem total_le_at : ∀ (l : List Ext) (b : Nat), l.Pairwise Ext.lt → l.Pairwise Ext.apart → (∀ x ∈ l, 0 < x.len → x.at_ + up x.len ≤ b) → ∀ a, (∀ x ∈ l, 0 < x.len → a ≤ x.at_) → a ≤ b → a + total l ≤ b
  | [], b, _, _, _, a, _, hab => by simpa using hab
  | x :: xs, b, hl, ha, hb, a, haa, hab => by
    have hl' := List.pairwise_cons.1 hl
    have ha' := List.pairwise_cons.1 ha
    rw [total_cons]
    by_cases hx : 0 < x.len
    · have h1 := haa x (by simp) hx
      have h2 := hb x (by simp) hx
      have := total_le_at xs b hl'.2 ha'.2 (fun y hy => hb y (by simp [hy])) (x.at_ + up x.len) (fun y hy hy0 => ?_) h2
      · omega
      · rcases ha'.1 y hy hx hy0 with c | c
        · exact c
        · have := Ext.lt_at (hl'.1 y hy)
          have := up_pos.2 hy0
          omega
    · have h0 : x.len = 0 := by omega
      rw [h0, up_zero, Nat.zero_add]
      exact total_le_at xs b hl'.2 ha'.2 (fun y hy => hb y (by simp [hy])) a (fun y hy => haa y (by simp [hy])) hab

theorem Lay.total_le {l : List Ext} {span : Nat} (h : Lay l span) : total l ≤ span := by
  have := total_le_at l span h.sorted h.apart (fun x hx _ => h.inside x hx) 0 (fun _ _ _ => Nat.zero_le _) (Nat.zero_le _)
  omega

theorem Lay.ahead {pre suf : List Ext} {x : Ext} {span : Nat} (h : Lay (pre ++ x :: suf) span) (hx : 0 < x.len) : total pre ≤ x.at_ := by
  have hs := List.pairwise_append.1 h.sorted
  have ha := List.pairwise_append.1 h.apart
  have := total_le_at pre x.at_ hs.1 ha.1 (fun y hy hy0 => ?_) 0 (fun _ _ _ => Nat.zero_le _) (Nat.zero_le _)
  · omega
  · rcases ha.2.2 y hy x (by simp) hy0 hx with c | c
    · exact c
    · have := Ext.lt_at (hs.2.2 y hy x (by simp))
      have := up_pos.2 hx
      omega

/-- Behind a packing there is no gap. -/
theorem gap_packed {need : Nat} (hn : 0 < need) : ∀ (l : List Ext) (e : Nat), gapGo need e (packGo e l) = e + total l
  | [], e => by simp [packGo, gapGo]
  | x :: xs, e => by
    simp only [packGo, gapGo, total_cons]
    rw [if_neg (by omega), Nat.max_eq_right (by omega), gap_packed hn xs]
    omega

theorem gap_zero : ∀ (l : List Ext), gapGo 0 0 l = 0
  | [] => rfl
  | x :: xs => by simp [gapGo]

/-- Behind a packing, and in whatever order: the gap is no further than all bytes. -/
theorem gap_in {need : Nat} {l : List Ext} {span : Nat} (h : Lay l span) : gapGo need 0 l ≤ span :=
  gap_le need l 0 (Nat.zero_le _) h.inside

/-! One more. -/
/-- Where an extent belongs. -/
def place (y : Ext) (l : List Ext) : Nat := (l.takeWhile fun x => decide (x.lt y)).length
def insertE (y : Ext) (l : List Ext) : List Ext := l.take (place y l) ++ y :: l.drop (place y l)

theorem take_place (y : Ext) (l : List Ext) : l.take (place y l) = l.takeWhile fun x => decide (x.lt y) := by
  unfold place
  induction l with
  | nil => rfl
  | cons x xs ih =>
    rw [List.takeWhile_cons]
    split
    · simp only [List.length_cons, List.take_succ_cons, ih]
    · rfl
theorem drop_place (y : Ext) (l : List Ext) : l.drop (place y l) = l.dropWhile fun x => decide (x.lt y) := by
  unfold place
  induction l with
  | nil => rfl
  | cons x xs ih =>
    rw [List.takeWhile_cons, List.dropWhile_cons]
    split
    · simp only [List.length_cons, List.drop_succ_cons, ih]
    · rfl
theorem place_le (y : Ext) (l : List Ext) : place y l ≤ l.length := by
  unfold place
  exact List.Sublist.length_le (List.takeWhile_sublist _)
theorem insertE_perm (y : Ext) (l : List Ext) : (insertE y l).Perm (y :: l) := by
  unfold insertE
  refine List.perm_middle.trans ?_
  rw [List.take_append_drop]

theorem mem_takeWhile_lt {y : Ext} {l : List Ext} : ∀ x ∈ l.takeWhile (fun x => decide (x.lt y)), x.lt y := by
  induction l with
  | nil => intro x hx; cases hx
  | cons z zs ih =>
    intro x hx
    rw [List.takeWhile_cons] at hx
    split at hx
    · rename_i c
      rcases List.mem_cons.1 hx with rfl | hx
      · simpa using c
      · exact ih x hx
    · cases hx

theorem mem_dropWhile_lt {y : Ext} {l : List Ext} (hs : l.Pairwise Ext.lt) : ∀ x ∈ l.dropWhile (fun x => decide (x.lt y)), ¬ x.lt y := by
  induction l with
  | nil => intro x hx; cases hx
  | cons z zs ih =>
    intro x hx
    have hs' := List.pairwise_cons.1 hs
    rw [List.dropWhile_cons] at hx
    split at hx
    · exact ih hs'.2 x hx
    · rename_i c
      rcases List.mem_cons.1 hx with rfl | hx
      · simpa using c
      · intro k
        exact c (by simpa using Ext.lt_trans (hs'.1 x hx) k)

theorem insertE_sorted {y : Ext} {l : List Ext} (hs : l.Pairwise Ext.lt) (hid : y.id ∉ l.map Ext.id) : (insertE y l).Pairwise Ext.lt := by
  unfold insertE
  rw [take_place, drop_place]
  have hs' := hs
  rw [← List.takeWhile_append_dropWhile (p := fun x => decide (x.lt y)) (l := l), List.pairwise_append] at hs'
  refine List.pairwise_append.2 ⟨hs'.1, List.pairwise_cons.2 ⟨fun x hx => ?_, hs'.2.1⟩, fun x hx z hz => ?_⟩
  · have h1 := mem_dropWhile_lt (y := y) hs x hx
    have h2 : x ∈ l := (List.dropWhile_sublist _).subset hx
    have h3 : y.id ≠ x.id := fun e => hid (by rw [e]; exact List.mem_map_of_mem h2)
    exact (Ext.lt_total h3).resolve_right h1
  · rcases List.mem_cons.1 hz with rfl | hz
    · exact mem_takeWhile_lt x hx
    · exact hs'.2.2 x hx z hz

/-- One more extent in a gap. -/
theorem Lay.insert {l : List Ext} {span : Nat} (h : Lay l span) {y : Ext} (hid : y.id ∉ l.map Ext.id) (h8 : y.at_ % 8 = 0) (hin : y.at_ + up y.len ≤ span)
    (hfree : ∀ x ∈ l, x.at_ + up x.len ≤ y.at_ ∨ y.at_ + up y.len ≤ x.at_) : Lay (insertE y l) span where
  sorted := insertE_sorted h.sorted hid
  apart := (List.pairwise_cons.2 ⟨fun x hx _ _ => (hfree x hx).symm, h.apart⟩ : (y :: l).Pairwise Ext.apart).perm (insertE_perm y l).symm (fun h => Ext.apart_symm h)
  eights := fun x hx => by
    rcases List.mem_cons.1 ((insertE_perm y l).mem_iff.1 hx) with rfl | hx
    · exact h8
    · exact h.eights x hx
  inside := fun x hx => by
    rcases List.mem_cons.1 ((insertE_perm y l).mem_iff.1 hx) with rfl | hx
    · exact hin
    · exact h.inside x hx
  ids := by
    rw [((insertE_perm y l).map Ext.id).nodup_iff]
    exact List.nodup_cons.2 ⟨hid, h.ids⟩

theorem Lay.erase {l : List Ext} {span : Nat} (h : Lay l span) (i : Nat) : Lay (l.eraseIdx i) span where
  sorted := h.sorted.sublist (List.eraseIdx_sublist _ _)
  apart := h.apart.sublist (List.eraseIdx_sublist _ _)
  eights := fun x hx => h.eights x ((List.eraseIdx_sublist _ _).subset hx)
  inside := fun x hx => h.inside x ((List.eraseIdx_sublist _ _).subset hx)
  ids := h.ids.sublist ((List.eraseIdx_sublist _ _).map _)

/-! Where an extent is found. -/
theorem place_of_mem {l : List Ext} (hs : l.Pairwise Ext.lt) {i : Nat} (hi : i < l.length) (y : Ext) (ha : y.at_ = l[i].at_) (hd : y.id = l[i].id) : place y l = i := by
  induction l generalizing i with
  | nil => cases hi
  | cons x xs ih =>
    have hs' := List.pairwise_cons.1 hs
    unfold place
    rw [List.takeWhile_cons]
    cases i with
    | zero =>
      have : ¬ x.lt y := by unfold Ext.lt; simp at ha hd; omega
      simp [this]
    | succ j =>
      simp only [List.getElem_cons_succ] at ha hd
      have hj : j < xs.length := by simpa using hi
      have hlt : x.lt y := by
        have := hs'.1 xs[j] (List.getElem_mem hj)
        unfold Ext.lt at this ⊢
        omega
      simp only [hlt, decide_true, if_true, List.length_cons]
      exact congrArg (· + 1) (ih hs'.2 hj ha hd)

end Go.Proofs.Ytgimcpnelogadaa.Sto
