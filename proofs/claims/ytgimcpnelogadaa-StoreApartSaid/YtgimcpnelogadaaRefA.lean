/- Chapter 5's reference, by hand: what its store is in memory; find, Len, Used. -/
import Derived.Test.YtgimcpnelogadaaStI
import Derived.Test.YtgimcpnelogadaaMemD
namespace Go.Proofs.Ytgimcpnelogadaa.Sto
open Go.RowKit Go.Proofs.Ytgimcpnelogadaa.Mem
set_option linter.unusedVariables false
set_option linter.unusedSimpArgs false

/-- An extent of the reference: its Id, its bytes, their block. -/
structure RX where
  id : Nat
  bs : List UInt8
  blk : Nat
def RX.pair (x : RX) : Nat × List UInt8 := (x.id, x.bs)
def rxV (x : RX) : List Value := [.int .i64 (x.id : Int), .slice (some ⟨x.blk, 0, none⟩) x.bs.length x.bs.length]
def refV (X : List RX) : List Value := X.flatMap rxV

structure RefAt (w : World) (q : Nat) (X : List RX) (lv : Value) (most : Nat) : Prop where
  cells : Blk w q 43 [lv, .int .i64 (most : Int)]
  row : Row w 125 2 lv X.length (refV X)
  bytes : ∀ x ∈ X, Blk w x.blk 5 (u8V x.bs)
  apart : (X.map RX.blk).Nodup
  sorted : (X.map RX.id).Pairwise (· < ·)
  small : X.length ≤ 100000000 ∧ (∀ x ∈ X, x.id ≤ 1000000000 ∧ x.bs.length ≤ 8388608) ∧ most ≤ 1000000000000000
def rfoot (q : Nat) (lv : Value) (X : List RX) : List Nat := q :: (lv.ownBlock.toList ++ X.map RX.blk)
/-- At block q there is the reference's store of the list R, made of the blocks F. -/
def Ref (w : World) (q : Nat) (R : List (Nat × List UInt8)) (most : Nat) (F : List Nat) : Prop := ∃ lv X, RefAt w q X lv most ∧ R = X.map RX.pair ∧ F = rfoot q lv X

section
variable {w w' : World} {q most : Nat} {X : List RX} {lv : Value} {R : List (Nat × List UInt8)} {F : List Nat}
theorem mem_rfoot {k : Nat} : k ∈ rfoot q lv X ↔ k = q ∨ lv.ownBlock = some k ∨ k ∈ X.map RX.blk := by
  simp only [rfoot, List.mem_cons, List.mem_append, Option.mem_toList]
theorem RefAt.lt (h : RefAt w q X lv most) : ∀ k ∈ rfoot q lv X, k < w.heap.size := by
  intro k hk
  rcases mem_rfoot.1 hk with rfl | hk | hk
  · exact h.cells.lt
  · exact h.row.lt hk
  · obtain ⟨x, hx, rfl⟩ := List.mem_map.1 hk
    exact (h.bytes x hx).lt
theorem RefAt.keep (h : RefAt w q X lv most) (hk : ∀ k ∈ rfoot q lv X, w'.heap[k]? = w.heap[k]?) : RefAt w' q X lv most :=
  ⟨h.cells.keep (hk q (by simp [rfoot])), h.row.keep (fun g hg => hk g (mem_rfoot.2 (.inr (.inl hg)))), fun x hx => (h.bytes x hx).keep (hk _ (mem_rfoot.2 (.inr (.inr (List.mem_map_of_mem hx))))), h.apart, h.sorted, h.small⟩
theorem RefAt.chg {G : List Nat} (h : RefAt w q X lv most) (hc : Chg G w w') (hG : ∀ k ∈ rfoot q lv X, k ∉ G) : RefAt w' q X lv most :=
  h.keep fun k hk => hc.block k (h.lt k hk) (hG k hk)
theorem Ref.lt (h : Ref w q R most F) : ∀ k ∈ F, k < w.heap.size := by obtain ⟨_, _, h, _, rfl⟩ := h; exact h.lt
theorem Ref.chg {G : List Nat} (h : Ref w q R most F) (hc : Chg G w w') (hG : ∀ k ∈ F, k ∉ G) : Ref w' q R most F := by
  obtain ⟨_, _, h, e, rfl⟩ := h
  exact ⟨_, _, h.chg hc hG, e, rfl⟩
theorem RefAt.q_row (h : RefAt w q X lv most) : lv.ownBlock ≠ some q := fun e => by
  obtain ⟨cs, hc⟩ := h.row.typed e
  exact absurd (h.cells.inj hc).1 (by decide)
theorem RefAt.q_bytes (h : RefAt w q X lv most) : ∀ x ∈ X, x.blk ≠ q := fun x hx e => by
  have := h.bytes x hx
  rw [e] at this
  exact absurd (h.cells.inj this).1 (by decide)
theorem RefAt.row_bytes (h : RefAt w q X lv most) : ∀ x ∈ X, lv.ownBlock ≠ some x.blk := fun x hx e => by
  obtain ⟨cs, hc⟩ := h.row.typed e
  exact absurd ((h.bytes x hx).inj hc).1 (by decide)
theorem RefAt.c0 (h : RefAt w q X lv most) : w.cell? ⟨q, 0, none⟩ = some lv := h.cells.cellAt rfl
theorem RefAt.c1 (h : RefAt w q X lv most) : w.cell? ⟨q, 1, none⟩ = some (.int .i64 (most : Int)) := h.cells.cellAt rfl
theorem refV_get : ∀ (X : List RX) {i : Nat} (h : i < X.length), (refV X)[i * 2]? = some (.int .i64 (X[i].id : Int)) ∧ (refV X)[i * 2 + 1]? = some (.slice (some ⟨X[i].blk, 0, none⟩) X[i].bs.length X[i].bs.length)
  | x :: X, 0, _ => ⟨rfl, rfl⟩
  | x :: X, i + 1, h => by
    have e : refV (x :: X) = rxV x ++ refV X := rfl
    have ih := refV_get X (i := i) (by simpa using h)
    rw [e, List.getElem?_append_right (by simp [rxV]; omega), List.getElem?_append_right (by simp [rxV]; omega)]
    simp only [rxV, List.length_cons, List.length_nil, List.getElem_cons_succ]
    rw [show (i + 1) * 2 - (0 + 1 + 1) = i * 2 by omega, show (i + 1) * 2 + 1 - (0 + 1 + 1) = i * 2 + 1 by omega]
    exact ih
theorem refV_length (X : List RX) : (refV X).length = X.length * 2 := by
  induction X with
  | nil => rfl
  | cons x X ih => rw [show refV (x :: X) = rxV x ++ refV X from rfl, List.length_append, ih]; simp [rxV]; omega
/-- The cells of the i-th extent. -/
theorem RefAt.ext (h : RefAt w q X lv most) {i : Nat} (hi : i < X.length) : ∃ g cap, lv = .slice (some ⟨g, 0, none⟩) X.length cap ∧
    w.cell? ⟨g, i * 2, none⟩ = some (.int .i64 (X[i].id : Int)) ∧ w.cell? ⟨g, i * 2 + 1, none⟩ = some (.slice (some ⟨X[i].blk, 0, none⟩) X[i].bs.length X[i].bs.length) := by
  rcases h.row.cases with ⟨h1, h2, _⟩ | ⟨g, cap, rest, h1, hb, _⟩
  · omega
  · obtain ⟨r0, r1⟩ := refV_get X hi
    exact ⟨g, cap, h1, hb.cellAt (List.getElem?_append_left_some (b := rest) r0), hb.cellAt (List.getElem?_append_left_some (b := rest) r1)⟩
theorem RefAt.rise (h : RefAt w q X lv most) {i j : Nat} (hij : i < j) (hj : j < X.length) : X[i].id < X[j].id := by
  have := List.pairwise_iff_getElem.1 h.sorted i j (by simp; omega) (by simpa using hj) hij
  simpa using this
end

set_option maxHeartbeats 4000000 in
set_option maxRecDepth 100000 in
/-- find: the place of the first Id that is not below k. -/
theorem rfind_calls {w : World} {q most : Nat} {X : List RX} {lv : Value} (h : RefAt w q X lv most) (k : Int) (hk : I64 k) :
    Calls Try.prog 116 #[.pointer (some ⟨q, 0, none⟩), .int .i64 k] w fun e w' => (∃ (m : Nat) (b : Bool), e = .returned (.tuple #[.int .i64 (m : Int), .bool b]) ∧ m ≤ X.length ∧ (∀ j (hj : j < X.length), j < m → (X[j].id : Int) < k) ∧
      (∀ hm : m < X.length, k ≤ (X[m].id : Int)) ∧ (b = true ↔ ∃ hm : m < X.length, (X[m].id : Int) = k)) ∧ Chg [] w w' := by
  have h0 := h.c0
  have H := Aside.mk h
  obtain ⟨a, c, rfl⟩ := Row_form h.row
  have hl := h.small.1
  have hk' := hk
  unfold I64 at hk'
  clear h
  go_enter Try.func116, Try.ntmps116
  go_wp2
  go_loopw [6] (fun i wr => ∃ m : Nat, i = .int .i64 (m : Int) ∧ m ≤ X.length ∧ Mem.Aside (∀ j (hj : j < X.length), j < m → (X[j].id : Int) < k) ∧ w = wr) (fun i _ => X.length - (intOf i).toNat)
  case atStart => exact ⟨0, rfl, Nat.zero_le _, ⟨fun j hj h => by omega⟩, rfl⟩
  case round =>
    obtain ⟨m, rfl, hm, HM, rfl⟩ := hrel
    by_cases d : m < X.length
    · obtain ⟨g, cap, hac, e0, e1⟩ := H.out.ext d
      cases hac
      have d' : (m : Int) < (X.length : Int) := by omega
      have hwm := (IntWalk.i64_in ((m : Int) + 1) (by omega) : IntKind.i64.wrap ((m : Int) + 1) = ((m + 1 : Nat) : Int))
      obtain ⟨Z, hZ⟩ : ∃ Z, Z = X[m].id := ⟨_, rfl⟩
      rw [← hZ] at e0
      by_cases f : (Z : Int) < k
      · have HZ := Mem.Aside.mk hZ
        clear hZ
        go_wp2
        refine ⟨⟨m + 1, by go_num, by omega, ⟨fun j hj h => ?_⟩, trivial⟩, by simp [intOf]; omega⟩
        by_cases e : j = m
        · subst e; rw [← HZ.out]; exact f
        · exact HM.out j hj (by omega)
      · have HZ := Mem.Aside.mk hZ
        clear hZ
        go_wp2
        go_region
        go_wp2
        go_ret2
        exact ⟨⟨m, _, rfl, by omega, HM.out, fun h => by rw [← HZ.out]; omega, by rw [beq_iff_eq, HZ.out]; exact ⟨fun h => ⟨d, h⟩, fun ⟨_, h⟩ => h⟩⟩, (Chg.refl _ _).drew⟩
    · have d' : decide ((m : Int) < (X.length : Int)) = false := decide_eq_false (by omega)
      have hm' : X.length ≤ m := by omega
      clear d
      go_wp2
      go_region
      go_wp2
      go_ret2
      refine ⟨⟨m, false, rfl, by omega, HM.out, fun h => by omega, ?_⟩, (Chg.refl _ _).drew⟩
      simp only [Bool.false_eq_true, false_iff]
      rintro ⟨h, _⟩
      omega
end Go.Proofs.Ytgimcpnelogadaa.Sto
