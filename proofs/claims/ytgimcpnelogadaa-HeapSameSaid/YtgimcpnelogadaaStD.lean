/- Chapter 5, the store, by hand: slices.BinarySearchFunc over extents. -/
import Derived.Test.YtgimcpnelogadaaStC
namespace Go.Proofs.Ytgimcpnelogadaa.Sto
open Go.RowKit Go.Proofs.Ytgimcpnelogadaa.Mem
set_option linter.unusedVariables false
set_option linter.unusedSimpArgs false

theorem ord_lt (x y : Ext) : (ordI x.id x.at_ y.id y.at_ < 0) ↔ x.lt y := by
  unfold ordI orI cmpI Ext.lt
  split <;> (try split) <;> (try split) <;> (try split) <;> (try split) <;> omega
theorem ord_eq (x y : Ext) : (ordI x.id x.at_ y.id y.at_ = 0) ↔ (x.at_ = y.at_ ∧ x.id = y.id) := by
  unfold ordI orI cmpI
  split <;> (try split) <;> (try split) <;> (try split) <;> (try split) <;> omega
theorem place_unique {y : Ext} {l : List Ext} {i : Nat} (hi : i ≤ l.length) (h1 : ∀ k (hk : k < l.length), k < i → l[k].lt y) (h2 : ∀ hk : i < l.length, ¬ l[i].lt y) : place y l = i := by
  unfold place
  induction l generalizing i with
  | nil => simp at hi; simp [hi]
  | cons x xs ih =>
    rw [List.takeWhile_cons]
    cases i with
    | zero =>
      have := h2 (by simp)
      simp at this
      simp [this]
    | succ j =>
      have h0 := h1 0 (by simp) (by omega)
      simp at h0
      simp only [h0, decide_true, if_true, List.length_cons]
      congr 1
      refine ih (by simpa using hi) (fun k hk hkj => ?_) (fun hk => ?_)
      · have := h1 (k + 1) (by simpa using hk) (by omega)
        simpa using this
      · have := h2 (by simpa using hk)
        simpa using this

/-- The cells of the i-th extent. -/
theorem rowV_get (l : List Ext) {i : Nat} (hi : i < l.length) : (rowV l)[i * 3]? = some (.int .i64 (l[i].id : Int)) ∧ (rowV l)[i * 3 + 1]? = some (.int .i64 (l[i].at_ : Int)) ∧ (rowV l)[i * 3 + 2]? = some (.int .i64 (l[i].len : Int)) := by
  induction l generalizing i with
  | nil => cases hi
  | cons x xs ih =>
    cases i with
    | zero => exact ⟨rfl, rfl, rfl⟩
    | succ j =>
      have := ih (i := j) (by simpa using hi)
      have e : rowV (x :: xs) = [.int .i64 (x.id : Int), .int .i64 (x.at_ : Int), .int .i64 (x.len : Int)] ++ rowV xs := by simp [rowV, extV]
      rw [e]
      refine ⟨?_, ?_, ?_⟩
      · rw [List.getElem?_append_right (by simp; omega)]; simpa [show (j + 1) * 3 - 3 = j * 3 by omega] using this.1
      · rw [List.getElem?_append_right (by simp; omega)]; simpa [show (j + 1) * 3 + 1 - 3 = j * 3 + 1 by omega] using this.2.1
      · rw [List.getElem?_append_right (by simp; omega)]; simpa [show (j + 1) * 3 + 2 - 3 = j * 3 + 2 by omega] using this.2.2

def foundB (y : Ext) (l : List Ext) : Bool := match l[place y l]? with | some x => decide (x.at_ = y.at_ ∧ x.id = y.id) | none => false

set_option maxRecDepth 100000 in
theorem bsearch_calls {w : World} {v : Value} {l : List Ext} (h : Row w 114 3 v l.length (rowV l)) (hs : l.Pairwise Ext.lt) (hl : l.length ≤ 1000000000) (y : Ext) :
    Calls Try.prog 63 #[v, .agg #[.int .i64 (y.id : Int), .int .i64 (y.at_ : Int), .int .i64 (y.len : Int)], .func (.func 64) #[] #[]] w fun e w' =>
      e = .returned (.tuple #[.int .i64 (place y l : Int), .bool (foundB y l)]) ∧ Chg [] w w' := by
  have hu := Try.underlying114
  obtain ⟨a, cp, rfl⟩ := Row_form h
  have H := Aside.mk h
  have HS := Aside.mk hs
  have HL := Aside.mk hl
  clear h hs
  go_enter Try.func63, Try.ntmps63
  go_wp2
  go_loopw [9, 10] (fun u v w' => ∃ i j : Nat, u = .int .i64 (i : Int) ∧ v = .int .i64 (j : Int) ∧ i ≤ j ∧ j ≤ l.length ∧ Aside (∀ k (hk : k < l.length), k < i → l[k].lt y) ∧ Aside (∀ k (hk : k < l.length), j ≤ k → ¬ l[k].lt y) ∧
      Aside (Blk w' w.heap.size 114 (extV y)) ∧ Aside (Chg [] w w')) (fun u v _ => (intOf v - intOf u).toNat)
  case atStart => exact ⟨0, l.length, rfl, rfl, Nat.zero_le _, Nat.le_refl _, ⟨fun _ _ h => absurd h (by omega)⟩, ⟨fun _ h1 h2 => absurd h1 (by omega)⟩, ⟨Blk.newL (extV y) rfl⟩, ⟨(Chg.refl _ _).alloc _⟩⟩
  case round =>
    obtain ⟨i, j, rfl, rfl, hij, hjn, H1, H2, HB, HC⟩ := hrel
    by_cases c : i < j
    · go_wp2
      rcases H.out.cases with ⟨h1, h2, _⟩ | ⟨g, cap, rest, h1, hb, hn, hcap, hlen⟩
      · exact absurd h2 (by omega)
      · cases h1
        obtain ⟨m, hm⟩ : ∃ m : Nat, m = (i + j) / 2 := ⟨_, rfl⟩
        have e : ((i : Int) + (j : Int)) / 2 = (m : Int) := by omega
        have hml : m < l.length := by omega
        have hml' : (m : Int) < (l.length : Int) := by omega
        rw [e]
        have HM := Aside.mk hm
        obtain ⟨r0, r1, r2⟩ := rowV_get l hml
        have hb' := (hb.chg HC.out (by simp)).drew
        have k0 := hb'.cellAt (List.getElem?_append_left_some (b := rest) r0)
        have k1 := hb'.cellAt (List.getElem?_append_left_some (b := rest) r1)
        have k2 := hb'.cellAt (List.getElem?_append_left_some (b := rest) r2)
        have y0 := HB.out.drew.cellAt (i := 0) rfl
        have y1 := HB.out.drew.cellAt (i := 1) rfl
        have y2 := HB.out.drew.cellAt (i := 2) rfl
        clear hlen hn hcap e hm hb hb' r0 r1 r2
        refine region_tail 6 (by kernel_rfl) (by kernel_rfl) ?_
        simp only [List.take_succ_cons, List.take_zero, List.drop_succ_cons, List.drop_zero]
        repeat still_step
        refine wpStill_nil ?_
        go_wp2_with (go_at_call 64; (with_reducible refine (order_calls _ _ _ _ _ _ _).mono ?_); rintro e w2 ⟨rfl, hb2⟩)
        · have hlt : l[m].lt y := (ord_lt _ _).1 (by assumption)
          go_roundw
          case rel => exact ⟨m + 1, j, by go_num, rfl, by have := HM.out; omega, hjn, ⟨fun k hk hkm => by
              by_cases e : k = m
              · subst e; exact hlt
              · exact Ext.lt_trans (List.pairwise_iff_getElem.1 HS.out k m hk hml (by omega)) hlt⟩, H2, ⟨HB.out.drew.chg (Chg.of_below (F := []) hb2) (by simp)⟩, ⟨HC.out.drew.trans (Chg.of_below hb2)⟩⟩
          case measure => have := HM.out; simp [intOf]; omega
        · have hlt : ¬ l[m].lt y := fun h => absurd ((ord_lt _ _).2 h) (by omega)
          go_roundw
          case rel => exact ⟨i, m, rfl, rfl, by have := HM.out; omega, by omega, H1, ⟨fun k hk hkm h => by
              by_cases e : m = k
              · subst e; exact hlt h
              · exact hlt (Ext.lt_trans (List.pairwise_iff_getElem.1 HS.out m k hml hk (by omega)) h)⟩, ⟨HB.out.drew.chg (Chg.of_below (F := []) hb2) (by simp)⟩, ⟨HC.out.drew.trans (Chg.of_below hb2)⟩⟩
          case measure => have := HM.out; simp [intOf]; omega
    · obtain rfl : i = j := by omega
      have hp : place y l = i := place_unique hjn H1.out (fun hk => H2.out i hk (Nat.le_refl _))
      have HP := Aside.mk hp
      by_cases d : i < l.length
      · rcases H.out.cases with ⟨h1, h2, _⟩ | ⟨g, cap, rest, h1, hb, hn, hcap, hlen⟩
        · exact absurd h2 (by omega)
        cases h1
        obtain ⟨r0, r1, r2⟩ := rowV_get l d
        have hb' := (hb.chg HC.out (by simp)).drew
        have k0 := hb'.cellAt (List.getElem?_append_left_some (b := rest) r0)
        have k1 := hb'.cellAt (List.getElem?_append_left_some (b := rest) r1)
        have k2 := hb'.cellAt (List.getElem?_append_left_some (b := rest) r2)
        have y0 := HB.out.drew.cellAt (i := 0) rfl
        have y1 := HB.out.drew.cellAt (i := 1) rfl
        have y2 := HB.out.drew.cellAt (i := 2) rfl
        have hd : (i : Int) < (l.length : Int) := by omega
        clear hp hlen hn hcap hb hb' r0 r1 r2
        go_wp2
        go_region_held3 (fun w' => w'.cell? ⟨g, i * 3, none⟩ = some (.int .i64 (l[i].id : Int)) ∧ w'.cell? ⟨g, i * 3 + 1, none⟩ = some (.int .i64 (l[i].at_ : Int)) ∧ w'.cell? ⟨g, i * 3 + 2, none⟩ = some (.int .i64 (l[i].len : Int)) ∧
            w'.cell? ⟨w.heap.size, 0, none⟩ = some (.int .i64 (y.id : Int)) ∧ w'.cell? ⟨w.heap.size, 1, none⟩ = some (.int .i64 (y.at_ : Int)) ∧ w'.cell? ⟨w.heap.size, 2, none⟩ = some (.int .i64 (y.len : Int)))
          (first | exact ⟨k0, k1, k2, y0, y1, y2⟩ | exact ⟨cell_below hb2 k0, cell_below hb2 k1, cell_below hb2 k2, cell_below hb2 y0, cell_below hb2 y1, cell_below hb2 y2⟩)
          ((go_at_call 64; (with_reducible refine (order_calls _ _ _ _ _ _ _).mono ?_); rintro e w2 ⟨rfl, hb2⟩))
        go_wp2
        go_ret2
        have hf : foundB y l = (ordI l[i].id l[i].at_ y.id y.at_ == 0) := by
          unfold foundB
          rw [HP.out, List.getElem?_eq_getElem d]
          have := ord_eq l[i] y
          by_cases e : ordI l[i].id l[i].at_ y.id y.at_ = 0
          · rw [e]; simpa using this.1 e
          · rw [beq_false_of_ne e]; simpa using fun a => fun b => e (this.2 ⟨a, b⟩)
        rw [HP.out, hf]
        exact ⟨by simp, (HC.out.drew.trans (Chg.of_below hb2))⟩
      · clear hp
        have hd : decide ((i : Int) < (l.length : Int)) = false := decide_eq_false (by omega)
        have hd2 : decide (i < l.length) = false := decide_eq_false (by omega)
        go_wp2
        repeat (go_quiet (fail); try go_wp2)
        go_ret2
        have hf : foundB y l = false := by
          unfold foundB
          rw [HP.out, List.getElem?_eq_none (by omega)]
        rw [HP.out, hf]
        exact ⟨by simp, HC.out.drewN _⟩
end Go.Proofs.Ytgimcpnelogadaa.Sto
