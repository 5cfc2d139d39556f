/- Chapter 6: awake. -/
import Derived.Test.YtgimcpnelogadaaHpL
namespace Go.Proofs.Ytgimcpnelogadaa.Hp
open Go.RowKit Go.Proofs.Ytgimcpnelogadaa.Mem Go.Proofs.Ytgimcpnelogadaa.Sto Go.Proofs.Ytgimcpnelogadaa.Wd
set_option linter.unusedVariables false
set_option linter.unusedSimpArgs false

def intC (i : Int) : Cel := ⟨2, false, i, noText, [], [], 0, 0, 0, 0, 2⟩
def rowC (l : List Nat) : Cel := ⟨9, false, 0, noText, [], l, 0, 0, 0, 0, 1 + l.length⟩
/-- What Put answers of a cell. -/
def PutPost (w : World) (p units : Nat) (M : List (Option MC)) (c : Cel) (rs : List Nat) (e : Ending) (w' : World) : Prop :=
  (∃ M5, ((usedOf M + c.need ≤ units ∧ M5 = M) ∨ (units < usedOf M + c.need ∧ ∃ B, Marks M (rs ++ (c.words ++ [c.base])) B ∧ M5 = swK B M.length M ∧ unitsOf (celsOf M) B + c.need ≤ units)) ∧
    ∃ n m M', m.c = c ∧ Placed M5 n m M' ∧ e = .returned (.tuple #[.int .u64 (hw n : Nat), .int .i64 0]) ∧ LawH w p units M' w') ∨
  (units < usedOf M + c.need ∧ ∃ B, Marks M (rs ++ (c.words ++ [c.base])) B ∧ units < unitsOf (celsOf M) B + c.need ∧ e = .returned (.tuple #[.int .u64 0, .int .i64 40]) ∧ LawH w p units (swK B M.length M) w')
section
variable {w W W' W1 : World} {p units : Nat} {M : List (Option MC)}
theorem put_int (h : LawH w p units M W) (hc : Chg [] W W1) (i : Int) {rv : Value} {rs : List Nat} (hr : Row W1 22 1 rv rs.length (u64V rs)) (hrl : rs.length ≤ 1000000000) (hrx : ∀ x ∈ rs, x < 18446744073709551616) :
    Calls Try.prog 39 #[.pointer (some ⟨p, 0, none⟩), .agg #[.int .i64 2, .bool false, .int .i64 i, .string noText, .slice none 0 0, .slice none 0 0, .int .u64 0, .int .i64 0, .int .i64 0], rv] W1 (PutPost w p units M (intC i) rs) :=
  put_law h hc (intC i) ⟨by simp [intC], by simp [intC], by simp [intC], by simp [intC], by simp [intC]⟩ rfl rfl (by show noText.size ≤ 1000000000; decide) (Row.nil _ _ _) (fun g hg => by cases hg) rfl rfl rfl hr hrl hrx (fun W2 cv rp F most h2 hc2 => right_int i h2)
theorem put_row (h : LawH w p units M W) (hc : Chg [] W W1) {wv : Value} {l : List Nat} (hwr : Row W1 22 1 wv l.length (u64V l)) (hws : ∀ g, wv.ownBlock = some g → W.heap.size ≤ g) (hl : l.length ≤ 1048576) (hx : ∀ x ∈ l, x < 18446744073709551616) (hs : l.all (soundB M) = true)
    {rv : Value} {rs : List Nat} (hr : Row W1 22 1 rv rs.length (u64V rs)) (hrl : rs.length ≤ 1000000000) (hrx : ∀ x ∈ rs, x < 18446744073709551616) :
    Calls Try.prog 39 #[.pointer (some ⟨p, 0, none⟩), .agg #[.int .i64 9, .bool false, .int .i64 0, .string noText, .slice none 0 0, wv, .int .u64 0, .int .i64 0, .int .i64 0], rv] W1 (PutPost w p units M (rowC l) rs) :=
  put_law h hc (rowC l) ⟨hl, hx, by simp [rowC], by simp [rowC], by simp [rowC]⟩ rfl rfl (by show noText.size ≤ 1000000000; decide) hwr hws rfl rfl rfl hr hrl hrx (fun W2 cv rp F most h2 hc2 => by
    have := right_row h2 (hwr.chg hc2 (by simp)) (by omega) hx
    rw [decide_eq_true hl, hs] at this
    exact this)
theorem LawH.at_hw (h : LawH w p units M W) {n : Nat} {m : MC} (hm : M[n]? = some (some m)) : atM M (hw n) = some m ∧ (celsOf M).at_ (hw n) = some n ∧ hw n < 18446744073709551616 := by
  obtain ⟨cv, rp, F, most, h1, _⟩ := h.ex
  have hn := (List.getElem?_eq_some_iff.1 hm).1
  have hs := h1.small
  have hh : hdl (hw n) = some n := hdl_hw (by omega)
  refine ⟨by unfold atM; rw [hh, Option.bind_some, hm]; rfl, atM_at.2 ⟨hh, m, hm⟩, by unfold hw; omega⟩
/-- A row that is made now of words. -/
theorem row_new (W : World) (l : List Nat) : Row (W.alloc (.cells (u64V l).toArray 22)) 22 1 (.slice (some ⟨W.heap.size, 0, none⟩) l.length l.length) l.length (u64V l) ∨ 9223372036854775807 < l.length := by
  by_cases c : l.length ≤ 9223372036854775807
  · left
    have hb : Blk (W.alloc (.cells (u64V l).toArray 22)) W.heap.size 22 (u64V l ++ []) := by rw [List.append_nil]; exact Blk.newL (u64V l) rfl
    exact Row.mk (rest := []) hb (by simp [u64V]) (Nat.le_refl _) c (by simp [u64V])
  · right; omega
theorem placed_nil {n : Nat} {m : MC} {M' : List (Option MC)} (h : Placed [] n m M') : n = 0 ∧ M' = [some m] := by
  cases h with
  | set h => simp at h
  | push h _ => exact ⟨h, rfl⟩
theorem placed_full {n : Nat} {m : MC} {M M' : List (Option MC)} (h : Placed M n m M') (hf : ∀ j : Nat, M[j]? ≠ some none) : n = M.length ∧ M' = M ++ [some m] := by
  cases h with
  | set h => exact absurd h (hf n)
  | push h _ => exact ⟨h, rfl⟩
theorem two_marks {m1 m2 : MC} {a : Nat} {R : List Nat} {B : List Bool} (h : LawH w p units [some m1, some m2] W) (h2 : m2.c.words = [hw 0, a]) (hR : hw 1 ∈ R) (hM : Marks [some m1, some m2] R B) : B = [true, true] := by
  have r1 : Rch (celsOf [some m1, some m2]) R 1 := .root hR (h.at_hw (n := 1) (m := m2) rfl).2.1
  have r0 : Rch (celsOf [some m1, some m2]) R 0 := .next r1 (by show hw 0 ∈ m2.c.refs; unfold Cel.refs; rw [h2]; simp) (h.at_hw (n := 0) (m := m1) rfl).2.1
  have b1 := (hM.2 1).2 r1
  have b0 := (hM.2 0).2 r0
  have hl := hM.1
  match B, hl with
  | [x, y], _ =>
    simp at b0 b1
    rw [b0, b1]
end
theorem sound_canon (M : List (Option MC)) : soundB M 9221120237041090560 = true := by unfold soundB; rw [show cls 9221120237041090560 = 1 by decide]; rfl
theorem sound_hw {M : List (Option MC)} {x : Nat} {m : MC} (hx : x < 18446744073709551616) (h : atM M x = some m) : soundB M x = true := by
  obtain ⟨n, hn, _⟩ := atM_some h
  unfold soundB
  rw [(cls_hdl hx).2 (by rw [hn]; rfl), h]
  rfl

set_option maxHeartbeats 8000000 in
set_option maxRecDepth 100000 in
theorem awake6_calls (w : World) : Calls Try.prog 37 #[] w fun e w' => e = .returned (.bool true) ∧ Chg [] w w' := by
  have CN := Mem.Aside.mk (new_law 6 (by decide) w)
  rw [show ((6 : Nat) : Int) = 6 from rfl] at CN
  go_enter Try.func37, Try.ntmps37
  go_upto_region 5 with (first
    | (go_at_call 38; (with_reducible refine CN.out.mono ?_); rintro e w1 ⟨p, rfl, h1⟩; have H1 := Mem.Aside.mk h1; have CP1 := Mem.Aside.mk (put_int h1 (Chg.refl _ _) 5 (rv := .slice none 0 0) (rs := []) (Row.nil _ _ _) (by simp) (by simp)); clear h1)
    | (go_at_call 39; (with_reducible refine CP1.out.mono ?_); intro e w2 hp; obtain ⟨m1, hm1, rfl, h2⟩ : ∃ m1 : MC, m1.c = intC 5 ∧ e = .returned (.tuple #[.int .u64 (hw 0 : Nat), .int .i64 0]) ∧ LawH w p 6 [some m1] w2 := (by
        rcases hp with ⟨M5, (⟨_, rfl⟩ | ⟨hlt, _⟩), n, m, M', hm, hP, he, hh⟩ | ⟨hlt, _⟩
        · obtain ⟨rfl, rfl⟩ := placed_nil hP
          exact ⟨m, hm, he, hh⟩
        · exact absurd hlt (by decide)
        · exact absurd hlt (by decide)); have H2 := Mem.Aside.mk h2; have HM1 := Mem.Aside.mk hm1; clear hp h2 hm1))
  have a1 := H2.out.at_hw (n := 0) (m := m1) rfl
  have hrA : Row ((w2.alloc (.cells #[.int .u64 (hw 0 : Nat), .int .u64 9221120237041090560] 22)).alloc (.cells #[.int .u64 (hw 0 : Nat)] 22)) 22 1 (.slice (some ⟨w2.heap.size, 0, none⟩) 2 2) [hw 0, 9221120237041090560].length (u64V [hw 0, 9221120237041090560]) :=
    (Row.mk (rest := []) (Blk.newL [.int .u64 (hw 0 : Nat), .int .u64 9221120237041090560] rfl) rfl (Nat.le_refl _) (by decide) rfl : Row (w2.alloc (.cells #[.int .u64 (hw 0 : Nat), .int .u64 9221120237041090560] 22)) 22 1 (.slice (some ⟨w2.heap.size, 0, none⟩) 2 2) 2 [.int .u64 (hw 0 : Nat), .int .u64 9221120237041090560]).alloc _
  have hrR : Row ((w2.alloc (.cells #[.int .u64 (hw 0 : Nat), .int .u64 9221120237041090560] 22)).alloc (.cells #[.int .u64 (hw 0 : Nat)] 22)) 22 1 (.slice (some ⟨w2.heap.size + 1, 0, none⟩) 1 1) [hw 0].length (u64V [hw 0]) :=
    Row.mk (rest := []) (Blk.newL [.int .u64 (hw 0 : Nat)] (by simp)) rfl (Nat.le_refl _) (by decide) rfl
  have CP2 := Mem.Aside.mk (put_row H2.out (((Chg.refl [] w2).alloc _).alloc _) hrA (fun g hg => by cases hg; exact Nat.le_refl _) (by simp) (by intro x hx; simp at hx; rcases hx with rfl | rfl; exact a1.2.2; decide) (by simp only [List.all_cons, List.all_nil, sound_canon, sound_hw a1.2.2 a1.1, Bool.and_self]) hrR (by simp) (by intro x hx; simp at hx; subst hx; exact a1.2.2))
  clear a1 hrA hrR
  go_upto_region 6 with (go_at_call 39; (with_reducible refine CP2.out.mono ?_); intro e w3 hp; obtain ⟨m2, hm2, rfl, h3⟩ : ∃ m2 : MC, m2.c = rowC [hw 0, 9221120237041090560] ∧ e = .returned (.tuple #[.int .u64 (hw 1 : Nat), .int .i64 0]) ∧ LawH w p 6 [some m1, some m2] w3 := (by
    have hu : usedOf [some m1] = 2 := by simp [usedOf, HM1.out, intC]
    rcases hp with ⟨M5, (⟨_, rfl⟩ | ⟨hlt, _⟩), n, m, M', hm, hP, he, hh⟩ | ⟨hlt, _⟩
    · obtain ⟨rfl, rfl⟩ := placed_full hP (fun j hj => by
        cases j with
        | zero => simp at hj
        | succ j => simp at hj)
      exact ⟨m, hm, he, hh⟩
    · rw [hu] at hlt; exact absurd hlt (by decide)
    · rw [hu] at hlt; exact absurd hlt (by decide)); have H3 := Mem.Aside.mk h3; have HM2 := Mem.Aside.mk hm2; clear hp h3 hm2)
  have b1 := H3.out.at_hw (n := 1) (m := m2) rfl
  have hrB : Row (w3.alloc (.cells #[.int .u64 (hw 1 : Nat)] 22)) 22 1 (.slice (some ⟨w3.heap.size, 0, none⟩) 1 1) [hw 1].length (u64V [hw 1]) := Row.mk (rest := []) (Blk.newL [.int .u64 (hw 1 : Nat)] rfl) rfl (Nat.le_refl _) (by decide) rfl
  have CP3 := Mem.Aside.mk (put_int H3.out ((Chg.refl [] w3).alloc _) 6 hrB (by simp) (by intro x hx; simp at hx; subst hx; exact b1.2.2))
  clear b1 hrB
  go_upto_region 7 with (go_at_call 39; (with_reducible refine CP3.out.mono ?_); intro e w4 hp; obtain ⟨rfl, h4⟩ : e = .returned (.tuple #[.int .u64 0, .int .i64 40]) ∧ LawH w p 6 [some m1, some m2] w4 := (by
    have hu : usedOf [some m1, some m2] = 5 := by simp [usedOf, HM1.out, HM2.out, intC, rowC]
    have hun : unitsOf (celsOf [some m1, some m2]) [true, true] = 5 := by simp [unitsOf, celsOf, Cells.need, HM1.out, HM2.out, intC, rowC, List.range_succ]
    have hsw : swK [true, true] [some m1, some m2].length [some m1, some m2] = [some m1, some m2] := by simp [swK]
    have hw2 : m2.c.words = [hw 0, 9221120237041090560] := by rw [HM2.out]; rfl
    rcases hp with ⟨M5, (⟨hle, _⟩ | ⟨hlt, B, hB, _, hle⟩), _⟩ | ⟨hlt, B, hB, _, he, hh⟩
    · rw [hu] at hle; exact absurd hle (by decide)
    · have := two_marks H3.out hw2 (by simp) hB
      rw [this, hun] at hle
      exact absurd hle (by decide)
    · have := two_marks H3.out hw2 (by simp) hB
      rw [this, hsw] at hh
      exact (show _ ∧ _ from ⟨he, hh⟩)); have H4 := Mem.Aside.mk h4; clear hp h4)
  have c0 := H4.out.at_hw (n := 0) (m := m1) rfl
  have c1 := H4.out.at_hw (n := 1) (m := m2) rfl
  have CG := Mem.Aside.mk (get_law H4.out c0.2.2 c0.1 (by rw [HM1.out]; rfl) (by rw [HM1.out]; rfl))
  rw [HM1.out] at CG
  simp only [argV, intC] at CG
  have HX1 := Mem.Aside.mk c1.2.2
  clear c0 c1
  go_upto_region 8 with (go_at_call 41; (with_reducible refine CG.out.mono ?_); rintro e w5 ⟨wv, rfl, hr5, h5, hc5, _⟩; obtain ⟨a5, c5, rfl⟩ := Row_form hr5; have H5 := Mem.Aside.mk h5; clear hr5 h5 hc5)
  have CRE := Mem.Aside.mk (fun (W6 : World) (hc : Chg [] w5 W6) (o : Obj) (ho : o = .cells #[.int .u64 (hw 1 : Nat)] 22) (k : Nat) (hk : k = W6.heap.size) => reach_law H5.out (hc.alloc o) (rv := .slice (some ⟨k, 0, none⟩) 1 1) (rs := [hw 1]) (by rw [ho, hk]; exact Row.mk (rest := []) (Blk.newL [.int .u64 (hw 1 : Nat)] rfl) rfl (Nat.le_refl _) (by decide) rfl) (by simp) (by intro x hx; simp at hx; subst hx; exact HX1.out))
  go_wp2_with (go_at_call 40; (with_reducible refine (CRE.out _ ((Chg.refl [] w5).alloc _) _ rfl (w5.heap.size + 1) (by simp)).mono ?_); rintro e w7 ⟨B, rfl, hB, h7, hc7⟩; have hw2 : m2.c.words = [hw 0, 9221120237041090560] := (by rw [HM2.out]; rfl); have hBt := two_marks H5.out hw2 (by simp) hB; have hun : unitsOf (celsOf [some m1, some m2]) B = 5 := (by rw [hBt]; simp [unitsOf, celsOf, Cells.need, HM1.out, HM2.out, intC, rowC, List.range_succ]); rw [hun]; have H7 := Mem.Aside.mk h7; clear hB h7 hc7 hw2 hBt hun)
  go_ret
  exact ⟨rfl, H7.out.chg⟩
end Go.Proofs.Ytgimcpnelogadaa.Hp
