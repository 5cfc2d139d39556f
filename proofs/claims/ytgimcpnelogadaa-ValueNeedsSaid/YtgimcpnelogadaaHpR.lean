/- Chapter 6: Collect; a heap with its foot (for a law that has two). -/
import Derived.Test.YtgimcpnelogadaaBsC
namespace Go.Proofs.Ytgimcpnelogadaa.Hp
open Go.RowKit Go.Proofs.Ytgimcpnelogadaa.Mem Go.Proofs.Ytgimcpnelogadaa.Sto Go.Proofs.Ytgimcpnelogadaa.Wd
set_option linter.unusedVariables false
set_option linter.unusedSimpArgs false
section
variable {w w' : World} {p units rp most : Nat} {M : List (Option MC)} {cv : Value} {F : List Nat}
set_option maxHeartbeats 8000000 in
set_option maxRecDepth 100000 in
theorem collect_calls (h : HeapAt w p units (usedOf M) M cv rp F most) (hM : WordsOk M) (hext : ∀ m, some m ∈ M → m.c.ext ≤ 1000000000) {rv : Value} {rs : List Nat} (hr : Row w 22 1 rv rs.length (u64V rs)) (hl : rs.length ≤ 1000000000) (hx : ∀ x ∈ rs, x < 18446744073709551616) :
    Calls Try.prog 42 #[.pointer (some ⟨p, 0, none⟩), rv] w fun e w' => e = .returned (.tuple #[]) ∧ ∃ B, Marks M rs B ∧ HeapAt w' p units (usedOf (swK B M.length M)) (swK B M.length M) cv rp F most ∧ Chg (hfoot p cv M F) w w' := by
  have hL : Lists (w.alloc (.cells #[rv] 58)) (.slice (some ⟨w.heap.size, 0, none⟩) 1 1) [(rv, rs)] :=
    ⟨Row.mk (rest := []) (Blk.newL [_] (by obtain ⟨a, c, rfl⟩ := Row_form hr; rfl)) rfl (Nat.le_refl _) (by decide) rfl, fun q hq => by simp at hq; subst hq; exact hr.alloc _, fun q hq => by simp at hq; subst hq; exact ⟨hl, hx⟩, by simp⟩
  have CR := Mem.Aside.mk (reached_calls (h.chg ((Chg.refl [] w).alloc _) (by simp)) hM hL)
  simp only [List.flatMap_cons, List.flatMap_nil, List.append_nil] at CR
  obtain ⟨ar, cr, rfl⟩ := Row_form hr
  have H := Mem.Aside.mk h
  have HEXT := Mem.Aside.mk hext
  clear h hr hx hL hext
  go_enter Try.func42, Try.ntmps42
  go_wp2_with (first
    | (go_at_call 82; (with_reducible refine CR.out.mono ?_); rintro e w4 ⟨mv, B, rfl, hBl, hBr, hBm, hc4, hBf⟩; obtain ⟨am, cm, rfl⟩ := Row_form hBr; have HMARK : Mem.Aside (Marks M rs B) := ⟨⟨hBl, hBm⟩⟩; have HC4 := Mem.Aside.mk (((Chg.refl [] w).alloc (.cells #[.slice ar rs.length cr] 58)).then hc4 (by simp)); have CS := Mem.Aside.mk (sweep_calls (H.out.chg HC4.out (by simp)) hBl hBr (fun g hg hm => by have := H.out.lt g hm; have := hBf g hg; have h9 := ((Chg.refl [] w).alloc (.cells #[.slice ar rs.length cr] 58)).size; omega) HEXT.out); clear hBl hBr hBm hc4 hBf)
    | (go_at_call 83; (with_reducible refine CS.out.mono ?_); rintro e w5 ⟨rfl, h5, hc5⟩; have H5 := Mem.Aside.mk h5; have HC5 := Mem.Aside.mk ((HC4.out.mono (F := []) (G := hfoot p cv M F) (by simp)).then hc5 (fun x hx => .inl hx)); clear h5 hc5))
  refine bodyPost_end (results_none rfl _ _ _) rfl ?_
  exact ⟨rfl, B, HMARK.out, H5.out, HC5.out⟩
end
/-- A heap of the cells M; G is all that it lies in. -/
structure LawG (p units : Nat) (M : List (Option MC)) (G : List Nat) (W : World) : Prop where
  ex : ∃ cv rp F most, HeapAt W p units (usedOf M) M cv rp F most ∧ G = hfoot p cv M F
  good : ∀ m, some m ∈ M → GoodC m.c
section
variable {w W W' W1 : World} {p units : Nat} {M : List (Option MC)} {G : List Nat}
theorem LawG.lt (h : LawG p units M G W) : ∀ k ∈ G, k < W.heap.size := by
  obtain ⟨cv, rp, F, most, h1, rfl⟩ := h.ex
  exact h1.lt
theorem LawG.chg (h : LawG p units M G W) {X : List Nat} (hc : Chg X W W') (hX : ∀ k ∈ G, k ∉ X) : LawG p units M G W' := by
  obtain ⟨cv, rp, F, most, h1, rfl⟩ := h.ex
  exact ⟨⟨cv, rp, F, most, h1.chg hc hX, rfl⟩, h.good⟩
theorem new_g (n : Nat) (hn : n ≤ 1048576) (w : World) : Calls Try.prog 38 #[.int .i64 (n : Int)] w fun e w' => ∃ p G, e = .returned (.tuple #[.pointer (some ⟨p, 0, none⟩), .int .i64 0]) ∧ LawG p n [] G w' ∧ Chg [] w w' ∧ ∀ k ∈ G, w.heap.size ≤ k := by
  refine (hnew_calls n hn w).mono ?_
  rintro e w' ⟨p, rp, F, rfl, h1, h2, h3⟩
  exact ⟨p, _, rfl, ⟨⟨_, rp, F, 0, h1, rfl⟩, by simp⟩, h2, h3⟩
theorem reach_g (h : LawG p units M G W) {rv : Value} {rs : List Nat} (hr : Row W 22 1 rv rs.length (u64V rs)) (hl : rs.length ≤ 1000000000) (hx : ∀ x ∈ rs, x < 18446744073709551616) :
    Calls Try.prog 40 #[.pointer (some ⟨p, 0, none⟩), rv] W fun e w' => ∃ B : List Bool, e = .returned (.int .i64 (unitsOf (celsOf M) B : Nat)) ∧ Marks M rs B ∧ Chg [] W w' := by
  obtain ⟨cv, rp, F, most, h1, rfl⟩ := h.ex
  refine (reach_calls h1 (h1.wordsOk h.good) hr hl hx).mono ?_
  rintro e w' ⟨B, he, hb1, hb2, hc2⟩
  exact ⟨B, he, ⟨hb1, hb2⟩, hc2⟩
theorem collect_g (h : LawG p units M G W) {rv : Value} {rs : List Nat} (hr : Row W 22 1 rv rs.length (u64V rs)) (hl : rs.length ≤ 1000000000) (hx : ∀ x ∈ rs, x < 18446744073709551616) :
    Calls Try.prog 42 #[.pointer (some ⟨p, 0, none⟩), rv] W fun e w' => e = .returned (.tuple #[]) ∧ ∃ B G', Marks M rs B ∧ LawG p units (swK B M.length M) G' w' ∧ Chg G W w' ∧ ∀ k ∈ G', k ∈ G := by
  obtain ⟨cv, rp, F, most, h1, rfl⟩ := h.ex
  refine (collect_calls h1 (h1.wordsOk h.good) (fun m hm => (h.good m hm).ext) hr hl hx).mono ?_
  rintro e w' ⟨rfl, B, hB, hh, hc⟩
  exact ⟨rfl, B, _, hB, ⟨⟨cv, rp, F, most, hh, rfl⟩, fun x hx => h.good x (sw_mem hx)⟩, hc, fun k hk => hfoot_sub (fun x hx => sw_mem hx) k hk⟩
/-- What Put of a row answers, the foot told. -/
def PutG (W : World) (p units : Nat) (M : List (Option MC)) (G : List Nat) (c : Cel) (rs : List Nat) (e : Ending) (w' : World) : Prop :=
  Chg G W w' ∧ ∃ G', (∀ k ∈ G', k ∈ G ∨ W.heap.size ≤ k) ∧
  ((∃ M5, ((usedOf M + c.need ≤ units ∧ M5 = M) ∨ (units < usedOf M + c.need ∧ ∃ B, Marks M (rs ++ (c.words ++ [c.base])) B ∧ M5 = swK B M.length M ∧ unitsOf (celsOf M) B + c.need ≤ units)) ∧
    ∃ n m M', m.c = c ∧ Placed M5 n m M' ∧ e = .returned (.tuple #[.int .u64 (hw n : Nat), .int .i64 0]) ∧ LawG p units M' G' w') ∨
  (units < usedOf M + c.need ∧ ∃ B, Marks M (rs ++ (c.words ++ [c.base])) B ∧ units < unitsOf (celsOf M) B + c.need ∧ e = .returned (.tuple #[.int .u64 0, .int .i64 40]) ∧ LawG p units (swK B M.length M) G' w'))
theorem put_row_g (h : LawG p units M G W) {wv : Value} {l : List Nat} (hwr : Row W 22 1 wv l.length (u64V l)) (hws : ∀ g, wv.ownBlock = some g → g ∉ G) (hl : l.length ≤ 1048576) (hx : ∀ x ∈ l, x < 18446744073709551616) (hs : l.all (soundB M) = true)
    {rv : Value} {rs : List Nat} (hr : Row W 22 1 rv rs.length (u64V rs)) (hrl : rs.length ≤ 1000000000) (hrx : ∀ x ∈ rs, x < 18446744073709551616) :
    Calls Try.prog 39 #[.pointer (some ⟨p, 0, none⟩), .agg #[.int .i64 9, .bool false, .int .i64 0, .string noText, .slice none 0 0, wv, .int .u64 0, .int .i64 0, .int .i64 0], rv] W (PutG W p units M G (rowC l) rs) := by
  obtain ⟨cv, rp, F, most, h1, rfl⟩ := h.ex
  have hg : GoodC (rowC l) := ⟨hl, hx, by simp [rowC], by simp [rowC], by simp [rowC]⟩
  refine (put_plain h1 (h1.wordsOk h.good) (fun m hm => ⟨(h.good m hm).ext, (h.good m hm).need⟩) (rowC l) rfl rfl (by show noText.size ≤ 1000000000; decide) hwr hl hx hws hg.base rfl rfl rfl (by show 1 + l.length ≤ 2000000000; omega) hr hrl hrx (fun W2 hc2 => by
    have := right_row (h1.chg hc2 (by simp)) (hwr.chg hc2 (by simp)) (by omega) hx
    rw [decide_eq_true hl, hs] at this
    exact this)).mono ?_
  rintro e w' (⟨M5, hM5, n, m, M', cv', hm, hP, he, hh, hch, hf⟩ | ⟨hlt, B, hB, hu, he, hh, hch⟩)
  · refine ⟨hch, hfoot p cv' M' F, hf, .inl ⟨M5, hM5, n, m, M', hm, hP, he, ⟨cv', rp, F, most, hh, rfl⟩, fun x hx => ?_⟩⟩
    rcases hP.mem.1 hx with rfl | hx
    · rw [hm]; exact hg
    · refine h.good x ?_
      rcases hM5 with ⟨_, e⟩ | ⟨_, B, _, e, _⟩
      · rw [← e]; exact hx
      · rw [e] at hx; exact sw_mem hx
  · exact ⟨hch, hfoot p cv (swK B M.length M) F, fun k hk => .inl (hfoot_sub (fun x hx => sw_mem hx) k hk), .inr ⟨hlt, B, hB, hu, he, ⟨cv, rp, F, most, hh, rfl⟩, fun x hx => h.good x (sw_mem hx)⟩⟩
end
end Go.Proofs.Ytgimcpnelogadaa.Hp
