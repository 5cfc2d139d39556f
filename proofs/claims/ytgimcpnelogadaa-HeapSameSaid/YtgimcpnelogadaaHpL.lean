/- Chapter 6: a heap as a law has it: Put, Reach, Get over it. -/
import Derived.Test.YtgimcpnelogadaaHpK
namespace Go.Proofs.Ytgimcpnelogadaa.Hp
open Go.RowKit Go.Proofs.Ytgimcpnelogadaa.Mem Go.Proofs.Ytgimcpnelogadaa.Sto Go.Proofs.Ytgimcpnelogadaa.Wd
set_option linter.unusedVariables false
set_option linter.unusedSimpArgs false

/-- Of a cell what every one keeps. -/
structure GoodC (c : Cel) : Prop where
  len : c.words.length ≤ 1048576
  words : ∀ x ∈ c.words, x < 18446744073709551616
  base : c.base < 18446744073709551616
  ext : c.ext ≤ 1000000000
  need : 1 ≤ c.need
/-- A heap of the cells M that a law (begun at w) has made. -/
structure LawH (w : World) (p units : Nat) (M : List (Option MC)) (W : World) : Prop where
  ex : ∃ cv rp F most, HeapAt W p units (usedOf M) M cv rp F most ∧ ∀ k ∈ hfoot p cv M F, w.heap.size ≤ k
  chg : Chg [] w W
  good : ∀ m, some m ∈ M → GoodC m.c
section
variable {w W W' : World} {p units : Nat} {M : List (Option MC)}
theorem LawH.same (h : LawH w p units M W) (hc : Chg [] W W') : LawH w p units M W' := by
  obtain ⟨cv, rp, F, most, h1, h2⟩ := h.ex
  exact ⟨⟨cv, rp, F, most, h1.chg hc (by simp), h2⟩, h.chg.then hc (by simp), h.good⟩
theorem HeapAt.wordsOk {cv : Value} {rp most : Nat} {F : List Nat} (h : HeapAt W p units (usedOf M) M cv rp F most) (hg : ∀ m, some m ∈ M → GoodC m.c) : WordsOk M :=
  ⟨fun m hm => ⟨(hg m hm).len, (hg m hm).words, (hg m hm).base⟩, fun B => by have := units_le M B; have := h.small; omega⟩
theorem new_law (n : Nat) (hn : n ≤ 1048576) (w : World) : Calls Try.prog 38 #[.int .i64 (n : Int)] w fun e w' => ∃ p, e = .returned (.tuple #[.pointer (some ⟨p, 0, none⟩), .int .i64 0]) ∧ LawH w p n [] w' := by
  refine (hnew_calls n hn w).mono ?_
  rintro e w' ⟨p, rp, F, rfl, h1, h2, h3⟩
  exact ⟨p, rfl, ⟨⟨_, rp, F, 0, h1, h3⟩, h2, by simp⟩⟩
theorem put_law (h : LawH w p units M W) {W1 : World} (hc : Chg [] W W1) (c : Cel) (hg : GoodC c) (hv : c.view = false) (hk : widthN c.kind = 0) (htx : c.text.size ≤ 1000000000) {wv : Value} (hwr : Row W1 22 1 wv c.words.length (u64V c.words))
    (hws : ∀ g, wv.ownBlock = some g → W.heap.size ≤ g) (hbs : c.bytes = []) (hex : c.ext = 0) (hneed : c.need = needN false c.kind c.text.size 0 c.words.length)
    {rv : Value} {rs : List Nat} (hr : Row W1 22 1 rv rs.length (u64V rs)) (hrl : rs.length ≤ 1000000000) (hrx : ∀ x ∈ rs, x < 18446744073709551616)
    (hR : ∀ W2 cv rp F most, HeapAt W2 p units (usedOf M) M cv rp F most → Chg [] W1 W2 → Calls Try.prog 81 #[.pointer (some ⟨p, 0, none⟩), argV c (.slice none 0 0) wv] W2 fun e w' => e = .returned (.bool true) ∧ Chg [] W2 w') :
    Calls Try.prog 39 #[.pointer (some ⟨p, 0, none⟩), argV c (.slice none 0 0) wv, rv] W1 fun e w' =>
      (∃ M5, ((usedOf M + c.need ≤ units ∧ M5 = M) ∨ (units < usedOf M + c.need ∧ ∃ B, Marks M (rs ++ (c.words ++ [c.base])) B ∧ M5 = swK B M.length M ∧ unitsOf (celsOf M) B + c.need ≤ units)) ∧
        ∃ n m M', m.c = c ∧ Placed M5 n m M' ∧ e = .returned (.tuple #[.int .u64 (hw n : Nat), .int .i64 0]) ∧ LawH w p units M' w') ∨
      (units < usedOf M + c.need ∧ ∃ B, Marks M (rs ++ (c.words ++ [c.base])) B ∧ units < unitsOf (celsOf M) B + c.need ∧ e = .returned (.tuple #[.int .u64 0, .int .i64 40]) ∧ LawH w p units (swK B M.length M) w') := by
  obtain ⟨cv, rp, F, most, h1, h2⟩ := h.ex
  have hcw := h.chg.then hc (by simp)
  have h1' := h1.chg hc (by simp)
  have hnd : c.need ≤ 2000000000 := by
    have := hg.len
    rw [hneed]
    unfold needN
    repeat (first | omega | split)
  refine (put_plain h1' (h1.wordsOk h.good) (fun m hm => ⟨(h.good m hm).ext, (h.good m hm).need⟩) c hv hk htx hwr hg.len hg.words (fun g hgo hm => by have := h1.lt g hm; have := hws g hgo; omega) hg.base hbs hex hneed hnd hr hrl hrx (fun W2 hc2 => hR W2 cv rp F most (h1'.chg hc2 (by simp)) hc2)).mono ?_
  rintro e w' (⟨M5, hM5, n, m, M', cv', hm, hP, he, hh, hch, hf⟩ | ⟨hlt, B, hB, hu, he, hh, hch⟩)
  · refine .inl ⟨M5, hM5, n, m, M', hm, hP, he, ⟨cv', rp, F, most, hh, fun k hk => ?_⟩, hcw.then hch (fun x hx => .inr (h2 x hx)), fun x hx => ?_⟩
    · rcases hf k hk with e | e
      · exact h2 k e
      · have := hcw.size; omega
    · rcases hP.mem.1 hx with rfl | hx
      · rw [hm]; exact hg
      · refine h.good x ?_
        rcases hM5 with ⟨_, e⟩ | ⟨_, B, _, e, _⟩
        · rw [← e]; exact hx
        · rw [e] at hx; exact sw_mem hx
  · exact .inr ⟨hlt, B, hB, hu, he, ⟨cv, rp, F, most, hh, fun k hk => h2 k (hfoot_sub (fun x hx => sw_mem hx) k hk)⟩, hcw.then hch (fun x hx => .inr (h2 x hx)), fun x hx => h.good x (sw_mem hx)⟩
theorem reach_law (h : LawH w p units M W) {W1 : World} (hc : Chg [] W W1) {rv : Value} {rs : List Nat} (hr : Row W1 22 1 rv rs.length (u64V rs)) (hl : rs.length ≤ 1000000000) (hx : ∀ x ∈ rs, x < 18446744073709551616) :
    Calls Try.prog 40 #[.pointer (some ⟨p, 0, none⟩), rv] W1 fun e w' => ∃ B : List Bool, e = .returned (.int .i64 (unitsOf (celsOf M) B : Nat)) ∧ Marks M rs B ∧ LawH w p units M w' ∧ Chg [] W1 w' := by
  obtain ⟨cv, rp, F, most, h1, h2⟩ := h.ex
  refine (reach_calls (h1.chg hc (by simp)) (h1.wordsOk h.good) hr hl hx).mono ?_
  rintro e w' ⟨B, he, hb1, hb2, hc2⟩
  exact ⟨B, he, ⟨hb1, hb2⟩, (h.same hc).same hc2, hc2⟩
theorem get_law (h : LawH w p units M W) {x : Nat} (hx : x < 18446744073709551616) {m : MC} (hm : atM M x = some m) (hv : m.c.view = false) (hk : widthN m.c.kind = 0) :
    Calls Try.prog 41 #[.pointer (some ⟨p, 0, none⟩), .int .u64 (x : Int)] W fun e w' => ∃ wv, e = .returned (.tuple #[argV m.c (.slice none 0 0) wv, .int .i64 0]) ∧ Row w' 22 1 wv m.c.words.length (u64V m.c.words) ∧ LawH w p units M w' ∧ Chg [] W w' ∧ ∀ g, wv.ownBlock = some g → W.heap.size ≤ g := by
  obtain ⟨cv, rp, F, most, h1, h2⟩ := h.ex
  have := (h.good m (atM_mem hm)).len
  refine (get_plain h1 hx hm hv hk (by omega)).mono ?_
  rintro e w' ⟨wv, he, hr, hc, hf⟩
  exact ⟨wv, he, hr, h.same hc, hc, hf⟩
end
end Go.Proofs.Ytgimcpnelogadaa.Hp
