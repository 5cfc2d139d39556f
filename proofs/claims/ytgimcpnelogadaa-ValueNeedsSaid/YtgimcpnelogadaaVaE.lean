/- Chapter 6: a heap of leaves that a law keeps, with its foot: Put, Reach, Collect, Shape, Plain. -/
import Derived.Test.YtgimcpnelogadaaHpR
import Derived.Test.YtgimcpnelogadaaVaC
namespace Go.Proofs.Ytgimcpnelogadaa.Hp
open Go.RowKit Go.Proofs.Ytgimcpnelogadaa.Mem Go.Proofs.Ytgimcpnelogadaa.Sto Go.Proofs.Ytgimcpnelogadaa.Wd
set_option linter.unusedVariables false
set_option linter.unusedSimpArgs false
/-- What the bytes of a buffer take is within its need. -/
def GoodB (c : Cel) : Prop := c.buf = true → up c.bytes.length ≤ 8 * c.need
/-- A heap in which the cells L are kept; all its cells are leaves; G: all that it lies in. -/
structure HeapK (p units : Nat) (L : List (Nat × Cel)) (G : List Nat) (W : World) : Prop where
  ex : ∃ M, LawG p units M G W ∧ KeptC M L ∧ ∀ m, some m ∈ M → GoodB m.c
section
variable {w W W' W1 : World} {p units : Nat} {L K : List (Nat × Cel)} {G : List Nat}
theorem LawG.len {M : List (Option MC)} (h : LawG p units M G W) : M.length ≤ 281474976710656 := by
  obtain ⟨cv, rp, F, most, h1, _⟩ := h.ex
  have := h1.small
  omega
theorem HeapK.lt (h : HeapK p units L G W) : ∀ k ∈ G, k < W.heap.size := by
  obtain ⟨M, h1, _⟩ := h.ex
  exact h1.lt
theorem HeapK.chg (h : HeapK p units L G W) {X : List Nat} (hc : Chg X W W') (hX : ∀ k ∈ G, k ∉ X) : HeapK p units L G W' := by
  obtain ⟨M, h1, h2⟩ := h.ex
  exact ⟨M, h1.chg hc hX, h2⟩
theorem HeapK.sub (h : HeapK p units L G W) (hs : K.Sublist L) : HeapK p units K G W := by
  obtain ⟨M, h1, h2, h3⟩ := h.ex
  exact ⟨M, h1, h2.sub hs, h3⟩
theorem HeapK.perm (h : HeapK p units L G W) (hs : L.Perm K) : HeapK p units K G W := by
  obtain ⟨M, h1, h2, h3⟩ := h.ex
  exact ⟨M, h1, h2.perm hs, h3⟩
theorem new_k (n : Nat) (hn : n ≤ 1048576) (w : World) : Calls Try.prog 38 #[.int .i64 (n : Int)] w fun e w' => ∃ p G, e = .returned (.tuple #[.pointer (some ⟨p, 0, none⟩), .int .i64 0]) ∧ HeapK p n [] G w' ∧ Chg [] w w' ∧ ∀ k ∈ G, w.heap.size ≤ k := by
  refine (new_g n hn w).mono ?_
  rintro e w' ⟨p, G, he, h1, h2, h3⟩
  exact ⟨p, G, he, ⟨[], h1, keptC_nil, by simp⟩, h2, h3⟩
theorem HeapK.word (h : HeapK p units L G W) {q : Nat × Cel} (hq : q ∈ L) : hw q.1 < 18446744073709551616 ∧ hdl (hw q.1) = some q.1 := by
  obtain ⟨M, h1, h2, _⟩ := h.ex
  have := h2.lt h1.len hq
  obtain ⟨cv, rp, F, most, h3, _⟩ := h1.ex
  have := h3.small
  exact ⟨by unfold hw; omega, hdl_hw (by omega)⟩
theorem HeapK.at_ (h : HeapK p units L G W) {q : Nat × Cel} (hq : q ∈ L) : ∃ M m cv rp F most, HeapAt W p units (usedOf M) M cv rp F most ∧ atM M (hw q.1) = some m ∧ m.c.strip = q.2 ∧ GoodC m.c := by
  obtain ⟨h0, h0'⟩ := h.word hq
  obtain ⟨M, h1, h2, _⟩ := h.ex
  obtain ⟨m, hm, hc⟩ := h2.at_ q hq
  obtain ⟨cv, rp, F, most, h3, _⟩ := h1.ex
  exact ⟨M, m, cv, rp, F, most, h3, by unfold atM; rw [h0', Option.bind_some, hm]; rfl, hc, h1.good m (List.mem_of_getElem? hm)⟩
/-- What Put answers of a leaf. -/
def PutK (W : World) (p units : Nat) (L : List (Nat × Cel)) (G : List Nat) (c : Cel) (e : Ending) (w' : World) : Prop :=
  Chg G W w' ∧ ∃ G', (∀ k ∈ G', k ∈ G ∨ W.heap.size ≤ k) ∧
  ((needL L + c.need ≤ units ∧ ∃ n, e = .returned (.tuple #[.int .u64 (hw n : Nat), .int .i64 0]) ∧ HeapK p units (L ++ [(n, c)]) G' w') ∨ (units < needL L + c.need ∧ e = .returned (.tuple #[.int .u64 0, .int .i64 40]) ∧ HeapK p units L G' w'))
theorem put_k (h : HeapK p units L G W) (c : Cel) (hg : GoodC c) (hv : c.view = false) (hk : widthN c.kind = 0) (hlf : c.leaf) (hb0 : c.base = 0) (htx : c.text.size ≤ 1000000000) {wv : Value} (hwr : Row W 22 1 wv c.words.length (u64V c.words))
    (hws : ∀ g, wv.ownBlock = some g → g ∉ G) (hbs : c.bytes = []) (hex : c.ext = 0) (hneed : c.need = needN false c.kind c.text.size 0 c.words.length)
    {rv : Value} {rs : List Nat} (hr : Row W 22 1 rv rs.length (u64V rs)) (hrl : rs.length ≤ 1000000000) (hrx : ∀ x ∈ rs, x < 18446744073709551616) (hR1 : ∀ x ∈ rs, x ∈ hwC L ∨ hdl x = none) (hR2 : ∀ x ∈ hwC L, x ∈ rs)
    (hR : ∀ W2 M cv rp F most, HeapAt W2 p units (usedOf M) M cv rp F most → Chg [] W W2 → Calls Try.prog 81 #[.pointer (some ⟨p, 0, none⟩), argV c (.slice none 0 0) wv] W2 fun e w' => e = .returned (.bool true) ∧ Chg [] W2 w') :
    Calls Try.prog 39 #[.pointer (some ⟨p, 0, none⟩), argV c (.slice none 0 0) wv, rv] W (PutK W p units L G c) := by
  obtain ⟨M, h0, hkp, hB⟩ := h.ex
  obtain ⟨cv, rp, F, most, h1, rfl⟩ := h0.ex
  have hnd : c.need ≤ 2000000000 := by
    have := hg.len
    rw [hneed]
    unfold needN
    repeat (first | omega | split)
  refine (put_plain h1 (h1.wordsOk h0.good) (fun m hm => ⟨(h0.good m hm).ext, (h0.good m hm).need⟩) c hv hk htx hwr hg.len hg.words hws hg.base hbs hex hneed hnd hr hrl hrx (fun W2 hc2 => hR W2 M cv rp F most (h1.chg hc2 (by simp)) hc2)).mono ?_
  intro e w' hp
  have hstrip : c.strip = c := by
    cases c
    simp only at hex
    subst hex
    rfl
  have key := kept_put (units := units) (X := fun M' => ∃ G', (∀ k ∈ G', k ∈ hfoot p cv M F ∨ W.heap.size ≤ k) ∧ LawG p units M' G' w' ∧ ∀ m, some m ∈ M' → GoodB m.c) (Y := fun n => e = .returned (.tuple #[.int .u64 (hw n : Nat), .int .i64 0])) (Z := e = .returned (.tuple #[.int .u64 0, .int .i64 40])) hkp h0.len hlf hv hb0 hR1 hR2 (by
    rcases hp with ⟨M5, hM5, n, m, M', cv', hm, hP, he, hh, hch, hf⟩ | ⟨hlt, B, hB', hu, he, hh, hch⟩
    · have hmem : ∀ x, some x ∈ M5 → some x ∈ M := fun x hx => by
        rcases hM5 with ⟨_, e⟩ | ⟨_, B, _, e, _⟩
        · rw [← e]; exact hx
        · rw [e] at hx; exact sw_mem hx
      refine .inl ⟨M5, hM5, n, m, M', by rw [hm, hstrip], hP, he, hfoot p cv' M' F, hf, ⟨⟨cv', rp, F, most, hh, rfl⟩, fun x hx => ?_⟩, fun x hx => ?_⟩
      · rcases hP.mem.1 hx with rfl | hx
        · rw [hm]; exact hg
        · exact h0.good x (hmem x hx)
      · rcases hP.mem.1 hx with rfl | hx
        · intro hb
          rw [hm] at hb
          unfold Cel.buf at hb
          rw [hk] at hb
          simp at hb
        · exact hB x (hmem x hx)
    · exact .inr ⟨hlt, B, hB', hu, he, hfoot p cv (swK B M.length M) F, fun k hk => .inl (hfoot_sub (fun x hx => sw_mem hx) k hk), ⟨⟨cv, rp, F, most, hh, rfl⟩, fun x hx => h0.good x (sw_mem hx)⟩, fun x hx => hB x (sw_mem hx)⟩)
  have hch : Chg (hfoot p cv M F) W w' := by
    rcases hp with ⟨_, _, _, _, _, _, _, _, _, _, hch, _⟩ | ⟨_, _, _, _, _, _, hch⟩ <;> exact hch
  rcases key with ⟨h2, n, M', h3, ⟨G', h4, h5, h6⟩, h7⟩ | ⟨h2, h3, M', ⟨G', h4, h5, h6⟩, h7⟩
  · exact ⟨hch, G', h4, .inl ⟨h2, n, h3, ⟨M', h5, h7, h6⟩⟩⟩
  · exact ⟨hch, G', h4, .inr ⟨h2, h3, ⟨M', h5, h7, h6⟩⟩⟩
theorem put_int_k (h : HeapK p units L G W) (i : Int) {rv : Value} {rs : List Nat} (hr : Row W 22 1 rv rs.length (u64V rs)) (hrl : rs.length ≤ 1000000000) (hrx : ∀ x ∈ rs, x < 18446744073709551616) (hR1 : ∀ x ∈ rs, x ∈ hwC L ∨ hdl x = none) (hR2 : ∀ x ∈ hwC L, x ∈ rs) :
    Calls Try.prog 39 #[.pointer (some ⟨p, 0, none⟩), .agg #[.int .i64 2, .bool false, .int .i64 i, .string noText, .slice none 0 0, .slice none 0 0, .int .u64 0, .int .i64 0, .int .i64 0], rv] W (PutK W p units L G (intC i)) :=
  put_k h (intC i) ⟨by simp [intC], by simp [intC], by simp [intC], by simp [intC], by simp [intC]⟩ rfl rfl (by simp [Cel.leaf, Cel.refs, intC]) rfl (by show noText.size ≤ 1000000000; decide) (Row.nil _ _ _) (fun g hg => by cases hg) rfl rfl rfl hr hrl hrx hR1 hR2 (fun W2 M cv rp F most h2 hc2 => right_int i h2)
theorem put_text_k (h : HeapK p units L G W) (s : ByteArray) (hs : s.size ≤ 8388608) {rv : Value} {rs : List Nat} (hr : Row W 22 1 rv rs.length (u64V rs)) (hrl : rs.length ≤ 1000000000) (hrx : ∀ x ∈ rs, x < 18446744073709551616) (hR1 : ∀ x ∈ rs, x ∈ hwC L ∨ hdl x = none) (hR2 : ∀ x ∈ hwC L, x ∈ rs) :
    Calls Try.prog 39 #[.pointer (some ⟨p, 0, none⟩), .agg #[.int .i64 4, .bool false, .int .i64 0, .string s, .slice none 0 0, .slice none 0 0, .int .u64 0, .int .i64 0, .int .i64 0], rv] W (PutK W p units L G (textC s)) :=
  put_k h (textC s) ⟨by simp [textC], by simp [textC], by simp [textC], by simp [textC], by simp [textC]⟩ rfl rfl (by simp [Cel.leaf, Cel.refs, textC]) rfl (by show s.size ≤ 1000000000; omega) (Row.nil _ _ _) (fun g hg => by cases hg) rfl rfl rfl hr hrl hrx hR1 hR2 (fun W2 M cv rp F most h2 hc2 => right_text s hs p W2)
/-- A row of words that lead nowhere. -/
theorem put_row_k (h : HeapK p units L G W) {wv : Value} {l : List Nat} (hwr : Row W 22 1 wv l.length (u64V l)) (hws : ∀ g, wv.ownBlock = some g → g ∉ G) (hl : l.length ≤ 1048576) (hx : ∀ x ∈ l, x < 18446744073709551616 ∧ hdl x = none) (hs : ∀ M, l.all (soundB M) = true)
    {rv : Value} {rs : List Nat} (hr : Row W 22 1 rv rs.length (u64V rs)) (hrl : rs.length ≤ 1000000000) (hrx : ∀ x ∈ rs, x < 18446744073709551616) (hR1 : ∀ x ∈ rs, x ∈ hwC L ∨ hdl x = none) (hR2 : ∀ x ∈ hwC L, x ∈ rs) :
    Calls Try.prog 39 #[.pointer (some ⟨p, 0, none⟩), .agg #[.int .i64 9, .bool false, .int .i64 0, .string noText, .slice none 0 0, wv, .int .u64 0, .int .i64 0, .int .i64 0], rv] W (PutK W p units L G (rowC l)) :=
  put_k h (rowC l) ⟨hl, fun x hx' => (hx x hx').1, by simp [rowC], by simp [rowC], by simp [rowC]⟩ rfl rfl (fun x hx' => (hx x (by simpa [Cel.refs, rowC] using hx')).2) rfl (by show noText.size ≤ 1000000000; decide) hwr hws rfl rfl rfl hr hrl hrx hR1 hR2 (fun W2 M cv rp F most h2 hc2 => by
    have := right_row h2 (hwr.chg hc2 (by simp)) (by omega) (fun x hx' => (hx x hx').1)
    rw [decide_eq_true hl, hs M] at this
    exact this)
theorem reach_k (h : HeapK p units L G W) {rv : Value} {rs : List Nat} (hr : Row W 22 1 rv rs.length (u64V rs)) (hrl : rs.length ≤ 1000000000) (hrx : ∀ x ∈ rs, x < 18446744073709551616) (hR1 : ∀ x ∈ rs, x ∈ hwC L ∨ hdl x = none) (hR2 : ∀ x ∈ hwC L, x ∈ rs) :
    Calls Try.prog 40 #[.pointer (some ⟨p, 0, none⟩), rv] W fun e w' => e = .returned (.int .i64 (needL L : Nat)) ∧ Chg [] W w' := by
  obtain ⟨M, h1, h2, h3⟩ := h.ex
  refine (reach_g h1 hr hrl hrx).mono ?_
  rintro e w' ⟨B, he, hB, hc⟩
  rw [keptC_units h2 h1.len hR1 hR2 hB] at he
  exact ⟨he, hc⟩
theorem collect_k (h : HeapK p units L G W) {rv : Value} {rs : List Nat} (hr : Row W 22 1 rv rs.length (u64V rs)) (hrl : rs.length ≤ 1000000000) (hrx : ∀ x ∈ rs, x < 18446744073709551616) (hR1 : ∀ x ∈ rs, x ∈ hwC L ∨ hdl x = none) (hR2 : ∀ x ∈ hwC L, x ∈ rs) :
    Calls Try.prog 42 #[.pointer (some ⟨p, 0, none⟩), rv] W fun e w' => e = .returned (.tuple #[]) ∧ ∃ G', HeapK p units L G' w' ∧ Chg G W w' ∧ ∀ k ∈ G', k ∈ G := by
  obtain ⟨M, h1, h2, h3⟩ := h.ex
  refine (collect_g h1 hr hrl hrx).mono ?_
  rintro e w' ⟨he, B, G', hB, hL, hc, hG⟩
  exact ⟨he, G', ⟨_, hL, (keptC_sweep h2 h1.len hR1 hR2 hB).1, fun m hm => h3 m (sw_mem hm)⟩, hc, hG⟩
theorem shape_k (h : HeapK p units L G W) {q : Nat × Cel} (hq : q ∈ L) (hv : q.2.view = false) (hk : widthN q.2.kind = 0) :
    Calls Try.prog 99 #[.pointer (some ⟨p, 0, none⟩), .int .u64 (hw q.1 : Nat)] W fun e w' => ∃ n : Int, e = .returned (.tuple #[.int .i64 q.2.kind, .bool false, .int .i64 n, .bool true]) ∧ Chg [] W w' := by
  obtain ⟨M, m, cv, rp, F, most, h1, h2, h3, _⟩ := h.at_ hq
  rw [← h3] at hv hk ⊢
  exact shape_plain h1 (h.word hq).1 h2 hv hk
theorem plain_k (h : HeapK p units L G W) {q : Nat × Cel} (hq : q ∈ L) :
    Calls Try.prog 106 #[.pointer (some ⟨p, 0, none⟩), .int .u64 (hw q.1 : Nat)] W fun e w' => e = .returned (.tuple #[.int .i64 q.2.int, .string q.2.text]) ∧ Chg [] W w' := by
  obtain ⟨M, m, cv, rp, F, most, h1, h2, h3, _⟩ := h.at_ hq
  rw [← h3]
  exact plain_calls h1 (h.word hq).1 h2
end
end Go.Proofs.Ytgimcpnelogadaa.Hp
