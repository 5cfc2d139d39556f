/- Chapter 8: a law's heap and its row of roots. -/
import Derived.Test.YtgimcpnelogadaaTxC
namespace Go.Proofs.Ytgimcpnelogadaa.Tx
open Go.RowKit Go.Proofs.Ytgimcpnelogadaa.Mem Go.Proofs.Ytgimcpnelogadaa.Sto Go.Proofs.Ytgimcpnelogadaa.Wd Go.Proofs.Ytgimcpnelogadaa.Hp Go.Proofs.Ytgimcpnelogadaa.Va
set_option linter.unusedVariables false
set_option linter.unusedSimpArgs false
theorem size_app (s t : ByteArray) : (s ++ t).size = s.size + t.size := by simp
theorem app_assoc (a b c : ByteArray) : (a ++ b) ++ c = a ++ (b ++ c) := by
  apply ByteArray.ext
  simp
theorem cmp_self : ∀ l : List UInt8, Lib.compareBytes l l = 0
  | [] => rfl
  | a :: l => by
    unfold Lib.compareBytes
    have h : ¬ a < a := fun h => absurd h (by simp [UInt8.lt_iff_toNat_lt])
    rw [if_neg h, if_neg h]
    exact cmp_self l
theorem need_text (s : ByteArray) : (Val.text s).need ≤ 1 + (s.size + 7) / 8 := by
  unfold Val.need Val.cel
  by_cases c : s.size ≤ 5
  · simp [c]
  · simp only [c, if_false, textC]; omega
/-- A law's heap of the cells L; rv: a row of the words ws that the law keeps. -/
structure Three (w : World) (p units : Nat) (L : List (Nat × Cel)) (ws : List Nat) (rv : Value) (W : World) : Prop where
  ex : ∃ G, HeapK p units L G W ∧ ∀ k ∈ G, w.heap.size ≤ k ∧ rv.ownBlock ≠ some k
  row : Row W 22 1 rv ws.length (u64V ws)
  own : ∀ g, rv.ownBlock = some g → w.heap.size ≤ g
  chg : Chg [] w W
/-- Words that stand for strings. -/
def Texts (L : List (Nat × Cel)) (rs : List Nat) : Prop := ∀ x ∈ rs, ∃ s : ByteArray, s.size ≤ 8388608 ∧ Stands L x (.text s)
section
variable {w W W1 : World} {p units : Nat} {L K : List (Nat × Cel)} {ws rs : List Nat} {rv cv : Value} {x y : Nat} {s t : ByteArray}
theorem Texts.more (h : Texts L rs) (hs : ∀ q ∈ L, q ∈ K) : Texts K rs := fun x hx => by
  obtain ⟨s, h1, h2⟩ := h x hx
  exact ⟨s, h1, h2.more hs⟩
theorem Three.same (h : Three w p units L ws rv W) (hc : Chg [] W W1) : Three w p units L ws rv W1 := by
  obtain ⟨G, h1, h2⟩ := h.ex
  exact ⟨⟨G, h1.chg hc (by simp), h2⟩, h.row.chg hc (by simp), h.own, h.chg.then hc (by simp)⟩
theorem Three.sub (h : Three w p units L ws rv W) (hs : K.Sublist L) : Three w p units K ws rv W := by
  obtain ⟨G, h1, h2⟩ := h.ex
  exact ⟨⟨G, h1.sub hs, h2⟩, h.row, h.own, h.chg⟩
/-- Another row is kept. -/
theorem Three.keep {ws' : List Nat} {rv' : Value} (h : Three w p units L ws rv W) (hc : Chg rv.ownBlock.toList W W1) (hr : Row W1 22 1 rv' ws'.length (u64V ws')) (ho : ∀ g, rv'.ownBlock = some g → rv.ownBlock = some g ∨ W.heap.size ≤ g) : Three w p units L ws' rv' W1 := by
  obtain ⟨G, h1, h2⟩ := h.ex
  have hm : ∀ g, g ∈ rv.ownBlock.toList → rv.ownBlock = some g := fun g hg => by simpa using hg
  have hlt := h1.lt
  have hsz := h.chg.size
  refine ⟨⟨G, h1.chg hc (fun j hj hx => (h2 j hj).2 (hm j hx)), fun k hk => ⟨(h2 k hk).1, fun e => ?_⟩⟩, hr, fun g hg => ?_, h.chg.then hc (fun v hv => .inr (h.own v (hm v hv)))⟩
  · rcases ho k e with q | q
    · exact (h2 k hk).2 q
    · have := hlt k hk; omega
  · rcases ho g hg with q | q
    · exact h.own g q
    · omega
/-- What is answered where a string is boxed. -/
def BoxS (w : World) (p units : Nat) (L : List (Nat × Cel)) (ws : List Nat) (rv : Value) (s : ByteArray) (a : Nat) (w' : World) : Prop :=
  ∃ K, Stands K a (.text s) ∧ Three w p units (L ++ K) ws rv w' ∧ needL (L ++ K) = needL L + (Val.text s).need ∧ ∀ z ∈ hwC K, z = a
theorem Three.boxS {a : Nat} {G G' : List Nat} {w' : World} (h : Three w p units L ws rv W) (h1 : HeapK p units L G W) (h2 : ∀ k ∈ G, w.heap.size ≤ k ∧ rv.ownBlock ≠ some k) (hc : Chg G W w') (hG : ∀ k ∈ G', k ∈ G ∨ W.heap.size ≤ k)
    (hs : Stands K a (.text s)) (hk : HeapK p units (L ++ K) G' w') (hn : needL (L ++ K) = needL L + (Val.text s).need) (hy : ∀ z ∈ hwC K, z = a) : BoxS w p units L ws rv s a w' := by
  refine ⟨K, hs, ⟨⟨G', hk, fun k hk => ?_⟩, h.row.chg hc (fun g hg hm => (h2 g hm).2 hg), h.own, h.chg.then hc (fun v hv => .inr (h2 v hv).1)⟩, hn, hy⟩
  rcases hG k hk with e | e
  · exact h2 k e
  · have := h.chg.size
    exact ⟨by omega, fun e' => by have := h.row.lt e'; omega⟩
theorem Texts.roots {G : List Nat} (h : Texts L rs) (hk : HeapK p units L G W) : (∀ x ∈ rs, x < 18446744073709551616) ∧ ∀ x ∈ rs, x ∈ hwC L ∨ hdl x = none :=
  ⟨fun x hx => by obtain ⟨s, h1, h2⟩ := h x hx; exact (h2.lt hk h1).1, fun x hx => by obtain ⟨s, h1, h2⟩ := h x hx; exact (h2.lt hk h1).2⟩
set_option maxRecDepth 100000 in
/-- The law's own box. -/
theorem Three.box (h : Three w p units L ws rv W) (hok : s.size ≤ 8388608) (hroom : needL L + (Val.text s).need ≤ units) (hr : Row W 22 1 cv rs.length (u64V rs)) (hl : rs.length ≤ 1000000) (hT : Texts L rs) (hR : ∀ z ∈ hwC L, z ∈ rs) :
    Calls Try.prog 53 #[.pointer (some ⟨p, 0, none⟩), .string s, cv] W fun e w' => ∃ a : Nat, e = .returned (.tuple #[.int .u64 (a : Int), .bool true]) ∧ BoxS w p units L ws rv s a w' := by
  obtain ⟨G, h1, h2⟩ := h.ex
  obtain ⟨r1, r2⟩ := hT.roots h1
  have CB := Mem.Aside.mk (box_ok h1 (.text s) hok hr (by omega) r1 r2 hR hroom)
  rw [v_text] at CB
  have HH := Mem.Aside.mk (And.intro h (And.intro h1 h2))
  clear h h1 h2 r1 r2 hr hT hR hroom
  go_enter Try.func53, Try.ntmps53
  go_wp2_with (go_at_call 46; (with_reducible refine CB.out.mono ?_); rintro e w2 ⟨a, K, G2, rfl, hc2, hg2, hs, hk, hn, hy, _⟩; have HX := Mem.Aside.mk (HH.out.1.boxS HH.out.2.1 HH.out.2.2 hc2 hg2 hs hk hn hy); clear hc2 hg2 hs hk hn hy)
  go_ret2
  exact ⟨a, rfl, HX.out⟩
theorem Three.concat (h : Three w p units L ws rv W) (hs : Stands L x (.text s)) (ht : Stands L y (.text t)) (hok : s.size ≤ 4000000) (hot : t.size ≤ 4000000) (hroom : needL L + (Val.text (s ++ t)).need ≤ units) (hr : Row W 22 1 cv rs.length (u64V rs)) (hl : rs.length ≤ 1000000) (hT : Texts L rs) (hR : ∀ z ∈ hwC L, z ∈ x :: y :: rs) :
    Calls Try.prog 54 #[.pointer (some ⟨p, 0, none⟩), .int .u64 (x : Int), .int .u64 (y : Int), cv] W fun e w' => ∃ a : Nat, e = .returned (.tuple #[.int .u64 (a : Int), .int .i64 0]) ∧ BoxS w p units L ws rv (s ++ t) a w' := by
  obtain ⟨G, h1, h2⟩ := h.ex
  obtain ⟨r1, r2⟩ := hT.roots h1
  refine (concat_k h1 hs ht (by omega) (by omega) (by rw [size_app]; omega) hroom hr (by omega) r1 r2 hR).mono ?_
  rintro e w' ⟨a, K, G', he, hc, hg, hs', hk, hn, hy⟩
  exact ⟨a, he, h.boxS h1 h2 hc hg hs' hk hn hy⟩
theorem Three.of (h : Three w p units L ws rv W) (hs : Stands L x (.text s)) (hok : s.size ≤ 8388608) :
    Calls Try.prog 56 #[.pointer (some ⟨p, 0, none⟩), .int .u64 (x : Int)] W fun e w' => e = .returned (.tuple #[.string s, .int .i64 0]) ∧ Chg [] W w' := by
  obtain ⟨G, h1, h2⟩ := h.ex
  exact of_k h1 hs hok
theorem Three.compare (h : Three w p units L ws rv W) (hs : Stands L x (.text s)) (ht : Stands L y (.text t)) (hok : s.size ≤ 8388608) (hot : t.size ≤ 8388608) :
    Calls Try.prog 55 #[.pointer (some ⟨p, 0, none⟩), .int .u64 (x : Int), .int .u64 (y : Int)] W fun e w' => e = .returned (.tuple #[.int .i64 (Lib.compareBytes s.data.toList t.data.toList), .int .i64 0]) ∧ Chg [] W w' := by
  obtain ⟨G, h1, h2⟩ := h.ex
  exact compare_k h1 hs ht hok hot
end
end Go.Proofs.Ytgimcpnelogadaa.Tx
