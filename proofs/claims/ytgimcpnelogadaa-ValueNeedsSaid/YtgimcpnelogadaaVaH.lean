/- Chapter 7: values that are boxed one behind the other, all of them roots. -/
import Derived.Test.YtgimcpnelogadaaVaG
import Derived.Test.YtgimcpnelogadaaHpT
namespace Go.Proofs.Ytgimcpnelogadaa.Va
open Go.RowKit Go.Proofs.Ytgimcpnelogadaa.Mem Go.Proofs.Ytgimcpnelogadaa.Sto Go.Proofs.Ytgimcpnelogadaa.Wd Go.Proofs.Ytgimcpnelogadaa.Hp
set_option linter.unusedVariables false
set_option linter.unusedSimpArgs false
def Val.k : Val → Int
  | .nil => 0
  | .bool _ => 1
  | .int _ => 2
  | .float _ => 3
  | .text _ => 4
def Val.i : Val → Int
  | .bool true => 1
  | .int i => i
  | _ => 0
def Val.b : Val → Nat
  | .float b => b
  | _ => 0
def Val.t : Val → ByteArray
  | .text s => s
  | _ => noText
theorem Val.v_eq (v : Val) : v.v = .agg #[.int .i64 v.k, .int .i64 v.i, .int .u64 (v.b : Int), .string v.t, .int .u64 0] := by
  cases v with
  | bool b => cases b <;> rfl
  | _ => rfl
theorem floatW_zero : floatW 0 = 0 := by decide
theorem Val.u_eq (v : Val) : v.u = .agg #[.int .i64 v.k, .int .i64 v.i, .int .u64 (floatW v.b : Nat), .string v.t, .int .u64 0] := by
  cases v with
  | bool b => cases b <;> rfl
  | _ => rfl
/-- The cells of a row of values. -/
def valsV (l : List Val) : List Value := l.flatMap fun v => [.int .i64 v.k, .int .i64 v.i, .int .u64 (v.b : Int), .string v.t, .int .u64 0]
theorem valsV_at : ∀ (l : List Val) (j : Nat) (v : Val), l[j]? = some v → (valsV l)[j * 5]? = some (.int .i64 v.k) ∧ (valsV l)[j * 5 + 1]? = some (.int .i64 v.i) ∧ (valsV l)[j * 5 + 2]? = some (.int .u64 (v.b : Int)) ∧ (valsV l)[j * 5 + 3]? = some (.string v.t) ∧ (valsV l)[j * 5 + 4]? = some (.int .u64 0)
  | [], j, v, h => by simp at h
  | x :: l, 0, v, h => by
    simp at h
    subst h
    exact ⟨rfl, rfl, rfl, rfl, rfl⟩
  | x :: l, j + 1, v, h => by
    have ih := valsV_at l j v (by simpa using h)
    have e : ∀ i, (valsV (x :: l))[i + 5]? = (valsV l)[i]? := fun i => by
      unfold valsV
      rw [List.flatMap_cons]
      simp
    rw [show (j + 1) * 5 = j * 5 + 5 by omega]
    refine ⟨by rw [e]; exact ih.1, ?_, ?_, ?_, ?_⟩
    · rw [show j * 5 + 5 + 1 = j * 5 + 1 + 5 by omega, e]; exact ih.2.1
    · rw [show j * 5 + 5 + 2 = j * 5 + 2 + 5 by omega, e]; exact ih.2.2.1
    · rw [show j * 5 + 5 + 3 = j * 5 + 3 + 5 by omega, e]; exact ih.2.2.2.1
    · rw [show j * 5 + 5 + 4 = j * 5 + 4 + 5 by omega, e]; exact ih.2.2.2.2
def needs (l : List Val) : Nat := (l.map Val.need).sum
/-- Of the values l the first xs.length are boxed: their words xs; ws: those that stand in the row of roots rv. -/
structure Boxed (w : World) (p units lb : Nat) (l : List Val) (ws xs : List Nat) (L : List (Nat × Cel)) (rv : Value) (W : World) : Prop where
  ex : ∃ G, HeapK p units L G W ∧ ∀ k ∈ G, w.heap.size ≤ k ∧ k ≠ lb ∧ rv.ownBlock ≠ some k
  ok : ∀ v ∈ l, v.ok
  st : ∀ (j x : Nat), xs[j]? = some x → ∃ v, l[j]? = some v ∧ Stands L x v
  words : ∀ y ∈ hwC L, y ∈ xs
  need : needL L = needs (l.take xs.length)
  row : Row W 22 1 rv ws.length (u64V ws)
  own : ∀ g, rv.ownBlock = some g → w.heap.size ≤ g ∧ g ≠ lb
  chg : Chg [] w W
  lst : Blk W lb 83 (valsV l)
  low : w.heap.size ≤ lb
  len : xs.length ≤ 1000
section
variable {w W W1 W2 : World} {p units lb : Nat} {l : List Val} {ws xs : List Nat} {L : List (Nat × Cel)} {rv : Value}
theorem Boxed.same (h : Boxed w p units lb l ws xs L rv W) (hc : Chg [] W W1) : Boxed w p units lb l ws xs L rv W1 := by
  obtain ⟨G, h1, h2⟩ := h.ex
  exact ⟨⟨G, h1.chg hc (by simp), h2⟩, h.ok, h.st, h.words, h.need, h.row.chg hc (by simp), h.own, h.chg.then hc (by simp), h.lst.chg hc (by simp), h.low, h.len⟩
theorem Boxed.mem (h : Boxed w p units lb l ws xs L rv W) {x : Nat} (hx : x ∈ xs) : ∃ v ∈ l, v.ok ∧ Stands L x v := by
  obtain ⟨j, hj, rfl⟩ := List.getElem_of_mem hx
  obtain ⟨v, h1, h2⟩ := h.st j _ (List.getElem?_eq_getElem hj)
  exact ⟨v, List.mem_of_getElem? h1, h.ok v (List.mem_of_getElem? h1), h2⟩
theorem Boxed.roots (h : Boxed w p units lb l xs xs L rv W) : (∀ x ∈ xs, x < 18446744073709551616) ∧ (∀ x ∈ xs, x ∈ hwC L ∨ hdl x = none) := by
  obtain ⟨G, h1, h2⟩ := h.ex
  exact ⟨fun x hx => by obtain ⟨v, _, hok, hs⟩ := h.mem hx; exact (hs.lt h1 hok).1, fun x hx => by obtain ⟨v, _, hok, hs⟩ := h.mem hx; exact (hs.lt h1 hok).2⟩
theorem Stands.cls {x : Nat} {v : Val} {G : List Nat} (h : Stands L x v) (hk : HeapK p units L G W) (hok : v.ok) : Wd.cls x ≠ 7 := by
  rcases h with ⟨h1, rfl⟩ | ⟨c, n, h1, rfl, h3⟩
  · rw [(v.word_cls hok h1).2]
    cases v <;> simp [Val.cls]
  · have : Wd.cls (hw n) = 6 := (cls_hdl (hk.word h3).1).2 (by rw [(hk.word h3).2]; rfl)
    rw [this]
    simp
/-- The next is boxed. -/
theorem Boxed.box (h : Boxed w p units lb l xs xs L rv W) (hc : Chg [] W W1) {v : Val} (hv : l[xs.length]? = some v) (hroom : needL L + v.need ≤ units) {cv : Value} (hr : Row W1 22 1 cv xs.length (u64V xs)) (hlen : xs.length < 1000) :
    Calls Try.prog 46 #[.pointer (some ⟨p, 0, none⟩), .agg #[.int .i64 v.k, .int .i64 v.i, .int .u64 (v.b : Int), .string v.t, .int .u64 0], cv] W1 fun e w' => ∃ (a : Nat) (L' : List (Nat × Cel)), e = .returned (.tuple #[.int .u64 (a : Int), .int .i64 0]) ∧ a < 18446744073709551616 ∧ Wd.cls a ≠ 7 ∧ Boxed w p units lb l xs (xs ++ [a]) L' rv w' := by
  have h' := h.same hc
  obtain ⟨r1, r2⟩ := h'.roots
  obtain ⟨G, h1, h2⟩ := h'.ex
  have hok := h.ok v (List.mem_of_getElem? hv)
  rw [← Val.v_eq]
  refine (box_ok h1 v hok hr (by omega) r1 r2 h.words hroom).mono ?_
  rintro e w' ⟨a, K, G', he, hch, hG, hs0, hk, hn, hy, _⟩
  have hs : Stands (L ++ K) a v := hs0.more (fun q hq => List.mem_append_right _ hq)
  refine ⟨a, L ++ K, he, (hs.lt hk hok).1, hs.cls hk hok, ⟨G', hk, fun k hk => ?_⟩, h.ok, fun j x hj => ?_, fun y hy' => ?_, ?_, h'.row.chg hch (fun g hg hm => (h2 g hm).2.2 hg), h.own, h'.chg.then hch (fun x hx => .inr (h2 x hx).1), h'.lst.chg hch (fun hm => (h2 lb hm).2.1 rfl), h.low, by simp; omega⟩
  · rcases hG k hk with e | e
    · exact h2 k e
    · have q1 := h'.chg.size
      have q2 := h'.lst.lt
      exact ⟨by omega, by omega, fun e' => by have := h'.row.lt e'; omega⟩
  · by_cases c : j < xs.length
    · rw [List.getElem?_append_left c] at hj
      obtain ⟨u, h3, h4⟩ := h.st j x hj
      exact ⟨u, h3, h4.more (fun q hq => List.mem_append_left _ hq)⟩
    · rw [List.getElem?_append_right (by omega)] at hj
      have hj0 : j = xs.length := by
        have := (List.getElem?_eq_some_iff.1 hj).1
        simp at this
        omega
      subst hj0
      simp at hj
      subst hj
      exact ⟨v, hv, hs⟩
  · rw [hwC_append] at hy'
    rcases List.mem_append.1 hy' with e | e
    · exact List.mem_append_left _ (h.words y e)
    · rw [hy y e]; simp
  · rw [hn, h.need, List.length_append, List.length_singleton, List.take_add_one, hv]
    simp [needs]
/-- It becomes a root. -/
theorem Boxed.push {a : Nat} {rv' : Value} (h : Boxed w p units lb l ws (ws ++ [a]) L rv W) (hc : Chg rv.ownBlock.toList W W2) (hr : Row W2 22 1 rv' (ws ++ [a]).length (u64V (ws ++ [a]))) (ho : ∀ g, rv'.ownBlock = some g → rv.ownBlock = some g ∨ W.heap.size ≤ g) :
    Boxed w p units lb l (ws ++ [a]) (ws ++ [a]) L rv' W2 := by
  obtain ⟨G, h1, h2⟩ := h.ex
  have hm : ∀ g, g ∈ rv.ownBlock.toList → rv.ownBlock = some g := fun g hg => by simpa using hg
  have hlt := h1.lt
  refine ⟨⟨G, h1.chg hc (fun j hj hx => (h2 j hj).2.2 (hm j hx)), fun k hk => ⟨(h2 k hk).1, (h2 k hk).2.1, fun e => ?_⟩⟩, h.ok, h.st, h.words, h.need, hr, fun g hg => ?_, h.chg.then hc (fun v hv => .inr (h.own v (hm v hv)).1), h.lst.chg hc (fun hx => (h.own lb (hm lb hx)).2 rfl), h.low, h.len⟩
  · rcases ho k e with q | q
    · exact (h2 k hk).2.2 q
    · have := hlt k hk; omega
  · rcases ho g hg with q | q
    · exact h.own g q
    · have q1 := h.chg.size
      have q2 := h.lst.lt
      exact ⟨by omega, by omega⟩
end
end Go.Proofs.Ytgimcpnelogadaa.Va
