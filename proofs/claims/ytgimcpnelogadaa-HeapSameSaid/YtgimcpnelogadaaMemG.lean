/- Memory: append of a source that may be nil; make of a row of one-cell elements. No program in sight. -/
import Derived.Test.YtgimcpnelogadaaMemF
import Derived.Laws.MakeOwn
namespace Go.Proofs.Ytgimcpnelogadaa.Mem
open Go.RowKit
set_option linter.unusedVariables false
section
variable {P : Program} {w : World}
/-- append, whatever the source is. -/
theorem Row.append2 {t e : TypeId} {size bytes n m c : Nat} {z v : Value} {xs news : List Value} (h : Row w e size v n xs) (ht : P.underlying t = some (.slice e)) (E : Elem P e size bytes z)
    {ad : Option Addr} (hl : news.length = m * size) (hnil : ad = none → m = 0) (hnews : ∀ a, ad = some a → ∀ j u, news[j]? = some u → w.cell? (a.add j) = some u) (h1 : ∀ u ∈ news, u.oneCell' = true)
    (h63 : n + m ≤ 9223372036854775807) (hb : (n + m) * bytes ≤ 140737488355328) :
    ∃ v' w', (∀ ty consts, (builtin .append #[t, t] ty consts #[v, .slice ad m c]).run P w = .ok (.value v') w') ∧ Row w' e size v' (n + m) (xs ++ news) ∧ Chg v.ownBlock.toList w w' ∧
      (v'.ownBlock = v.ownBlock ∨ v'.ownBlock = some w.heap.size) := by
  cases ad with
  | some a => exact h.append ht E hl (hnews a rfl) h1 h63 hb
  | none =>
    obtain rfl := hnil rfl
    obtain ⟨i, hi, _⟩ := E.info
    obtain ⟨a, cp, rfl⟩ : ∃ a cp, v = .slice a n cp := by
      rcases h.cases with ⟨rfl, rfl, _⟩ | ⟨g, cap, rest, rfl, _⟩
      · exact ⟨_, _, rfl⟩
      · exact ⟨_, _, rfl⟩
    have hcp : n ≤ cp := by
      rcases h.cases with ⟨h1, rfl, _⟩ | ⟨g, cap, rest, h1, _, hn, _⟩
      · cases h1; exact Nat.le_refl _
      · cases h1; exact hn
    have : news = [] := List.eq_nil_of_length_eq_zero (by simpa using hl)
    subst this
    exact ⟨_, w, fun ty consts => run_append_zero w ht hi hcp consts, by simpa using h, Chg.refl _ _, .inl rfl⟩

theorem made_one (v : Value) (n : Nat) : (madeCells #[v] n).toList = List.replicate n v := by
  apply List.ext_getElem
  · simp [madeCells]
  · intro i h1 h2
    simp [madeCells, Nat.mod_one]
end
section
variable {P : Program} {w : World} {ops : Array Oper} {rest : List Oper} {o : Oper} {a : Act} {Q : Exit → Act → World → Prop}
/-- make([]T, n). -/
theorem wpList_make1 {t e : TypeId} {bytes : Nat} {z : Value} {kl kc : IntKind} (hg : o.guard = none) (l c : Operand) (hop : o.op = Op.makeSlice t l c) (ht : P.underlying t = some (.slice e)) (E : Elem P e 1 bytes z) (hz1 : z.cells = #[z]) (n : Nat)
    (hl : a.eval l = .int kl (n : Int)) (hc : a.eval c = .int kc (n : Int)) (hb : bytes * n ≤ 281474976710656) (h63 : n ≤ 9223372036854775807)
    (hK : ∀ w', Blk w' w.heap.size e (List.replicate n z) → Chg [] w w' → w'.heap.size = w.heap.size + 1 → wpList P ops Q rest (a.put o.dst (.slice (some ⟨w.heap.size, 0, none⟩) n n)) w') : wpList P ops Q (o :: rest) a w := by
  refine wpList_plain hg fun K' hK' => ?_
  obtain ⟨i, hi, hz, hs, hby⟩ := E.info
  have hb' : (i.bytes : Int) * (n : Int) ≤ 281474976710656 := by rw [hby, ← Int.natCast_mul]; omega
  have hr := run_make (P := P) w t e i z ht hi hz kl kc n n (by omega) (Int.le_refl _) hb' (by omega)
  simp only [Int.toNat_natCast] at hr
  unfold Oper.wp
  simp only [execOp, hop, hl, hc, hr, Sem.run_bind, Sem.run_pure, Result.andThen_ok]
  refine hK' _ _ (hK _ ?_ ((Chg.refl _ _).alloc _) (by simp))
  have := Blk.new w (madeCells z.cells (n * i.size)) e
  rw [hs, Nat.mul_one, hz1, made_one] at this
  rw [hs, Nat.mul_one, hz1]
  exact this
end
end Go.Proofs.Ytgimcpnelogadaa.Mem
