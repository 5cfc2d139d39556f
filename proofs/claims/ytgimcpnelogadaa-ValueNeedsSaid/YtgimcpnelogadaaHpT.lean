/- Chapter 6: HeapSame: copies of the roots, and what holds in each round. -/
import Derived.Test.YtgimcpnelogadaaHpS
namespace Go.Proofs.Ytgimcpnelogadaa.Hp
open Go.RowKit Go.Proofs.Ytgimcpnelogadaa.Mem Go.Proofs.Ytgimcpnelogadaa.Sto Go.Proofs.Ytgimcpnelogadaa.Wd
set_option linter.unusedVariables false
set_option linter.unusedSimpArgs false
/-- append([]uint64{}, x...): a copy. -/
theorem app64 {w W : World} {v : Value} {l : List Nat} (hW : W = w.alloc (.cells #[] 22)) (h : Row w 22 1 v l.length (u64V l)) (hl : l.length ≤ 1000000000) :
    ∃ v' w1, (∀ ty consts, (builtin .append #[58, 58] ty consts #[.slice (some ⟨w.heap.size, 0, none⟩) 0 0, v]).run Try.prog W = .ok (.value v') w1) ∧ Row w1 22 1 v' l.length (u64V l) ∧ Chg [] w w1 ∧ ∀ g, v'.ownBlock = some g → w.heap.size ≤ g := by
  subst hW
  have key : ∀ (a : Option Addr) (c : Nat), v = .slice a l.length c → (∃ v' w1, (∀ ty consts, (builtin .append #[58, 58] ty consts #[.slice (some ⟨w.heap.size, 0, none⟩) 0 0, .slice a l.length c]).run Try.prog (w.alloc (.cells #[] 22)) = .ok (.value v') w1) ∧ Row w1 22 1 v' (0 + l.length) ([] ++ u64V l) ∧ Chg (Value.slice (some ⟨w.heap.size, 0, none⟩) 0 0).ownBlock.toList (w.alloc (.cells #[] 22)) w1 ∧
      (v'.ownBlock = (Value.slice (some ⟨w.heap.size, 0, none⟩) 0 0).ownBlock ∨ v'.ownBlock = some (w.alloc (.cells #[] 22)).heap.size)) := by
    intro a c hv
    refine (Row.made0 (w := w) 22 1).append2 Try.underlying58 elemU64 (ad := a) (c := c) (m := l.length) (news := u64V l) (by simp [u64V]) (fun ha => ?_) (fun g hg j u hu => ?_) (u64V_one l) (by omega) (by omega)
    · subst ha
      rcases h.cases with ⟨_, hn, _⟩ | ⟨g, cap, rest, e, _⟩
      · exact hn
      · rw [hv] at e; cases e
    · subst hg
      rcases h.cases with ⟨e, _⟩ | ⟨g', cap, rest, e, hb, _⟩
      · rw [hv] at e; cases e
      · rw [hv] at e
        cases e
        exact ((hb.alloc _).from (fun j u hu => by rw [Nat.zero_add]; exact List.getElem?_append_left_some hu)) j u hu
  obtain ⟨a, c, hv⟩ := Row_form h
  obtain ⟨v', w1, h1, h2, h3, h4⟩ := key a c hv
  subst hv
  rw [Nat.zero_add, List.nil_append] at h2
  have h5 : ∀ x ∈ (Value.slice (some ⟨w.heap.size, 0, none⟩) 0 0).ownBlock.toList, w.heap.size ≤ x := fun x hx => by
    simp [Value.ownBlock] at hx
    omega
  refine ⟨v', w1, h1, h2, ((Chg.refl [] w).alloc (.cells #[] 22)).then h3 (fun x hx => .inr (h5 x hx)), fun g hg => ?_⟩
  rcases h4 with e | e
  · rw [e] at hg
    exact h5 g (by rw [hg]; simp)
  · rw [e] at hg
    cases hg
    exact ((Chg.refl [] w).alloc (.cells #[] 22)).size
section
variable {P : Program} {ops : Array Oper} {o : Oper} {a : Act} {w : World} {Q : Exit → Act → World → Prop}
/-- make of elements of one cell, as one step of a region that draws. -/
theorem step_make1 {K : Act → World → Prop} {E0 : Prop} {t e : TypeId} {bytes : Nat} {z : Value} {kl kc : IntKind} (hg : o.guard = none) (l c : Operand) (hop : o.op = Op.makeSlice t l c) (ht : P.underlying t = some (.slice e)) (E : Elem P e 1 bytes z) (hz1 : z.cells = #[z]) (n : Nat)
    (hl : a.eval l = .int kl (n : Int)) (hc : a.eval c = .int kc (n : Int)) (hb : bytes * n ≤ 281474976710656) (h63 : n ≤ 9223372036854775807)
    (hK : ∀ w', Blk w' w.heap.size e (List.replicate n z) → Chg [] w w' → w'.heap.size = w.heap.size + 1 → K (a.put o.dst (.slice (some ⟨w.heap.size, 0, none⟩) n n)) w') :
    if Region.wanted o (yielded ops a.tmps) = true then Oper.wp P o a w K Q else E0 := by
  have hw : Region.wanted o (yielded ops a.tmps) = true := by simp [Region.wanted, hg]
  rw [if_pos hw]
  obtain ⟨i, hi, hz, hs, hby⟩ := E.info
  have hb' : (i.bytes : Int) * (n : Int) ≤ 281474976710656 := by rw [hby, ← Int.natCast_mul]; omega
  have hr := run_make (P := P) w t e i z ht hi hz kl kc n n (by omega) (Int.le_refl _) hb' (by omega)
  simp only [Int.toNat_natCast] at hr
  unfold Oper.wp
  simp only [execOp, hop, hl, hc, hr, Sem.run_bind, Sem.run_pure, Result.andThen_ok]
  refine hK _ ?_ ((Chg.refl _ _).alloc _) (by simp)
  have := Blk.new w (madeCells z.cells (n * i.size)) e
  rw [hs, Nat.mul_one, hz1, made_one] at this
  rw [hs, Nat.mul_one, hz1]
  exact this
/-- The same; the block's number told apart. -/
theorem step_make1g {K : Act → World → Prop} {E0 : Prop} {t e : TypeId} {bytes : Nat} {z : Value} {kl kc : IntKind} (hg : o.guard = none) (l c : Operand) (hop : o.op = Op.makeSlice t l c) (ht : P.underlying t = some (.slice e)) (E : Elem P e 1 bytes z) (hz1 : z.cells = #[z]) (n : Nat)
    (hl : a.eval l = .int kl (n : Int)) (hc : a.eval c = .int kc (n : Int)) (hb : bytes * n ≤ 281474976710656) (h63 : n ≤ 9223372036854775807)
    (hK : ∀ w' g, g = w.heap.size → Blk w' g e (List.replicate n z) → Chg [] w w' → K (a.put o.dst (.slice (some ⟨g, 0, none⟩) n n)) w') :
    if Region.wanted o (yielded ops a.tmps) = true then Oper.wp P o a w K Q else E0 :=
  step_make1 hg l c hop ht E hz1 n hl hc hb h63 fun w' h1 h2 _ => hK w' _ rfl h1 h2
end
/-- append onto an empty slice that the code has made: a copy, in any world. -/
theorem app64g {W : World} {g : Nat} {v : Value} {l : List Nat} (hg : Blk W g 22 []) (h : Row W 22 1 v l.length (u64V l)) (hl : l.length ≤ 1000000000) :
    ∃ v' w1, (∀ ty consts, (builtin .append #[58, 58] ty consts #[.slice (some ⟨g, 0, none⟩) 0 0, v]).run Try.prog W = .ok (.value v') w1) ∧ Row w1 22 1 v' l.length (u64V l) ∧ Chg [g] W w1 ∧ ∀ k, v'.ownBlock = some k → k = g ∨ W.heap.size ≤ k := by
  have hb : Row W 22 1 (.slice (some ⟨g, 0, none⟩) 0 0) 0 [] := Row.mk (rest := []) hg rfl (Nat.le_refl _) (by decide) rfl
  obtain ⟨a, c, hv⟩ := Row_form h
  have key := hb.append2 Try.underlying58 elemU64 (ad := a) (c := c) (m := l.length) (news := u64V l) (by simp [u64V]) (fun ha => by
      subst ha
      rcases h.cases with ⟨_, hn, _⟩ | ⟨g, cap, rest, e, _⟩
      · exact hn
      · rw [hv] at e; cases e) (fun g hg j u hu => by
      subst hg
      rcases h.cases with ⟨e, _⟩ | ⟨g', cap, rest, e, hb, _⟩
      · rw [hv] at e; cases e
      · rw [hv] at e
        cases e
        exact (hb.from (fun j u hu => by rw [Nat.zero_add]; exact List.getElem?_append_left_some hu)) j u hu) (u64V_one l) (by omega) (by omega)
  obtain ⟨v', w1, h1, h2, h3, h4⟩ := key
  subst hv
  rw [Nat.zero_add, List.nil_append] at h2
  refine ⟨v', w1, h1, h2, h3.mono (fun x hx => by simpa [Value.ownBlock, eq_comm] using hx), fun k hk => ?_⟩
  rcases h4 with e | e
  · rw [e] at hk
    simp [Value.ownBlock] at hk
    exact .inl hk.symm
  · rw [e] at hk
    cases hk
    exact .inr (Nat.le_refl _)
/-- append(x, p). -/
theorem app1 {w W : World} {v : Value} {l : List Nat} {p : Nat} (hW : W = w.alloc (.cells #[.int .u64 (p : Int)] 22)) (h : Row w 22 1 v l.length (u64V l)) (hl : l.length ≤ 1000000000) :
    ∃ v' w1, (∀ ty consts, (builtin .append #[58, 58] ty consts #[v, .slice (some ⟨w.heap.size, 0, none⟩) 1 1]).run Try.prog W = .ok (.value v') w1) ∧ Row w1 22 1 v' (l ++ [p]).length (u64V (l ++ [p])) ∧ Chg v.ownBlock.toList w w1 ∧ ∀ g, v'.ownBlock = some g → v.ownBlock = some g ∨ w.heap.size ≤ g := by
  subst hW
  obtain ⟨v', w1, h1, h2, h3, h4⟩ := (h.alloc (.cells #[.int .u64 (p : Int)] 22)).append (c := 1) Try.underlying58 elemU64 (m := 1) (news := [.int .u64 (p : Int)]) (ad := ⟨w.heap.size, 0, none⟩) rfl ((Blk.newL [.int .u64 (p : Int)] rfl).from (fun j u hu => by rw [Nat.zero_add]; exact hu)) (by simp [Value.oneCell']) (by omega) (by omega)
  refine ⟨v', w1, h1, by simpa [u64V] using h2, ((Chg.refl _ w).alloc (.cells #[.int .u64 (p : Int)] 22)).then h3 (fun x hx => .inl hx), fun g hg => ?_⟩
  rcases h4 with e | e
  · exact .inl (e ▸ hg)
  · rw [e] at hg
    cases hg
    exact .inr ((Chg.refl [] w).alloc (.cells #[.int .u64 (p : Int)] 22)).size
end Go.Proofs.Ytgimcpnelogadaa.Hp
