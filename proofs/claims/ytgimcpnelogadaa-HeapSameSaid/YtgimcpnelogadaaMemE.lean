/- Memory: a range over a map of whole numbers that the call has made; how many entries it has. No program in sight. -/
import Derived.Test.YtgimcpnelogadaaMemD
import Derived.Maps.RangeWalk
namespace Go.Proofs.Ytgimcpnelogadaa.Mem
open Go.RowKit
set_option linter.unusedVariables false

/-- Block r is an iterator over the map b, which has what f tells; 'left k': key k is still to come; cnt: how many are. -/
def IRng (P : Program) (T : TypeId) (w : World) (b r : Nat) (f : Int → Option Int) (left : Int → Bool) (cnt : Nat) : Prop :=
  ∃ (n : Nat) (D : DataW Unit) (lf : Lit → Bool), w.ranges P T (plainElem P T) b r n D lf cnt ∧
    (∀ k : Int, (Lit.int .i64 k).wf = true → Maps.has D (.int .i64 k) = (f k).isSome ∧ D.atKey (.int .i64 k) (.lit (.int .i64 0)) = .lit (.int .i64 ((f k).getD 0)) ∧ (Lit.int .i64 ((f k).getD 0)).wf = true) ∧
    ∀ k : Int, (Lit.int .i64 k).wf = true → lf (.int .i64 k) = left k ∧ (left k = true → (f k).isSome)

section
variable {P : Program} {T t : TypeId} {w w' : World} {b r n cnt : Nat} {f : Int → Option Int} {left : Int → Bool}
theorem IRng.keep (h : IRng P T w b r f left cnt) (hb : w'.heap[b]? = w.heap[b]?) (hr : w'.heap[r]? = w.heap[r]?) : IRng P T w' b r f left cnt := by
  obtain ⟨n, D, lf, ⟨es, clock, since, seen, c0, h1, h2, h3, h4, h5, h6⟩, h7⟩ := h
  exact ⟨n, D, lf, ⟨es, clock, since, seen, c0, hb.trans h1, h2, h3, h4, hr.trans h5, h6⟩, h7⟩
theorem IRng.lt (h : IRng P T w b r f left cnt) : b < w.heap.size ∧ r < w.heap.size := by
  obtain ⟨n, D, lf, h1, h7⟩ := h
  exact ⟨h1.owns.lt, h1.lt⟩
theorem IRng.chg {F : List Nat} (h : IRng P T w b r f left cnt) (hc : Chg F w w') (hb : b ∉ F) (hr : r ∉ F) : IRng P T w' b r f left cnt :=
  h.keep (hc.block b h.lt.1 hb) (hc.block r h.lt.2 hr)
theorem IRng.map (h : IRng P T w b r f left cnt) : ∃ n, IMap P T w b n f := by
  obtain ⟨n, D, lf, h1, h2, h3⟩ := h
  exact ⟨n, D, h1.owns, h2⟩
theorem IRng.left_eq (h : IRng P T w b r f left cnt) : w.rangeLeft b r = cnt := by
  obtain ⟨n, D, lf, h1, h2, h3⟩ := h
  exact h1.left_eq
theorem IMap.range (h : IMap P T w b n f) (ht : P.underlying t = some (.map T T)) (hT : P.underlying T = some (.int .i64)) :
    ∃ w' c, (Instr.range t (.map (some b))).run P w = .ok (.pointer (some ⟨w.heap.size, 0, none⟩)) w' ∧ IRng P T w' b w.heap.size f (fun k => (f k).isSome) c ∧ Chg [] w w' := by
  obtain ⟨D, hD, hf⟩ := h
  obtain ⟨w', h1, h2, h3, h4⟩ := hD.range (Maps.int_keyed hT) ht
  exact ⟨w', _, h1, ⟨n, D, _, h2, hf, fun k hk => ⟨(hf k hk).1, fun h => h⟩⟩, Chg.of_grown h3 (by simp)⟩
theorem IRng.next (h : IRng P T w b r f left cnt) (hT : P.underlying T = some (.int .i64)) (ty : TypeId) :
    (cnt = 0 ∧ (∀ k, (Lit.int .i64 k).wf = true → left k = false) ∧ (Instr.next (.pointer (some ⟨r, 0, none⟩)) false ty).run P w = .ok (.tuple #[.bool false]) w) ∨
    ∃ k v w' cnt', (Lit.int .i64 k).wf = true ∧ left k = true ∧ f k = some v ∧ (Instr.next (.pointer (some ⟨r, 0, none⟩)) false ty).run P w = .ok (.tuple #[.bool true, .int .i64 k, .int .i64 v]) w' ∧
      IRng P T w' b r f (fun x => left x && !decide (x = k)) cnt' ∧ cnt' < cnt ∧ Chg [r] w w' ∧ (Instr.entry (.pointer (some ⟨r, 0, none⟩))).run P w' = .ok (.tuple #[.int .i64 k, .int .i64 v]) w' := by
  obtain ⟨n, D, lf, h1, hf, hl⟩ := h
  rcases h1.next (Maps.int_keyed hT) ty with ⟨h0, hl0, hrun⟩ | ⟨key, v, kl, y, w', cnt', hkey, hlk, hv, hat, hrun, hrg, hlt, hgr, hsz, hen⟩
  · exact .inl ⟨h0, fun k hk => (hl k hk).1.symm.trans (hl0 _), hrun⟩
  · right
    obtain ⟨k, rfl, rfl, hk⟩ := Maps.keyOf_int_inv hT hkey
    obtain ⟨c, rfl, hc, hwc⟩ := plainElem_int_inv hT hv
    have hlk' : left k = true := (hl k hk).1.symm.trans hlk
    have hs := (hl k hk).2 hlk'
    have hfk : f k = some c := by
      have a2 := (hf k hk).2.1
      rw [hat, hc] at a2
      obtain ⟨z, hz⟩ := Option.isSome_iff_exists.1 hs
      rw [hz] at a2 ⊢
      simp only [DataW.lit.injEq, Lit.int.injEq, true_and, Option.getD_some] at a2
      rw [a2]
    refine ⟨k, c, w', cnt', hk, hlk', hfk, hrun, ⟨n, D, _, hrg, hf, fun x hx => ?_⟩, hlt, Chg.of_grown hgr (by simp), hen⟩
    have e : (Lit.int .i64 x).sameKey (.int .i64 k) = decide (x = k) := by simp [Lit.sameKey]
    rw [e, (hl x hx).1]
    refine ⟨rfl, fun h => (hl x hx).2 ?_⟩
    simp at h
    exact h.1

/-- 'len(m)'. -/
theorem IMap.len (h : IMap P T w b n f) (ht : P.underlying t = some (.map T T)) (hT : P.underlying T = some (.int .i64)) (l : List Int) (hn : l.Nodup) (hl : ∀ k, (Lit.int .i64 k).wf = true → ((f k).isSome ↔ k ∈ l)) (hw : ∀ k ∈ l, (Lit.int .i64 k).wf = true) :
    ∃ D : DataW Unit, w.ownsMap P T (plainElem P T) b n D ∧ Maps.size D = l.length := by
  obtain ⟨D, hD, hf⟩ := h
  refine ⟨D, hD, ?_⟩
  obtain ⟨es, clock, hb, F, hs, rfl⟩ := hD
  have hkeys := Maps.fit_keys F
  have hap := Maps.fit_apart (Maps.int_keyed hT) F
  have hperm := Go.WideShapes.sorted_perm (es.toList.map (WideElems.rg P T (plainElem (H := Unit) P T)))
  have hlen : (es.toList.map (WideElems.rg P T (plainElem (H := Unit) P T))).length = l.length := by
    refine Nat.le_antisymm ?_ ?_
    · have := @nodup_le Lit (fun a b => Classical.propDecidable (a = b)) ((es.toList.map (WideElems.rg P T (plainElem (H := Unit) P T))).map Prod.fst) (l.map (Lit.int .i64)) (List.pairwise_map.2 hap) (fun x hx => ?_)
      · simpa using this
      · obtain ⟨p, hp, rfl⟩ := List.mem_map.1 hx
        obtain ⟨v, hv⟩ := hkeys p hp
        obtain ⟨a, rfl, ha, hw1⟩ := Maps.keyOf_int_inv hT hv
        have h1 := (hf a hw1).1
        have h2 : Maps.has (DataW.map ((es.toList.map (WideElems.rg P T (plainElem (H := Unit) P T))).foldr DataW.insert [])) (Lit.int .i64 a) = true := by
          rw [Maps.has_eq, List.any_eq_true]
          exact ⟨p, hperm.mem_iff.2 hp, by rw [ha]; simp [Lit.sameKey]⟩
        rw [h2] at h1
        rw [ha]
        exact List.mem_map_of_mem ((hl a hw1).1 h1.symm)
    · have := @nodup_le Lit (fun a b => Classical.propDecidable (a = b)) (l.map (Lit.int .i64)) ((es.toList.map (WideElems.rg P T (plainElem (H := Unit) P T))).map Prod.fst) (List.pairwise_map.2 (hn.imp fun {a b} hab e => hab (by cases e; rfl))) (fun x hx => ?_)
      · simpa using this
      · obtain ⟨a, ha, rfl⟩ := List.mem_map.1 hx
        have h1 := (hf a (hw a ha)).1
        rw [(hl a (hw a ha)).2 ha, Maps.has_eq, List.any_eq_true] at h1
        obtain ⟨p, hp, he⟩ := h1
        have hp' := hperm.mem_iff.1 hp
        obtain ⟨v, hv⟩ := hkeys p hp'
        obtain ⟨a', rfl, ha', hw1⟩ := Maps.keyOf_int_inv hT hv
        rw [ha'] at he
        have : a' = a := by simpa [Lit.sameKey] using he
        subst this
        exact List.mem_map.2 ⟨p, hp', ha'⟩
  rw [← hlen, ← hperm.length_eq]
  rfl
end

section
variable {P : Program} {w : World} {ops : Array Oper} {rest : List Oper} {o : Oper} {a : Act} {Q : Exit → Act → World → Prop} {T t : TypeId} {b r n cnt : Nat} {f : Int → Option Int} {left : Int → Bool}
/-- 'range m'. -/
theorem wpList_range_imap (hg : o.guard = none) (m : Operand) (t : TypeId) (hop : o.op = Op.range t m) (ht : P.underlying t = some (.map T T)) (hT : P.underlying T = some (.int .i64)) (hm : a.eval m = .map (some b)) (h : IMap P T w b n f)
    (hK : ∀ w' c, IRng P T w' b w.heap.size f (fun k => (f k).isSome) c → Chg [] w w' → wpList P ops Q rest (a.put o.dst (.pointer (some ⟨w.heap.size, 0, none⟩))) w') :
    wpList P ops Q (o :: rest) a w := by
  refine wpList_plain hg fun K' hK' => ?_
  obtain ⟨w', c, hrun, r1, r2⟩ := h.range ht hT
  unfold Oper.wp
  simp [execOp, hop, hm, hrun, Result.andThen]
  exact hK' _ _ (hK w' c r1 r2)
/-- The step. -/
theorem wpList_next_irng (hg : o.guard = none) (it : Operand) (hop : o.op = Op.next it false) (hT : P.underlying T = some (.int .i64)) (hit : a.eval it = .pointer (some ⟨r, 0, none⟩)) (h : IRng P T w b r f left cnt)
    (hDone : (∀ k, (Lit.int .i64 k).wf = true → left k = false) → wpList P ops Q rest (a.put o.dst (.tuple #[.bool false])) w)
    (hMore : ∀ (k v : Int) (w' : World) (cnt' : Nat), (Lit.int .i64 k).wf = true → left k = true → f k = some v → IRng P T w' b r f (fun x => left x && !decide (x = k)) cnt' → cnt' < cnt → Chg [r] w w' →
      (Instr.entry (.pointer (some ⟨r, 0, none⟩))).run P w' = .ok (.tuple #[.int .i64 k, .int .i64 v]) w' → wpList P ops Q rest (a.put o.dst (.tuple #[.bool true, .int .i64 k, .int .i64 v])) w') :
    wpList P ops Q (o :: rest) a w := by
  refine wpList_plain hg fun K' hK' => ?_
  unfold Oper.wp
  rcases h.next hT o.type with ⟨h0, hl, hrun⟩ | ⟨k, v, w', cnt', h1, h2, h3, hrun, h4, h5, h6, h7⟩
  · simp [execOp, hop, hit, hrun, Result.andThen]
    exact hK' _ _ (hDone hl)
  · simp [execOp, hop, hit, hrun, Result.andThen]
    exact hK' _ _ (hMore k v w' cnt' h1 h2 h3 h4 h5 h6 h7)
end
end Go.Proofs.Ytgimcpnelogadaa.Mem
