/- Memory, told by whole blocks: what a block holds, which blocks a call may have changed; copy, clear and append at rows of elements of several cells. No program in sight. -/
import Derived.WalkKit
import Derived.Below
import Derived.Carry
import Derived.Laws.CopyOwn
import Derived.Lib.AppendZerosOnto
import Derived.Lib.SliceRun
import Derived.Maps.OwnSet
import Derived.Maps.Views
import Derived.Deep.AppendLies
import Derived.Deep.QuietTactic
import Derived.BigQuiet
import Derived.Deep.RegionWith
import Derived.BigRegion
import Derived.NoCompiler
import Derived.StillTailTactics
import Derived.Deep.RegionHeld3
namespace Go.Proofs.Ytgimcpnelogadaa.Mem
open Go.RowKit

/-- A fact kept from the walk. -/
structure Aside (p : Prop) : Prop where mk :: (out : p)

/-- Of the blocks that there were, those of F alone may have changed. -/
structure Chg (F : List Nat) (w w' : World) : Prop where
  os : w'.os = w.os
  tape : w'.tape = w.tape
  output : w'.output = w.output
  size : w.heap.size ≤ w'.heap.size
  block : ∀ k, k < w.heap.size → k ∉ F → w'.heap[k]? = w.heap[k]?

theorem Chg.refl (F : List Nat) (w : World) : Chg F w w := ⟨rfl, rfl, rfl, Nat.le_refl _, fun _ _ _ => rfl⟩
theorem Chg.trans {F : List Nat} {a b c : World} (h : Chg F a b) (k : Chg F b c) : Chg F a c :=
  ⟨k.os.trans h.os, k.tape.trans h.tape, k.output.trans h.output, Nat.le_trans h.size k.size, fun i hi hF => (k.block i (Nat.lt_of_lt_of_le hi h.size) hF).trans (h.block i hi hF)⟩
/-- What the second step changed was the first one's, or new. -/
theorem Chg.then {F G : List Nat} {a b c : World} (h : Chg F a b) (k : Chg G b c) (hG : ∀ x ∈ G, x ∈ F ∨ a.heap.size ≤ x) : Chg F a c :=
  ⟨k.os.trans h.os, k.tape.trans h.tape, k.output.trans h.output, Nat.le_trans h.size k.size, fun i hi hF => (k.block i (Nat.lt_of_lt_of_le hi h.size) (fun hx => (hG i hx).elim hF (fun hle => by omega))).trans (h.block i hi hF)⟩
theorem Chg.mono {F G : List Nat} {w w' : World} (h : Chg F w w') (hF : ∀ x ∈ F, x ∈ G) : Chg G w w' := ⟨h.os, h.tape, h.output, h.size, fun k hk hG => h.block k hk (fun hx => hG (hF k hx))⟩
theorem Chg.below {w w' : World} (h : Chg [] w w') : Below w.heap.size w w' := ⟨h.os, h.tape, h.output, h.size, fun k hk => h.block k hk (by simp)⟩
theorem Chg.of_below {F : List Nat} {w w' : World} (h : Below w.heap.size w w') : Chg F w w' := ⟨h.os, h.tape, h.output, h.size, fun k hk _ => h.block k hk⟩
theorem Chg.of_grown {F : List Nat} {w w' : World} {row : Option Nat} (h : w.grownBy w' row) (hr : ∀ k, row = some k → k ∈ F ∨ w.heap.size ≤ k) : Chg F w w' :=
  ⟨h.os, h.tape, h.output, h.size, fun k hk hF => h.block k hk (fun e => (hr k e.symm).elim hF (fun hle => by omega))⟩
theorem Chg.alloc {F : List Nat} {a w : World} (h : Chg F a w) (o : Obj) : Chg F a (w.alloc o) :=
  h.trans ⟨rfl, rfl, rfl, by simp, fun k hk _ => Below.heap_alloc _ _ _ hk⟩
theorem Chg.setCell {F : List Nat} {a w : World} (h : Chg F a w) {p : Addr} (hp : p.block ∈ F ∨ a.heap.size ≤ p.block) (u : Value) : Chg F a (w.setCell p u) :=
  h.then (G := [p.block]) ⟨rfl, rfl, rfl, by simp [World.setCell], fun k _ hF => Below.heap_setCell _ _ _ _ (by simpa using hF)⟩ (by simpa using hp)
theorem Chg.setRow {F : List Nat} {a w : World} (h : Chg F a w) {g : Nat} (hp : g ∈ F ∨ a.heap.size ≤ g) (cs : Array Value) : Chg F a (w.setRow g cs) :=
  h.then (G := [g]) ⟨rfl, rfl, rfl, by simp [World.setRow], fun k _ hF => setRow_other w g k cs (by simpa using hF)⟩ (by simpa using hp)
theorem Chg.drew {F : List Nat} {a w : World} (h : Chg F a w) : Chg F a w.drew := ⟨h.os, h.tape, h.output, h.size, h.block⟩
theorem Chg.drewN {F : List Nat} {a w : World} (h : Chg F a w) (n : Nat) : Chg F a (w.drewN n) := ⟨h.os, h.tape, h.output, h.size, h.block⟩
/-- A block stays what it is. -/
theorem Chg.obj {F : List Nat} {w w' : World} (h : Chg F w w') {g : Nat} {o : Obj} (ho : w.heap[g]? = some o) (hg : g ∉ F) : w'.heap[g]? = some o :=
  (h.block g (Array.getElem?_eq_some_iff.1 ho).1 hg).trans ho

theorem cell_below {w w' : World} (h : Below w.heap.size w w') {a : Addr} {v : Value} (hc : w.cell? a = some v) : w'.cell? a = some v := (h.cell (World.block_lt_of_cell? w a hc)).trans hc
theorem cell_chg {F : List Nat} {w w' : World} (h : Chg F w w') {a : Addr} {v : Value} (hc : w.cell? a = some v) (hF : a.block ∉ F) : w'.cell? a = some v :=
  (World.cell?_of_block (h.block a.block (World.block_lt_of_cell? w a hc) hF)).trans hc
/-- Block g is a row of these cells, each of which may be written. -/
def Blk (w : World) (g : Nat) (t : TypeId) (cs : List Value) : Prop := w.heap[g]? = some (.cells cs.toArray t (0, 0))

section
variable {w w' : World} {g : Nat} {t : TypeId} {cs : List Value}
theorem Blk.lt (h : Blk w g t cs) : g < w.heap.size := (Array.getElem?_eq_some_iff.1 h).1
theorem Blk.cell (h : Blk w g t cs) (i : Nat) : w.cell? ⟨g, i, none⟩ = cs[i]? := by simp [World.cell?, show w.heap[g]? = _ from h]
theorem Blk.cellAt (h : Blk w g t cs) {i : Nat} {v : Value} (hv : cs[i]? = some v) : w.cell? ⟨g, i, none⟩ = some v := (h.cell i).trans hv
theorem Blk.frozen (h : Blk w g t cs) (i : Nat) : w.frozen? ⟨g, i, none⟩ = false := by simp [World.frozen?, show w.heap[g]? = _ from h]
theorem Blk.chg {F : List Nat} (h : Blk w g t cs) (hc : Chg F w w') (hg : g ∉ F) : Blk w' g t cs := hc.obj h hg
theorem Blk.keep (h : Blk w g t cs) (hc : w'.heap[g]? = w.heap[g]?) : Blk w' g t cs := hc.trans h
theorem Blk.alloc (h : Blk w g t cs) (o : Obj) : Blk (w.alloc o) g t cs := (Below.heap_alloc w o g h.lt).trans h
theorem Blk.drew (h : Blk w g t cs) : Blk w.drew g t cs := h
theorem Blk.drewN (h : Blk w g t cs) (n : Nat) : Blk (w.drewN n) g t cs := h
theorem Blk.new (w : World) (c : Array Value) (t : TypeId) : Blk (w.alloc (.cells c t)) w.heap.size t c.toList := by
  unfold Blk; rw [Array.toArray_toList]; exact heap_alloc_new w _
/-- A new block, as the walk spells it. -/
theorem Blk.newL {w : World} {B : Nat} {t : TypeId} (cs : List Value) (hB : B = w.heap.size) : Blk (w.alloc (.cells cs.toArray t)) B t cs := by
  subst hB; exact heap_alloc_new w _
theorem addr_add (g o j : Nat) : (⟨g, o, none⟩ : Addr).add j = ⟨g, o + j, none⟩ := by unfold Addr.add; split <;> simp_all
/-- The cells of a part of a block, as laws ask them. -/
theorem Blk.from (h : Blk w g t cs) {o : Nat} {xs : List Value} (hx : ∀ j u, xs[j]? = some u → cs[o + j]? = some u) : ∀ j u, xs[j]? = some u → w.cell? ((⟨g, o, none⟩ : Addr).add j) = some u :=
  fun j u hu => by rw [addr_add]; exact (h.cell _).trans (hx j u hu)
theorem Blk.set (h : Blk w g t cs) (i : Nat) (u : Value) : Blk (w.setCell ⟨g, i, none⟩ u) g t (cs.set i u) := by
  unfold Blk at h ⊢
  rw [setCell_eq_setRow w g i cs.toArray t (0, 0) u h, setRow_heap w g _ _ t _ h]
  simp
theorem Blk.far (h : Blk w g t cs) {p : Addr} (hp : g ≠ p.block) (u : Value) : Blk (w.setCell p u) g t cs := (Below.heap_setCell w p u g hp).trans h
theorem Blk.setRow (h : Blk w g t cs) (ds : List Value) : Blk (w.setRow g ds.toArray) g t ds := by
  unfold Blk at h ⊢
  exact setRow_heap w g _ _ t _ h
theorem Blk.farRow (h : Blk w g t cs) {k : Nat} (hk : g ≠ k) (ds : Array Value) : Blk (w.setRow k ds) g t cs := (setRow_other w k g ds hk).trans h
theorem Blk.inj {t' : TypeId} {ds : List Value} (h : Blk w g t cs) (h' : Blk w g t' ds) : t = t' ∧ cs = ds := by
  have := h.symm.trans h'
  simp at this
  exact ⟨this.2, this.1⟩
end

/-! ## An operation whose run is known. -/
section
variable {P : Program} (w : World) {ops : Array Oper} {rest : List Oper} {o : Oper} {a : Act} {Q : Exit → Act → World → Prop}
theorem wp_builtin {K : Act → World → Prop} (b : Builtin) (args : Array Operand) (ts : Array TypeId) (ho : o.op = .call { callee := .builtin b, args := args, argTypes := ts }) (vs : Array Value) (hvs : args.map a.eval = vs)
    (v' : Value) (w' : World) (hr : ∀ consts, (builtin b ts o.type consts vs).run P w = .ok (.value v') w') (h : K (a.put o.dst v') w') : o.wp P a w K Q := by
  unfold Oper.wp execOp
  simp only [ho, resolve, invoke, Sem.run_bind, Sem.run_pure, Result.andThen_ok, hvs, hr]
  exact h
/-- A builtin's call, its run being known as an equation. -/
theorem wpList_builtin (hgd : o.guard = none) (b : Builtin) (args : Array Operand) (ts : Array TypeId) (ho : o.op = .call { callee := .builtin b, args := args, argTypes := ts }) (vs : Array Value) (hvs : args.map a.eval = vs)
    (v' : Value) (w' : World) (hr : ∀ consts, (builtin b ts o.type consts vs).run P w = .ok (.value v') w') (h : wpList P ops Q rest (a.put o.dst v') w') : wpList P ops Q (o :: rest) a w :=
  wpList_plain hgd fun _ hK => wp_builtin w b args ts ho vs hvs v' w' hr (hK _ _ h)
/-- .. as one step of a region that draws its order. -/
theorem step_builtin {K : Act → World → Prop} {E : Prop} (hgd : o.guard = none) (b : Builtin) (args : Array Operand) (ts : Array TypeId) (ho : o.op = .call { callee := .builtin b, args := args, argTypes := ts }) (vs : Array Value) (hvs : args.map a.eval = vs)
    (v' : Value) (w' : World) (hr : ∀ consts, (builtin b ts o.type consts vs).run P w = .ok (.value v') w') (h : K (a.put o.dst v') w') :
    if Region.wanted o (yielded ops a.tmps) = true then Oper.wp P o a w K Q else E := by
  have hw : Region.wanted o (yielded ops a.tmps) = true := by simp [Region.wanted, hgd]
  rw [if_pos hw]
  exact wp_builtin w b args ts ho vs hvs v' w' hr h
end

/-- A region that draws its order: all but a forced tail only read. -/
theorem region_tail {P : Program} {id : Nat} {Q : Exit → Act → World → Prop} {a : Act} {w : World} {l : List Oper} (n : Nat) (hm : P.follows .mixedOrders = true) (hB : Region.lexTailB .any l.toArray n = true)
    (h : wpStill P l.toArray w.drew (fun a' => wpList P l.toArray Q (l.drop n) a' w.drew) (l.take n) a) : (Code.region id l.toArray true).wp P Q a w := wp_region_still_tail n hm hB h
/-- A contract that leaves the world alone, as 'still_call' asks it. -/
theorem calls_same {P : Program} {f : FuncId} {args : Array Value} {w : World} {v : Value} (h : Calls P f args w fun e w' => e = .returned v ∧ w = w') : Calls P f args w fun e w' => e = .returned v ∧ w' = w :=
  h.mono fun _ _ ⟨he, hw⟩ => ⟨he, hw.symm⟩

/-! ## copy, clear, append at elements of several cells. -/
section
variable {P : Program} (w : World)

theorem splice_def {α : Type} (L : List α) (off : Nat) (cs : List α) : splice L off cs = L.take off ++ cs ++ L.drop (off + cs.length) := by simp [splice]

theorem run_store_blk (P : Program) {g : Nat} {t : TypeId} {cur : List Value} (h : Blk w g t cur) (o : Nat) (vs : List Value) (hfit : o + vs.length ≤ cur.length) (h1 : ∀ v ∈ vs, v.oneCell' = true) :
    (storeCells ⟨g, o, none⟩ vs 0).run P w = .ok () (w.setRow g (splice cur o vs).toArray) := by
  have := run_storeCells_at P g o t vs 0 cur.toArray w h (by simpa using hfit) h1
  simpa [splice_def] using this

/-- copy(dst, src): what goes over is cs. -/
theorem run_copy_blk {dT sT ty elem : TypeId} {size : Nat} (hu : P.underlying dT = some (.slice elem)) (hs : (P.info? elem).map (·.size) = some size)
    {g o dLen dCap : Nat} {ad : Addr} {sLen sCap : Nat} {t : TypeId} {cur : List Value} (hg : Blk w g t cur) {cs : List Value} (hn : cs.length = Nat.min sLen dLen * size)
    (hsrc : ∀ j v, cs[j]? = some v → w.cell? (ad.add j) = some v) (hfit : o + cs.length ≤ cur.length) (h1 : ∀ v ∈ cs, v.oneCell' = true) (consts : Array Bool) :
    (builtin .copy #[dT, sT] ty consts #[.slice (some ⟨g, o, none⟩) dLen dCap, .slice (some ad) sLen sCap]).run P w = .ok (.value (.int .i64 (Nat.min sLen dLen))) (w.setRow g (splice cur o cs).toArray) := by
  have hl := run_loadCells_list (P := P) w ad cs hsrc
  have hst := run_store_blk w P hg o cs hfit h1
  cases hq : P.info? elem with
  | none => simp [hq] at hs
  | some i =>
    have hi : i.size = size := by simpa [hq] using hs
    simp [builtin, Builtin.copy_, run_underlying hu, Builtin.lenOf, Builtin.firstCells, sizeOf, typeInfo, hq, hi, ← hn, hl, hst, goInt]
theorem run_copy_zero {dT sT ty elem : TypeId} (hu : P.underlying dT = some (.slice elem)) (hs : ((P.info? elem).map (·.size)).isSome = true)
    {dp sp : Option Addr} {dLen dCap sLen sCap : Nat} (hn : Nat.min sLen dLen = 0) (consts : Array Bool) :
    (builtin .copy #[dT, sT] ty consts #[.slice dp dLen dCap, .slice sp sLen sCap]).run P w = .ok (.value (.int .i64 0)) w := by
  cases hq : P.info? elem with
  | none => simp [hq] at hs
  | some i => cases dp <;> cases sp <;> simp [builtin, Builtin.copy_, run_underlying hu, Builtin.lenOf, Builtin.firstCells, sizeOf, typeInfo, hq, hn, storeCells, loadCells, loadCellsFrom, goInt]

theorem zeroCells_length (z : Array Value) (n : Nat) : (Builtin.zeroCells z n).toList.length = n * z.size := by simp [Builtin.zeroCells]
theorem zeroCells_one {z : Array Value} (h1 : ∀ v ∈ z.toList, v.oneCell' = true) (n : Nat) : ∀ v ∈ (Builtin.zeroCells z n).toList, v.oneCell' = true := by
  intro v hv
  unfold Builtin.zeroCells at hv
  simp only [Array.toList_map, List.mem_map, Array.mem_toList_iff, Array.mem_range] at hv
  obtain ⟨i, hi, rfl⟩ := hv
  have h0 : 0 < z.size := by
    rcases Nat.eq_zero_or_pos z.size with h | h
    · rw [h] at hi; omega
    · exact h
  have hm : i % z.size < z.size := Nat.mod_lt _ h0
  rw [getElem!_pos z _ hm]
  exact h1 _ (Array.mem_toList_iff.2 (Array.getElem_mem hm))

/-- clear(s). -/
theorem run_clear_blk {t e ty : TypeId} {z : Value} (ht : P.underlying t = some (.slice e)) (hv : ∀ w, (zeroValue e).run P w = .ok z w) (h1 : ∀ v ∈ z.cells.toList, v.oneCell' = true)
    {g o n c : Nat} {t' : TypeId} {cur : List Value} (hg : Blk w g t' cur) (hfit : o + n * z.cells.size ≤ cur.length) (consts : Array Bool) :
    (builtin .clear #[t] ty consts #[.slice (some ⟨g, o, none⟩) n c]).run P w = .ok (.value (.tuple #[])) (w.setRow g (splice cur o (Builtin.zeroCells z.cells n).toList).toArray) := by
  have hst := run_store_blk w P hg o (Builtin.zeroCells z.cells n).toList (by rw [zeroCells_length]; exact hfit) (zeroCells_one h1 n)
  cases n with
  | zero =>
    have hz0 : (Builtin.zeroCells z.cells 0).toList = [] := List.eq_nil_of_length_eq_zero (by rw [zeroCells_length]; simp)
    rw [hz0] at hst ⊢
    simp only [storeCells] at hst
    have he : w.setRow g (splice cur o []).toArray = w := by
      simp only [splice, List.length_nil, Nat.add_zero, List.nil_append, List.take_append_drop]
      exact setRow_self w g _ _ _ hg
    rw [he]
    simp [builtin, Builtin.clear_, run_underlying ht]
  | succ m => simp [builtin, Builtin.clear_, run_underlying ht, hv, hst]
theorem run_clear_none {t e ty : TypeId} (ht : P.underlying t = some (.slice e)) {n c : Nat} (consts : Array Bool) :
    (builtin .clear #[t] ty consts #[.slice none n c]).run P w = .ok (.value (.tuple #[])) w := by
  simp [builtin, Builtin.clear_, run_underlying ht]
theorem run_clear_zero {t e ty : TypeId} (ht : P.underlying t = some (.slice e)) {a : Option Addr} {c : Nat} (consts : Array Bool) :
    (builtin .clear #[t] ty consts #[.slice a 0 c]).run P w = .ok (.value (.tuple #[])) w := by
  cases a <;> simp [builtin, Builtin.clear_, run_underlying ht]

/-- append(s, x..) where there is room. -/
theorem run_append_room_blk {t ty e : TypeId} {i : TypeInfo} (ht : P.underlying t = some (.slice e)) (hi : P.info? e = some i)
    {g o sLen sCap : Nat} {t' : TypeId} {cur : List Value} (hg : Blk w g t' cur) {ad : Addr} {m c : Nat} {news : List Value} (hl : news.length = m * i.size) (hnews : ∀ j u, news[j]? = some u → w.cell? (ad.add j) = some u)
    (h1 : ∀ u ∈ news, u.oneCell' = true) (hroom : sLen + m ≤ sCap) (hfit : o + sLen * i.size + news.length ≤ cur.length) (consts : Array Bool) :
    (builtin .append #[t, t] ty consts #[.slice (some ⟨g, o, none⟩) sLen sCap, .slice (some ad) m c]).run P w =
      .ok (.value (.slice (some ⟨g, o, none⟩) (sLen + m) sCap)) (w.setRow g (splice cur (o + sLen * i.size) news).toArray) := by
  have hf := run_firstCells_some (P := P) w i.size m ad m c news hl hnews
  have hst := run_store_blk w P hg (o + sLen * i.size) news hfit h1
  have hadd : (⟨g, o, none⟩ : Addr).add (sLen * i.size) = ⟨g, o + sLen * i.size, none⟩ := by unfold Addr.add; split <;> simp_all
  simp [builtin, Builtin.append_, run_underlying ht, sizeOf, typeInfo, hi, Builtin.lenOf, hroom, hf, hadd, hst]
/-- append(s, x..), x of no element. -/
theorem run_append_zero {t ty e : TypeId} {i : TypeInfo} (ht : P.underlying t = some (.slice e)) (hi : P.info? e = some i)
    {a ad : Option Addr} {sLen sCap c : Nat} (hroom : sLen ≤ sCap) (consts : Array Bool) :
    (builtin .append #[t, t] ty consts #[.slice a sLen sCap, .slice ad 0 c]).run P w = .ok (.value (.slice a sLen sCap)) w := by
  cases a <;> cases ad <;> simp [builtin, Builtin.append_, run_underlying ht, sizeOf, typeInfo, hi, Builtin.lenOf, hroom, Builtin.firstCells, loadCells, loadCellsFrom, storeCells]
/-- append(s, make([]T, k)...) where there is room. -/
theorem run_append_zeros_blk {t tn ty e : TypeId} {i : TypeInfo} {z : Value} {kq kn : IntKind} (ht : P.underlying t = some (.slice e)) (htn : P.underlying tn = some (.int kn)) (hi : P.info? e = some i) (hz : i.zero = some z) (hzs : z.cells.size = i.size) (hs : 0 < i.size)
    {g o sLen sCap : Nat} {t' : TypeId} {cur : List Value} (hg : Blk w g t' cur) {k : Nat} (h0 : 0 < k) (h1 : ∀ u ∈ z.cells.toList, u.oneCell' = true) (h48 : k * i.bytes ≤ 281474976710656) (hk63 : k ≤ 9223372036854775807)
    (hroom : sLen + k ≤ sCap) (hfit : o + sLen * i.size + k * i.size ≤ cur.length) (consts : Array Bool) :
    (builtin .append #[t, tn] ty consts #[.slice (some ⟨g, o, none⟩) sLen sCap, .int kq k]).run P w =
      .ok (.value (.slice (some ⟨g, o, none⟩) (sLen + k) sCap)) (w.setRow g (splice cur (o + sLen * i.size) (Builtin.zeroCells z.cells k).toList).toArray) := by
  have hst := run_store_blk w P hg (o + sLen * i.size) (Builtin.zeroCells z.cells k).toList (by rw [zeroCells_length, hzs]; exact hfit) (zeroCells_one h1 k)
  have hadd : (⟨g, o, none⟩ : Addr).add (sLen * i.size) = ⟨g, o + sLen * i.size, none⟩ := by unfold Addr.add; split <;> simp_all
  have hw : IntKind.i64.wrap (k : Int) = k := by rw [IntKind.wrap_i64]; omega
  have h48i : ¬ (281474976710656 < (k : Int) * (i.bytes : Int)) := by rw [← Int.natCast_mul]; omega
  have hneg : ¬ ((k : Int) < 0) := by omega
  have hns : ¬ (k * i.size = 0) := Nat.mul_ne_zero (by omega) (by omega)
  simp [builtin, Builtin.append_, run_underlying ht, run_underlying htn, sizeOf, typeInfo, zeroValue, hi, hz, asInt, asIntOf, hw, hneg, hns, h48i, hroom, hadd, hst]
end

/-! ## A row that is owned, by its block. -/
/-- The slice value v, of n elements of size cells each, owns the cells xs. -/
def Row (w : World) (t : TypeId) (size : Nat) (v : Value) (n : Nat) (xs : List Value) : Prop := w.ownsRow 0 t size v n xs

theorem Row.of_owns {w : World} {base : Nat} {t : TypeId} {size : Nat} {v : Value} {n : Nat} {xs : List Value} (h : w.ownsRow base t size v n xs) : Row w t size v n xs := by
  refine ⟨h.1, ?_⟩
  rcases h.2 with hn | ⟨g, cap, cur, rfl, hb, r⟩
  · exact .inl hn
  · exact .inr ⟨g, cap, cur, rfl, Nat.zero_le _, r⟩
theorem Row.nil (w : World) (t : TypeId) (size : Nat) : Row w t size (.slice none 0 0) 0 [] := World.ownsRow_nil _ _ _ _
theorem Row.length {w : World} {t : TypeId} {size : Nat} {v : Value} {n : Nat} {xs : List Value} (h : Row w t size v n xs) : xs.length = n * size := h.1
/-- Opened: nil, or the head of a block. -/
theorem Row.cases {w : World} {t : TypeId} {size : Nat} {v : Value} {n : Nat} {xs : List Value} (h : Row w t size v n xs) :
    (v = .slice none 0 0 ∧ n = 0 ∧ xs = []) ∨ ∃ g cap rest, v = .slice (some ⟨g, 0, none⟩) n cap ∧ Blk w g t (xs ++ rest) ∧ n ≤ cap ∧ cap ≤ 9223372036854775807 ∧ (xs ++ rest).length = cap * size := by
  rcases h.2 with ⟨rfl, rfl⟩ | ⟨g, cap, cur, rfl, _, hg, h1, h2, h3, h4⟩
  · exact .inl ⟨rfl, rfl, List.eq_nil_of_length_eq_zero (by simpa using h.1)⟩
  · refine .inr ⟨g, cap, cur.toList.drop (n * size), rfl, ?_, h1, (by simpa only [maxLen] using h2), ?_⟩
    · unfold Blk
      rw [← h4, List.take_append_drop]
      exact hg
    · rw [← h4, List.take_append_drop]
      simpa using h3
theorem Row.mk {w : World} {t : TypeId} {size : Nat} {g n cap : Nat} {xs rest : List Value} (h : Blk w g t (xs ++ rest)) (hx : xs.length = n * size) (hn : n ≤ cap) (hc : cap ≤ 9223372036854775807) (hl : (xs ++ rest).length = cap * size) :
    Row w t size (.slice (some ⟨g, 0, none⟩) n cap) n xs :=
  ⟨hx, .inr ⟨g, cap, (xs ++ rest).toArray, rfl, Nat.zero_le _, h, hn, (by simpa only [maxLen] using hc), by simpa using hl, by simp [← hx]⟩⟩
theorem Row.lt {w : World} {t : TypeId} {size : Nat} {v : Value} {n : Nat} {xs : List Value} (h : Row w t size v n xs) {g : Nat} (hg : v.ownBlock = some g) : g < w.heap.size := (World.ownsRow.lt h g hg).2
theorem Row.keep {w w' : World} {t : TypeId} {size : Nat} {v : Value} {n : Nat} {xs : List Value} (h : Row w t size v n xs) (hk : ∀ g, v.ownBlock = some g → w'.heap[g]? = w.heap[g]?) : Row w' t size v n xs := by
  refine ⟨h.1, ?_⟩
  rcases h.2 with hn | ⟨g, cap, cur, rfl, hb, hgg, rest⟩
  · exact .inl hn
  · exact .inr ⟨g, cap, cur, rfl, hb, (hk g rfl).trans hgg, rest⟩
theorem Row.typed {w : World} {t : TypeId} {size : Nat} {v : Value} {n : Nat} {xs : List Value} (h : Row w t size v n xs) {g : Nat} (hg : v.ownBlock = some g) : ∃ cs, Blk w g t cs := by
  rcases h.cases with ⟨rfl, _, _⟩ | ⟨g', cap, rest, rfl, hb, _⟩
  · cases hg
  · cases hg; exact ⟨_, hb⟩
/-- Cut shorter. -/
theorem Row.cut {w : World} {t : TypeId} {size : Nat} {g n cap : Nat} {xs : List Value} (h : Row w t size (.slice (some ⟨g, 0, none⟩) n cap) n xs) {m : Nat} (hm : m ≤ n) : Row w t size (.slice (some ⟨g, 0, none⟩) m cap) m (xs.take (m * size)) := by
  rcases h.cases with ⟨h', _⟩ | ⟨g', cap', rest, he, hb, h1, h2, h3⟩
  · cases h'
  · cases he
    refine Row.mk (rest := xs.drop (m * size) ++ rest) ?_ ?_ (by omega) h2 ?_
    · rw [← List.append_assoc, List.take_append_drop]; exact hb
    · rw [List.length_take, h.length]; exact Nat.min_eq_left (Nat.mul_le_mul_right _ hm)
    · rw [← List.append_assoc, List.take_append_drop]; exact h3

/-! ## A map of whole numbers. -/
/-- Block b is a map from int to int that has what f tells, of at most n entries. -/
def IMap (P : Program) (T : TypeId) (w : World) (b n : Nat) (f : Int → Option Int) : Prop :=
  ∃ D : DataW Unit, w.ownsMap P T (plainElem P T) b n D ∧ ∀ k : Int, (Lit.int .i64 k).wf = true →
    Maps.has D (.int .i64 k) = (f k).isSome ∧ D.atKey (.int .i64 k) (.lit (.int .i64 0)) = .lit (.int .i64 ((f k).getD 0)) ∧ (Lit.int .i64 ((f k).getD 0)).wf = true

section
variable {P : Program} {T : TypeId} {w w' : World} {b n : Nat} {f : Int → Option Int}
theorem IMap.lt (h : IMap P T w b n f) : b < w.heap.size := by obtain ⟨D, hD, _⟩ := h; exact hD.lt
theorem IMap.keep (h : IMap P T w b n f) (hk : w'.heap[b]? = w.heap[b]?) : IMap P T w' b n f := by
  obtain ⟨D, ⟨es, clock, hb, F, hs, hD⟩, hf⟩ := h
  exact ⟨D, ⟨es, clock, hk.trans hb, F, hs, hD⟩, hf⟩
theorem IMap.block (h : IMap P T w b n f) : ∃ es clock, w.heap[b]? = some (.map es clock) := by
  obtain ⟨D, ⟨es, clock, hb, _⟩, _⟩ := h
  exact ⟨es, clock, hb⟩
theorem IMap.made (P : Program) (T : TypeId) (w : World) : IMap P T (w.alloc (.map #[] 0)) w.heap.size 0 (fun _ => none) :=
  ⟨.map [], World.ownsMap_made w P T _, fun k _ => ⟨by simp [Maps.has], by simp [DataW.atKey], by show (Lit.int .i64 0).wf = true; decide⟩⟩
theorem IMap.congr (h : IMap P T w b n f) {g : Int → Option Int} (hg : ∀ k, (Lit.int .i64 k).wf = true → g k = f k) : IMap P T w b n g := by
  obtain ⟨D, hD, hf⟩ := h
  exact ⟨D, hD, fun k hk => by rw [hg k hk]; exact hf k hk⟩
theorem IMap.mono (h : IMap P T w b n f) {m : Nat} (hm : n ≤ m) : IMap P T w b m f := by
  obtain ⟨D, hD, hf⟩ := h
  exact ⟨D, hD.mono hm, hf⟩
/-- 'v, ok := m[k]'. -/
theorem IMap.look (h : IMap P T w b n f) {t : TypeId} (ht : P.underlying t = some (.map T T)) (hT : P.underlying T = some (.int .i64)) (hz : (zeroValue T).run P w = .ok (.int .i64 0) w) (k : Int) (hk : (Lit.int .i64 k).wf = true) :
    (Instr.lookup t (.map (some b)) (.int .i64 k) true).run P w = .ok (.tuple #[.int .i64 ((f k).getD 0), .bool (f k).isSome]) w := by
  obtain ⟨D, hD, hf⟩ := h
  obtain ⟨h1, h2, h3⟩ := hf k hk
  obtain ⟨v, ps, hrun, hv⟩ := hD.look_ok (Maps.int_keyed hT) ht hz (plainElem_int hT (by decide)) (Maps.keyOf_int_mk hT hk)
  obtain ⟨c, rfl, hc, _⟩ := plainElem_int_inv hT hv
  rw [h2] at hc
  simp only [Prod.mk.injEq, DataW.lit.injEq, Lit.int.injEq, true_and] at hc
  rw [hrun, h1, hc.1]
/-- 'm[k] = v'. -/
theorem IMap.store (h : IMap P T w b n f) {t : TypeId} (ht : P.underlying t = some (.map T T)) (hT : P.underlying T = some (.int .i64)) (hn : n < 9223372036854775807) (k v : Int) (hk : (Lit.int .i64 k).wf = true) (hv : (Lit.int .i64 v).wf = true) :
    ∃ w', (Instr.mapUpdate t (.map (some b)) (.int .i64 k) (.int .i64 v)).run P w = .ok () w' ∧ IMap P T w' b (n + 1) (fun x => if x = k then some v else f x) ∧ Chg [b] w w' := by
  obtain ⟨D, hD, hf⟩ := h
  obtain ⟨w', hrun, h1, h2⟩ := hD.update (Maps.int_keyed hT) ht (by simpa only [maxLen] using hn) (Maps.keyOf_int_mk hT hk) (plainElem_int hT hv)
  refine ⟨w', hrun, ⟨_, h1, fun x hx => ?_⟩, Chg.of_grown h2 (by simp)⟩
  by_cases hxk : x = k
  · subst hxk
    simp only [if_true, Option.isSome_some, Option.getD_some]
    exact ⟨Maps.has_put_same hD.isMap (by simp [WideAt.IsKeyLit]) _, Maps.atKey_put_same hD.isMap (by simp [WideAt.IsKeyLit]) _ _, hv⟩
  · have hne : (Lit.int .i64 x) ≠ Lit.int .i64 k := fun e => hxk (by cases e; rfl)
    simp only [if_neg hxk]
    obtain ⟨a1, a2, a3⟩ := hf x hx
    exact ⟨(Maps.has_put_other hne _).trans a1, (Maps.atKey_put_other hne _ _).trans a2, a3⟩
/-- 'delete(m, k)'. -/
theorem IMap.drop (h : IMap P T w b n f) {t : TypeId} (ht : P.underlying t = some (.map T T)) (hT : P.underlying T = some (.int .i64)) (k : Int) (hk : (Lit.int .i64 k).wf = true) (ty : TypeId) (consts : Array Bool) :
    ∃ w', (builtin .delete #[t, T] ty consts #[.map (some b), .int .i64 k]).run P w = .ok (.value (.tuple #[])) w' ∧ IMap P T w' b n (fun x => if x = k then none else f x) ∧ Chg [b] w w' := by
  obtain ⟨D, hD, hf⟩ := h
  obtain ⟨w', hrun, h1, h2⟩ := hD.drop (Maps.int_keyed hT) ht (Maps.keyOf_int_mk hT hk) ty
  refine ⟨w', by simp [builtin, hrun], ⟨_, h1, fun x hx => ?_⟩, Chg.of_grown h2.grown (by simp)⟩
  by_cases hxk : x = k
  · subst hxk
    simp only [if_true, Option.isSome_none, Option.getD_none]
    exact ⟨Maps.has_del_same, Maps.atKey_del_same _, by decide⟩
  · have hne : (Lit.int .i64 x) ≠ Lit.int .i64 k := fun e => hxk (by cases e; rfl)
    simp only [if_neg hxk]
    obtain ⟨a1, a2, a3⟩ := hf x hx
    exact ⟨(Maps.has_del_other hne).trans a1, (Maps.atKey_del_other hne _).trans a2, a3⟩
/-- Distinct things among those of a list are no more than it has. -/
theorem nodup_le {α : Type} [DecidableEq α] : ∀ (K l : List α), K.Nodup → (∀ x ∈ K, x ∈ l) → K.length ≤ l.length
  | [], _, _, _ => Nat.zero_le _
  | x :: xs, l, hn, hs => by
    have hx := hs x (by simp)
    have hn' := List.nodup_cons.1 hn
    have := nodup_le xs (l.erase x) hn'.2 (fun y hy => (List.mem_erase_of_ne (fun e : y = x => hn'.1 (e ▸ hy))).2 (hs y (by simp [hy])))
    rw [List.length_erase_of_mem hx] at this
    have : 0 < l.length := List.length_pos_of_mem hx
    simp; omega
/-- The bound is what is there. -/
theorem IMap.tight (h : IMap P T w b n f) (hT : P.underlying T = some (.int .i64)) (l : List Int) (hl : ∀ k, (f k).isSome → k ∈ l) : IMap P T w b l.length f := by
  obtain ⟨D, ⟨es, clock, hb, F, hs, rfl⟩, hf⟩ := h
  refine ⟨_, ⟨es, clock, hb, F, ?_, rfl⟩, hf⟩
  have hkeys := Maps.fit_keys F
  have hap := Maps.fit_apart (Maps.int_keyed hT) F
  have hperm := Go.WideShapes.sorted_perm (es.toList.map (WideElems.rg P T (plainElem (H := Unit) P T)))
  have := @nodup_le Lit (fun a b => Classical.propDecidable (a = b)) ((es.toList.map (WideElems.rg P T (plainElem (H := Unit) P T))).map Prod.fst) (l.map (Lit.int .i64)) (List.pairwise_map.2 hap) (fun x hx => ?_)
  · simpa using this
  · obtain ⟨p, hp, rfl⟩ := List.mem_map.1 hx
    obtain ⟨v, hv⟩ := hkeys p hp
    have hm : ∃ a, p.1 = Lit.int .i64 a ∧ (Lit.int .i64 a).wf = true := by
      unfold keyOf at hv
      rw [hT] at hv
      cases v <;> simp [mapKey, hT] at hv
      obtain ⟨⟨rfl, hw⟩, he⟩ := hv
      exact ⟨_, he.symm, hw⟩
    obtain ⟨a, ha, hw⟩ := hm
    have h1 := (hf a hw).1
    have h2 : Maps.has (DataW.map ((es.toList.map (WideElems.rg P T (plainElem (H := Unit) P T))).foldr DataW.insert [])) (Lit.int .i64 a) = true := by
      rw [Maps.has_eq, List.any_eq_true]
      exact ⟨p, hperm.mem_iff.2 hp, by rw [ha]; simp [Lit.sameKey]⟩
    rw [h2] at h1
    rw [ha]
    exact List.mem_map_of_mem (hl a h1.symm)
end
end Go.Proofs.Ytgimcpnelogadaa.Mem
