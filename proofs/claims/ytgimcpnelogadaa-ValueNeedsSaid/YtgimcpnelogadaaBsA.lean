/- Merged: MemA MemB MemD StP StQ StA StB StC StD StE StF StG StH StI StJ StK StL MemC StM StN. -/
import Derived.WalkKit
import Derived.Below
import Derived.Carry
import Derived.Laws.CopyOwn
import Derived.Lib.AppendZerosOnto
import Derived.Lib.SliceRun
import Derived.Maps.OwnSet
import Derived.Maps.Views
import Derived.Deep.AppendLies
import Derived.Deep.QuietTactic
import Derived.BigQuiet
import Derived.Deep.RegionWith
import Derived.BigRegion
import Derived.NoCompiler
import Derived.StillTailTactics
import Derived.Deep.RegionHeld3
import Derived.Test.YtgimcpnelogadaaProg
import Derived.Lib.Hide
import Derived.WalkLawsBesides
import Derived.WalkSpells
import Derived.Deep.DeepFit
import Derived.Outline
import Derived.Lib.QuoteBits
import Derived.RangeFuncNested
import Derived.RangeFuncBound
import Derived.RangeFuncCalls
import Derived.RangeFuncLeaves
import Derived.RangeFuncBox
import Derived.Shelf.Abstract
import Derived.Shelf.RegionOpen
import Derived.OwnWalkIn
import Derived.TacticsInMore
import Derived.LoopNIn
import Derived.LoopIn
import Derived.WalkMore
import Derived.OrdersIn
import Derived.TacticsIn
import Derived.Lib.Overlaps
/- Memory, told by whole blocks: what a block holds, which blocks a call may have changed; copy, clear and append at rows of elements of several cells. No program in sight. -/
namespace Go.Proofs.Ytgimcpnelogadaa.Mem
open Go.RowKit

/-- A fact kept from the walk. -/
structure Aside (p : Prop) : Prop where mk :: (out : p)

/-- Of the blocks that there were, those of F alone may have changed. -/
structure Chg (F : List Nat) (w w' : World) : Prop where
  os : w'.os = w.os
  tape : w'.tape = w.tape
  output : w'.output = w.output
  size : w.heap.size ≤ w'.heap.size
  block : ∀ k, k < w.heap.size → k ∉ F → w'.heap[k]? = w.heap[k]?

theorem Chg.refl (F : List Nat) (w : World) : Chg F w w := ⟨rfl, rfl, rfl, Nat.le_refl _, fun _ _ _ => rfl⟩
theorem Chg.trans {F : List Nat} {a b c : World} (h : Chg F a b) (k : Chg F b c) : Chg F a c :=
  ⟨k.os.trans h.os, k.tape.trans h.tape, k.output.trans h.output, Nat.le_trans h.size k.size, fun i hi hF => (k.block i (Nat.lt_of_lt_of_le hi h.size) hF).trans (h.block i hi hF)⟩
/-- What the second step changed was the first one's, or new. -/
theorem Chg.then {F G : List Nat} {a b c : World} (h : Chg F a b) (k : Chg G b c) (hG : ∀ x ∈ G, x ∈ F ∨ a.heap.size ≤ x) : Chg F a c :=
  ⟨k.os.trans h.os, k.tape.trans h.tape, k.output.trans h.output, Nat.le_trans h.size k.size, fun i hi hF => (k.block i (Nat.lt_of_lt_of_le hi h.size) (fun hx => (hG i hx).elim hF (fun hle => by omega))).trans (h.block i hi hF)⟩
theorem Chg.mono {F G : List Nat} {w w' : World} (h : Chg F w w') (hF : ∀ x ∈ F, x ∈ G) : Chg G w w' := ⟨h.os, h.tape, h.output, h.size, fun k hk hG => h.block k hk (fun hx => hG (hF k hx))⟩
theorem Chg.below {w w' : World} (h : Chg [] w w') : Below w.heap.size w w' := ⟨h.os, h.tape, h.output, h.size, fun k hk => h.block k hk (by simp)⟩
theorem Chg.of_below {F : List Nat} {w w' : World} (h : Below w.heap.size w w') : Chg F w w' := ⟨h.os, h.tape, h.output, h.size, fun k hk _ => h.block k hk⟩
theorem Chg.of_grown {F : List Nat} {w w' : World} {row : Option Nat} (h : w.grownBy w' row) (hr : ∀ k, row = some k → k ∈ F ∨ w.heap.size ≤ k) : Chg F w w' :=
  ⟨h.os, h.tape, h.output, h.size, fun k hk hF => h.block k hk (fun e => (hr k e.symm).elim hF (fun hle => by omega))⟩
theorem Chg.alloc {F : List Nat} {a w : World} (h : Chg F a w) (o : Obj) : Chg F a (w.alloc o) :=
  h.trans ⟨rfl, rfl, rfl, by simp, fun k hk _ => Below.heap_alloc _ _ _ hk⟩
theorem Chg.setCell {F : List Nat} {a w : World} (h : Chg F a w) {p : Addr} (hp : p.block ∈ F ∨ a.heap.size ≤ p.block) (u : Value) : Chg F a (w.setCell p u) :=
  h.then (G := [p.block]) ⟨rfl, rfl, rfl, by simp [World.setCell], fun k _ hF => Below.heap_setCell _ _ _ _ (by simpa using hF)⟩ (by simpa using hp)
theorem Chg.setRow {F : List Nat} {a w : World} (h : Chg F a w) {g : Nat} (hp : g ∈ F ∨ a.heap.size ≤ g) (cs : Array Value) : Chg F a (w.setRow g cs) :=
  h.then (G := [g]) ⟨rfl, rfl, rfl, by simp [World.setRow], fun k _ hF => setRow_other w g k cs (by simpa using hF)⟩ (by simpa using hp)
theorem Chg.drew {F : List Nat} {a w : World} (h : Chg F a w) : Chg F a w.drew := ⟨h.os, h.tape, h.output, h.size, h.block⟩
theorem Chg.drewN {F : List Nat} {a w : World} (h : Chg F a w) (n : Nat) : Chg F a (w.drewN n) := ⟨h.os, h.tape, h.output, h.size, h.block⟩
/-- A block stays what it is. -/
theorem Chg.obj {F : List Nat} {w w' : World} (h : Chg F w w') {g : Nat} {o : Obj} (ho : w.heap[g]? = some o) (hg : g ∉ F) : w'.heap[g]? = some o :=
  (h.block g (Array.getElem?_eq_some_iff.1 ho).1 hg).trans ho

theorem cell_below {w w' : World} (h : Below w.heap.size w w') {a : Addr} {v : Value} (hc : w.cell? a = some v) : w'.cell? a = some v := (h.cell (World.block_lt_of_cell? w a hc)).trans hc
theorem cell_chg {F : List Nat} {w w' : World} (h : Chg F w w') {a : Addr} {v : Value} (hc : w.cell? a = some v) (hF : a.block ∉ F) : w'.cell? a = some v :=
  (World.cell?_of_block (h.block a.block (World.block_lt_of_cell? w a hc) hF)).trans hc
/-- Block g is a row of these cells, each of which may be written. -/
def Blk (w : World) (g : Nat) (t : TypeId) (cs : List Value) : Prop := w.heap[g]? = some (.cells cs.toArray t (0, 0))

section
variable {w w' : World} {g : Nat} {t : TypeId} {cs : List Value}
theorem Blk.lt (h : Blk w g t cs) : g < w.heap.size := (Array.getElem?_eq_some_iff.1 h).1
theorem Blk.cell (h : Blk w g t cs) (i : Nat) : w.cell? ⟨g, i, none⟩ = cs[i]? := by simp [World.cell?, show w.heap[g]? = _ from h]
theorem Blk.cellAt (h : Blk w g t cs) {i : Nat} {v : Value} (hv : cs[i]? = some v) : w.cell? ⟨g, i, none⟩ = some v := (h.cell i).trans hv
theorem Blk.frozen (h : Blk w g t cs) (i : Nat) : w.frozen? ⟨g, i, none⟩ = false := by simp [World.frozen?, show w.heap[g]? = _ from h]
theorem Blk.chg {F : List Nat} (h : Blk w g t cs) (hc : Chg F w w') (hg : g ∉ F) : Blk w' g t cs := hc.obj h hg
theorem Blk.keep (h : Blk w g t cs) (hc : w'.heap[g]? = w.heap[g]?) : Blk w' g t cs := hc.trans h
theorem Blk.alloc (h : Blk w g t cs) (o : Obj) : Blk (w.alloc o) g t cs := (Below.heap_alloc w o g h.lt).trans h
theorem Blk.drew (h : Blk w g t cs) : Blk w.drew g t cs := h
theorem Blk.drewN (h : Blk w g t cs) (n : Nat) : Blk (w.drewN n) g t cs := h
theorem Blk.new (w : World) (c : Array Value) (t : TypeId) : Blk (w.alloc (.cells c t)) w.heap.size t c.toList := by
  unfold Blk; rw [Array.toArray_toList]; exact heap_alloc_new w _
/-- A new block, as the walk spells it. -/
theorem Blk.newL {w : World} {B : Nat} {t : TypeId} (cs : List Value) (hB : B = w.heap.size) : Blk (w.alloc (.cells cs.toArray t)) B t cs := by
  subst hB; exact heap_alloc_new w _
theorem addr_add (g o j : Nat) : (⟨g, o, none⟩ : Addr).add j = ⟨g, o + j, none⟩ := by unfold Addr.add; split <;> simp_all
/-- The cells of a part of a block, as laws ask them. -/
theorem Blk.from (h : Blk w g t cs) {o : Nat} {xs : List Value} (hx : ∀ j u, xs[j]? = some u → cs[o + j]? = some u) : ∀ j u, xs[j]? = some u → w.cell? ((⟨g, o, none⟩ : Addr).add j) = some u :=
  fun j u hu => by rw [addr_add]; exact (h.cell _).trans (hx j u hu)
theorem Blk.set (h : Blk w g t cs) (i : Nat) (u : Value) : Blk (w.setCell ⟨g, i, none⟩ u) g t (cs.set i u) := by
  unfold Blk at h ⊢
  rw [setCell_eq_setRow w g i cs.toArray t (0, 0) u h, setRow_heap w g _ _ t _ h]
  simp
theorem Blk.far (h : Blk w g t cs) {p : Addr} (hp : g ≠ p.block) (u : Value) : Blk (w.setCell p u) g t cs := (Below.heap_setCell w p u g hp).trans h
theorem Blk.setRow (h : Blk w g t cs) (ds : List Value) : Blk (w.setRow g ds.toArray) g t ds := by
  unfold Blk at h ⊢
  exact setRow_heap w g _ _ t _ h
theorem Blk.farRow (h : Blk w g t cs) {k : Nat} (hk : g ≠ k) (ds : Array Value) : Blk (w.setRow k ds) g t cs := (setRow_other w k g ds hk).trans h
theorem Blk.inj {t' : TypeId} {ds : List Value} (h : Blk w g t cs) (h' : Blk w g t' ds) : t = t' ∧ cs = ds := by
  have := h.symm.trans h'
  simp at this
  exact ⟨this.2, this.1⟩
end

/-! ## An operation whose run is known. -/
section
variable {P : Program} (w : World) {ops : Array Oper} {rest : List Oper} {o : Oper} {a : Act} {Q : Exit → Act → World → Prop}
theorem wp_builtin {K : Act → World → Prop} (b : Builtin) (args : Array Operand) (ts : Array TypeId) (ho : o.op = .call { callee := .builtin b, args := args, argTypes := ts }) (vs : Array Value) (hvs : args.map a.eval = vs)
    (v' : Value) (w' : World) (hr : ∀ consts, (builtin b ts o.type consts vs).run P w = .ok (.value v') w') (h : K (a.put o.dst v') w') : o.wp P a w K Q := by
  unfold Oper.wp execOp
  simp only [ho, resolve, invoke, Sem.run_bind, Sem.run_pure, Result.andThen_ok, hvs, hr]
  exact h
/-- A builtin's call, its run being known as an equation. -/
theorem wpList_builtin (hgd : o.guard = none) (b : Builtin) (args : Array Operand) (ts : Array TypeId) (ho : o.op = .call { callee := .builtin b, args := args, argTypes := ts }) (vs : Array Value) (hvs : args.map a.eval = vs)
    (v' : Value) (w' : World) (hr : ∀ consts, (builtin b ts o.type consts vs).run P w = .ok (.value v') w') (h : wpList P ops Q rest (a.put o.dst v') w') : wpList P ops Q (o :: rest) a w :=
  wpList_plain hgd fun _ hK => wp_builtin w b args ts ho vs hvs v' w' hr (hK _ _ h)
/-- .. as one step of a region that draws its order. -/
theorem step_builtin {K : Act → World → Prop} {E : Prop} (hgd : o.guard = none) (b : Builtin) (args : Array Operand) (ts : Array TypeId) (ho : o.op = .call { callee := .builtin b, args := args, argTypes := ts }) (vs : Array Value) (hvs : args.map a.eval = vs)
    (v' : Value) (w' : World) (hr : ∀ consts, (builtin b ts o.type consts vs).run P w = .ok (.value v') w') (h : K (a.put o.dst v') w') :
    if Region.wanted o (yielded ops a.tmps) = true then Oper.wp P o a w K Q else E := by
  have hw : Region.wanted o (yielded ops a.tmps) = true := by simp [Region.wanted, hgd]
  rw [if_pos hw]
  exact wp_builtin w b args ts ho vs hvs v' w' hr h
end

/-- A region that draws its order: all but a forced tail only read. -/
theorem region_tail {P : Program} {id : Nat} {Q : Exit → Act → World → Prop} {a : Act} {w : World} {l : List Oper} (n : Nat) (hm : P.follows .mixedOrders = true) (hB : Region.lexTailB .any l.toArray n = true)
    (h : wpStill P l.toArray w.drew (fun a' => wpList P l.toArray Q (l.drop n) a' w.drew) (l.take n) a) : (Code.region id l.toArray true).wp P Q a w := wp_region_still_tail n hm hB h
/-- A contract that leaves the world alone, as 'still_call' asks it. -/
theorem calls_same {P : Program} {f : FuncId} {args : Array Value} {w : World} {v : Value} (h : Calls P f args w fun e w' => e = .returned v ∧ w = w') : Calls P f args w fun e w' => e = .returned v ∧ w' = w :=
  h.mono fun _ _ ⟨he, hw⟩ => ⟨he, hw.symm⟩

/-! ## copy, clear, append at elements of several cells. -/
section
variable {P : Program} (w : World)

theorem splice_def {α : Type} (L : List α) (off : Nat) (cs : List α) : splice L off cs = L.take off ++ cs ++ L.drop (off + cs.length) := by simp [splice]

theorem run_store_blk (P : Program) {g : Nat} {t : TypeId} {cur : List Value} (h : Blk w g t cur) (o : Nat) (vs : List Value) (hfit : o + vs.length ≤ cur.length) (h1 : ∀ v ∈ vs, v.oneCell' = true) :
    (storeCells ⟨g, o, none⟩ vs 0).run P w = .ok () (w.setRow g (splice cur o vs).toArray) := by
  have := run_storeCells_at P g o t vs 0 cur.toArray w h (by simpa using hfit) h1
  simpa [splice_def] using this

/-- copy(dst, src): what goes over is cs. -/
theorem run_copy_blk {dT sT ty elem : TypeId} {size : Nat} (hu : P.underlying dT = some (.slice elem)) (hs : (P.info? elem).map (·.size) = some size)
    {g o dLen dCap : Nat} {ad : Addr} {sLen sCap : Nat} {t : TypeId} {cur : List Value} (hg : Blk w g t cur) {cs : List Value} (hn : cs.length = Nat.min sLen dLen * size)
    (hsrc : ∀ j v, cs[j]? = some v → w.cell? (ad.add j) = some v) (hfit : o + cs.length ≤ cur.length) (h1 : ∀ v ∈ cs, v.oneCell' = true) (consts : Array Bool) :
    (builtin .copy #[dT, sT] ty consts #[.slice (some ⟨g, o, none⟩) dLen dCap, .slice (some ad) sLen sCap]).run P w = .ok (.value (.int .i64 (Nat.min sLen dLen))) (w.setRow g (splice cur o cs).toArray) := by
  have hl := run_loadCells_list (P := P) w ad cs hsrc
  have hst := run_store_blk w P hg o cs hfit h1
  cases hq : P.info? elem with
  | none => simp [hq] at hs
  | some i =>
    have hi : i.size = size := by simpa [hq] using hs
    simp [builtin, Builtin.copy_, run_underlying hu, Builtin.lenOf, Builtin.firstCells, sizeOf, typeInfo, hq, hi, ← hn, hl, hst, goInt]
theorem run_copy_zero {dT sT ty elem : TypeId} (hu : P.underlying dT = some (.slice elem)) (hs : ((P.info? elem).map (·.size)).isSome = true)
    {dp sp : Option Addr} {dLen dCap sLen sCap : Nat} (hn : Nat.min sLen dLen = 0) (consts : Array Bool) :
    (builtin .copy #[dT, sT] ty consts #[.slice dp dLen dCap, .slice sp sLen sCap]).run P w = .ok (.value (.int .i64 0)) w := by
  cases hq : P.info? elem with
  | none => simp [hq] at hs
  | some i => cases dp <;> cases sp <;> simp [builtin, Builtin.copy_, run_underlying hu, Builtin.lenOf, Builtin.firstCells, sizeOf, typeInfo, hq, hn, storeCells, loadCells, loadCellsFrom, goInt]

theorem zeroCells_length (z : Array Value) (n : Nat) : (Builtin.zeroCells z n).toList.length = n * z.size := by simp [Builtin.zeroCells]
theorem zeroCells_one {z : Array Value} (h1 : ∀ v ∈ z.toList, v.oneCell' = true) (n : Nat) : ∀ v ∈ (Builtin.zeroCells z n).toList, v.oneCell' = true := by
  intro v hv
  unfold Builtin.zeroCells at hv
  simp only [Array.toList_map, List.mem_map, Array.mem_toList_iff, Array.mem_range] at hv
  obtain ⟨i, hi, rfl⟩ := hv
  have h0 : 0 < z.size := by
    rcases Nat.eq_zero_or_pos z.size with h | h
    · rw [h] at hi; omega
    · exact h
  have hm : i % z.size < z.size := Nat.mod_lt _ h0
  rw [getElem!_pos z _ hm]
  exact h1 _ (Array.mem_toList_iff.2 (Array.getElem_mem hm))

/-- clear(s). -/
theorem run_clear_blk {t e ty : TypeId} {z : Value} (ht : P.underlying t = some (.slice e)) (hv : ∀ w, (zeroValue e).run P w = .ok z w) (h1 : ∀ v ∈ z.cells.toList, v.oneCell' = true)
    {g o n c : Nat} {t' : TypeId} {cur : List Value} (hg : Blk w g t' cur) (hfit : o + n * z.cells.size ≤ cur.length) (consts : Array Bool) :
    (builtin .clear #[t] ty consts #[.slice (some ⟨g, o, none⟩) n c]).run P w = .ok (.value (.tuple #[])) (w.setRow g (splice cur o (Builtin.zeroCells z.cells n).toList).toArray) := by
  have hst := run_store_blk w P hg o (Builtin.zeroCells z.cells n).toList (by rw [zeroCells_length]; exact hfit) (zeroCells_one h1 n)
  cases n with
  | zero =>
    have hz0 : (Builtin.zeroCells z.cells 0).toList = [] := List.eq_nil_of_length_eq_zero (by rw [zeroCells_length]; simp)
    rw [hz0] at hst ⊢
    simp only [storeCells] at hst
    have he : w.setRow g (splice cur o []).toArray = w := by
      simp only [splice, List.length_nil, Nat.add_zero, List.nil_append, List.take_append_drop]
      exact setRow_self w g _ _ _ hg
    rw [he]
    simp [builtin, Builtin.clear_, run_underlying ht]
  | succ m => simp [builtin, Builtin.clear_, run_underlying ht, hv, hst]
theorem run_clear_none {t e ty : TypeId} (ht : P.underlying t = some (.slice e)) {n c : Nat} (consts : Array Bool) :
    (builtin .clear #[t] ty consts #[.slice none n c]).run P w = .ok (.value (.tuple #[])) w := by
  simp [builtin, Builtin.clear_, run_underlying ht]
theorem run_clear_zero {t e ty : TypeId} (ht : P.underlying t = some (.slice e)) {a : Option Addr} {c : Nat} (consts : Array Bool) :
    (builtin .clear #[t] ty consts #[.slice a 0 c]).run P w = .ok (.value (.tuple #[])) w := by
  cases a <;> simp [builtin, Builtin.clear_, run_underlying ht]

/-- append(s, x..) where there is room. -/
theorem run_append_room_blk {t ty e : TypeId} {i : TypeInfo} (ht : P.underlying t = some (.slice e)) (hi : P.info? e = some i)
    {g o sLen sCap : Nat} {t' : TypeId} {cur : List Value} (hg : Blk w g t' cur) {ad : Addr} {m c : Nat} {news : List Value} (hl : news.length = m * i.size) (hnews : ∀ j u, news[j]? = some u → w.cell? (ad.add j) = some u)
    (h1 : ∀ u ∈ news, u.oneCell' = true) (hroom : sLen + m ≤ sCap) (hfit : o + sLen * i.size + news.length ≤ cur.length) (consts : Array Bool) :
    (builtin .append #[t, t] ty consts #[.slice (some ⟨g, o, none⟩) sLen sCap, .slice (some ad) m c]).run P w =
      .ok (.value (.slice (some ⟨g, o, none⟩) (sLen + m) sCap)) (w.setRow g (splice cur (o + sLen * i.size) news).toArray) := by
  have hf := run_firstCells_some (P := P) w i.size m ad m c news hl hnews
  have hst := run_store_blk w P hg (o + sLen * i.size) news hfit h1
  have hadd : (⟨g, o, none⟩ : Addr).add (sLen * i.size) = ⟨g, o + sLen * i.size, none⟩ := by unfold Addr.add; split <;> simp_all
  simp [builtin, Builtin.append_, run_underlying ht, sizeOf, typeInfo, hi, Builtin.lenOf, hroom, hf, hadd, hst]
/-- append(s, x..), x of no element. -/
theorem run_append_zero {t ty e : TypeId} {i : TypeInfo} (ht : P.underlying t = some (.slice e)) (hi : P.info? e = some i)
    {a ad : Option Addr} {sLen sCap c : Nat} (hroom : sLen ≤ sCap) (consts : Array Bool) :
    (builtin .append #[t, t] ty consts #[.slice a sLen sCap, .slice ad 0 c]).run P w = .ok (.value (.slice a sLen sCap)) w := by
  cases a <;> cases ad <;> simp [builtin, Builtin.append_, run_underlying ht, sizeOf, typeInfo, hi, Builtin.lenOf, hroom, Builtin.firstCells, loadCells, loadCellsFrom, storeCells]
/-- append(s, make([]T, k)...) where there is room. -/
theorem run_append_zeros_blk {t tn ty e : TypeId} {i : TypeInfo} {z : Value} {kq kn : IntKind} (ht : P.underlying t = some (.slice e)) (htn : P.underlying tn = some (.int kn)) (hi : P.info? e = some i) (hz : i.zero = some z) (hzs : z.cells.size = i.size) (hs : 0 < i.size)
    {g o sLen sCap : Nat} {t' : TypeId} {cur : List Value} (hg : Blk w g t' cur) {k : Nat} (h0 : 0 < k) (h1 : ∀ u ∈ z.cells.toList, u.oneCell' = true) (h48 : k * i.bytes ≤ 281474976710656) (hk63 : k ≤ 9223372036854775807)
    (hroom : sLen + k ≤ sCap) (hfit : o + sLen * i.size + k * i.size ≤ cur.length) (consts : Array Bool) :
    (builtin .append #[t, tn] ty consts #[.slice (some ⟨g, o, none⟩) sLen sCap, .int kq k]).run P w =
      .ok (.value (.slice (some ⟨g, o, none⟩) (sLen + k) sCap)) (w.setRow g (splice cur (o + sLen * i.size) (Builtin.zeroCells z.cells k).toList).toArray) := by
  have hst := run_store_blk w P hg (o + sLen * i.size) (Builtin.zeroCells z.cells k).toList (by rw [zeroCells_length, hzs]; exact hfit) (zeroCells_one h1 k)
  have hadd : (⟨g, o, none⟩ : Addr).add (sLen * i.size) = ⟨g, o + sLen * i.size, none⟩ := by unfold Addr.add; split <;> simp_all
  have hw : IntKind.i64.wrap (k : Int) = k := by rw [IntKind.wrap_i64]; omega
  have h48i : ¬ (281474976710656 < (k : Int) * (i.bytes : Int)) := by rw [← Int.natCast_mul]; omega
  have hneg : ¬ ((k : Int) < 0) := by omega
  have hns : ¬ (k * i.size = 0) := Nat.mul_ne_zero (by omega) (by omega)
  simp [builtin, Builtin.append_, run_underlying ht, run_underlying htn, sizeOf, typeInfo, zeroValue, hi, hz, asInt, asIntOf, hw, hneg, hns, h48i, hroom, hadd, hst]
end

/-! ## A row that is owned, by its block. -/
/-- The slice value v, of n elements of size cells each, owns the cells xs. -/
def Row (w : World) (t : TypeId) (size : Nat) (v : Value) (n : Nat) (xs : List Value) : Prop := w.ownsRow 0 t size v n xs

theorem Row.of_owns {w : World} {base : Nat} {t : TypeId} {size : Nat} {v : Value} {n : Nat} {xs : List Value} (h : w.ownsRow base t size v n xs) : Row w t size v n xs := by
  refine ⟨h.1, ?_⟩
  rcases h.2 with hn | ⟨g, cap, cur, rfl, hb, r⟩
  · exact .inl hn
  · exact .inr ⟨g, cap, cur, rfl, Nat.zero_le _, r⟩
theorem Row.nil (w : World) (t : TypeId) (size : Nat) : Row w t size (.slice none 0 0) 0 [] := World.ownsRow_nil _ _ _ _
theorem Row.length {w : World} {t : TypeId} {size : Nat} {v : Value} {n : Nat} {xs : List Value} (h : Row w t size v n xs) : xs.length = n * size := h.1
/-- Opened: nil, or the head of a block. -/
theorem Row.cases {w : World} {t : TypeId} {size : Nat} {v : Value} {n : Nat} {xs : List Value} (h : Row w t size v n xs) :
    (v = .slice none 0 0 ∧ n = 0 ∧ xs = []) ∨ ∃ g cap rest, v = .slice (some ⟨g, 0, none⟩) n cap ∧ Blk w g t (xs ++ rest) ∧ n ≤ cap ∧ cap ≤ 9223372036854775807 ∧ (xs ++ rest).length = cap * size := by
  rcases h.2 with ⟨rfl, rfl⟩ | ⟨g, cap, cur, rfl, _, hg, h1, h2, h3, h4⟩
  · exact .inl ⟨rfl, rfl, List.eq_nil_of_length_eq_zero (by simpa using h.1)⟩
  · refine .inr ⟨g, cap, cur.toList.drop (n * size), rfl, ?_, h1, (by simpa only [maxLen] using h2), ?_⟩
    · unfold Blk
      rw [← h4, List.take_append_drop]
      exact hg
    · rw [← h4, List.take_append_drop]
      simpa using h3
theorem Row.mk {w : World} {t : TypeId} {size : Nat} {g n cap : Nat} {xs rest : List Value} (h : Blk w g t (xs ++ rest)) (hx : xs.length = n * size) (hn : n ≤ cap) (hc : cap ≤ 9223372036854775807) (hl : (xs ++ rest).length = cap * size) :
    Row w t size (.slice (some ⟨g, 0, none⟩) n cap) n xs :=
  ⟨hx, .inr ⟨g, cap, (xs ++ rest).toArray, rfl, Nat.zero_le _, h, hn, (by simpa only [maxLen] using hc), by simpa using hl, by simp [← hx]⟩⟩
theorem Row.lt {w : World} {t : TypeId} {size : Nat} {v : Value} {n : Nat} {xs : List Value} (h : Row w t size v n xs) {g : Nat} (hg : v.ownBlock = some g) : g < w.heap.size := (World.ownsRow.lt h g hg).2
theorem Row.keep {w w' : World} {t : TypeId} {size : Nat} {v : Value} {n : Nat} {xs : List Value} (h : Row w t size v n xs) (hk : ∀ g, v.ownBlock = some g → w'.heap[g]? = w.heap[g]?) : Row w' t size v n xs := by
  refine ⟨h.1, ?_⟩
  rcases h.2 with hn | ⟨g, cap, cur, rfl, hb, hgg, rest⟩
  · exact .inl hn
  · exact .inr ⟨g, cap, cur, rfl, hb, (hk g rfl).trans hgg, rest⟩
theorem Row.typed {w : World} {t : TypeId} {size : Nat} {v : Value} {n : Nat} {xs : List Value} (h : Row w t size v n xs) {g : Nat} (hg : v.ownBlock = some g) : ∃ cs, Blk w g t cs := by
  rcases h.cases with ⟨rfl, _, _⟩ | ⟨g', cap, rest, rfl, hb, _⟩
  · cases hg
  · cases hg; exact ⟨_, hb⟩
/-- Cut shorter. -/
theorem Row.cut {w : World} {t : TypeId} {size : Nat} {g n cap : Nat} {xs : List Value} (h : Row w t size (.slice (some ⟨g, 0, none⟩) n cap) n xs) {m : Nat} (hm : m ≤ n) : Row w t size (.slice (some ⟨g, 0, none⟩) m cap) m (xs.take (m * size)) := by
  rcases h.cases with ⟨h', _⟩ | ⟨g', cap', rest, he, hb, h1, h2, h3⟩
  · cases h'
  · cases he
    refine Row.mk (rest := xs.drop (m * size) ++ rest) ?_ ?_ (by omega) h2 ?_
    · rw [← List.append_assoc, List.take_append_drop]; exact hb
    · rw [List.length_take, h.length]; exact Nat.min_eq_left (Nat.mul_le_mul_right _ hm)
    · rw [← List.append_assoc, List.take_append_drop]; exact h3

/-! ## A map of whole numbers. -/
/-- Block b is a map from int to int that has what f tells, of at most n entries. -/
def IMap (P : Program) (T : TypeId) (w : World) (b n : Nat) (f : Int → Option Int) : Prop :=
  ∃ D : DataW Unit, w.ownsMap P T (plainElem P T) b n D ∧ ∀ k : Int, (Lit.int .i64 k).wf = true →
    Maps.has D (.int .i64 k) = (f k).isSome ∧ D.atKey (.int .i64 k) (.lit (.int .i64 0)) = .lit (.int .i64 ((f k).getD 0)) ∧ (Lit.int .i64 ((f k).getD 0)).wf = true

section
variable {P : Program} {T : TypeId} {w w' : World} {b n : Nat} {f : Int → Option Int}
theorem IMap.lt (h : IMap P T w b n f) : b < w.heap.size := by obtain ⟨D, hD, _⟩ := h; exact hD.lt
theorem IMap.keep (h : IMap P T w b n f) (hk : w'.heap[b]? = w.heap[b]?) : IMap P T w' b n f := by
  obtain ⟨D, ⟨es, clock, hb, F, hs, hD⟩, hf⟩ := h
  exact ⟨D, ⟨es, clock, hk.trans hb, F, hs, hD⟩, hf⟩
theorem IMap.block (h : IMap P T w b n f) : ∃ es clock, w.heap[b]? = some (.map es clock) := by
  obtain ⟨D, ⟨es, clock, hb, _⟩, _⟩ := h
  exact ⟨es, clock, hb⟩
theorem IMap.made (P : Program) (T : TypeId) (w : World) : IMap P T (w.alloc (.map #[] 0)) w.heap.size 0 (fun _ => none) :=
  ⟨.map [], World.ownsMap_made w P T _, fun k _ => ⟨by simp [Maps.has], by simp [DataW.atKey], by show (Lit.int .i64 0).wf = true; decide⟩⟩
theorem IMap.congr (h : IMap P T w b n f) {g : Int → Option Int} (hg : ∀ k, (Lit.int .i64 k).wf = true → g k = f k) : IMap P T w b n g := by
  obtain ⟨D, hD, hf⟩ := h
  exact ⟨D, hD, fun k hk => by rw [hg k hk]; exact hf k hk⟩
theorem IMap.mono (h : IMap P T w b n f) {m : Nat} (hm : n ≤ m) : IMap P T w b m f := by
  obtain ⟨D, hD, hf⟩ := h
  exact ⟨D, hD.mono hm, hf⟩
/-- 'v, ok := m[k]'. -/
theorem IMap.look (h : IMap P T w b n f) {t : TypeId} (ht : P.underlying t = some (.map T T)) (hT : P.underlying T = some (.int .i64)) (hz : (zeroValue T).run P w = .ok (.int .i64 0) w) (k : Int) (hk : (Lit.int .i64 k).wf = true) :
    (Instr.lookup t (.map (some b)) (.int .i64 k) true).run P w = .ok (.tuple #[.int .i64 ((f k).getD 0), .bool (f k).isSome]) w := by
  obtain ⟨D, hD, hf⟩ := h
  obtain ⟨h1, h2, h3⟩ := hf k hk
  obtain ⟨v, ps, hrun, hv⟩ := hD.look_ok (Maps.int_keyed hT) ht hz (plainElem_int hT (by decide)) (Maps.keyOf_int_mk hT hk)
  obtain ⟨c, rfl, hc, _⟩ := plainElem_int_inv hT hv
  rw [h2] at hc
  simp only [Prod.mk.injEq, DataW.lit.injEq, Lit.int.injEq, true_and] at hc
  rw [hrun, h1, hc.1]
/-- 'm[k] = v'. -/
theorem IMap.store (h : IMap P T w b n f) {t : TypeId} (ht : P.underlying t = some (.map T T)) (hT : P.underlying T = some (.int .i64)) (hn : n < 9223372036854775807) (k v : Int) (hk : (Lit.int .i64 k).wf = true) (hv : (Lit.int .i64 v).wf = true) :
    ∃ w', (Instr.mapUpdate t (.map (some b)) (.int .i64 k) (.int .i64 v)).run P w = .ok () w' ∧ IMap P T w' b (n + 1) (fun x => if x = k then some v else f x) ∧ Chg [b] w w' := by
  obtain ⟨D, hD, hf⟩ := h
  obtain ⟨w', hrun, h1, h2⟩ := hD.update (Maps.int_keyed hT) ht (by simpa only [maxLen] using hn) (Maps.keyOf_int_mk hT hk) (plainElem_int hT hv)
  refine ⟨w', hrun, ⟨_, h1, fun x hx => ?_⟩, Chg.of_grown h2 (by simp)⟩
  by_cases hxk : x = k
  · subst hxk
    simp only [if_true, Option.isSome_some, Option.getD_some]
    exact ⟨Maps.has_put_same hD.isMap (by simp [WideAt.IsKeyLit]) _, Maps.atKey_put_same hD.isMap (by simp [WideAt.IsKeyLit]) _ _, hv⟩
  · have hne : (Lit.int .i64 x) ≠ Lit.int .i64 k := fun e => hxk (by cases e; rfl)
    simp only [if_neg hxk]
    obtain ⟨a1, a2, a3⟩ := hf x hx
    exact ⟨(Maps.has_put_other hne _).trans a1, (Maps.atKey_put_other hne _ _).trans a2, a3⟩
/-- 'delete(m, k)'. -/
theorem IMap.drop (h : IMap P T w b n f) {t : TypeId} (ht : P.underlying t = some (.map T T)) (hT : P.underlying T = some (.int .i64)) (k : Int) (hk : (Lit.int .i64 k).wf = true) (ty : TypeId) (consts : Array Bool) :
    ∃ w', (builtin .delete #[t, T] ty consts #[.map (some b), .int .i64 k]).run P w = .ok (.value (.tuple #[])) w' ∧ IMap P T w' b n (fun x => if x = k then none else f x) ∧ Chg [b] w w' := by
  obtain ⟨D, hD, hf⟩ := h
  obtain ⟨w', hrun, h1, h2⟩ := hD.drop (Maps.int_keyed hT) ht (Maps.keyOf_int_mk hT hk) ty
  refine ⟨w', by simp [builtin, hrun], ⟨_, h1, fun x hx => ?_⟩, Chg.of_grown h2.grown (by simp)⟩
  by_cases hxk : x = k
  · subst hxk
    simp only [if_true, Option.isSome_none, Option.getD_none]
    exact ⟨Maps.has_del_same, Maps.atKey_del_same _, by decide⟩
  · have hne : (Lit.int .i64 x) ≠ Lit.int .i64 k := fun e => hxk (by cases e; rfl)
    simp only [if_neg hxk]
    obtain ⟨a1, a2, a3⟩ := hf x hx
    exact ⟨(Maps.has_del_other hne).trans a1, (Maps.atKey_del_other hne _).trans a2, a3⟩
/-- Distinct things among those of a list are no more than it has. -/
theorem nodup_le {α : Type} [DecidableEq α] : ∀ (K l : List α), K.Nodup → (∀ x ∈ K, x ∈ l) → K.length ≤ l.length
  | [], _, _, _ => Nat.zero_le _
  | x :: xs, l, hn, hs => by
    have hx := hs x (by simp)
    have hn' := List.nodup_cons.1 hn
    have := nodup_le xs (l.erase x) hn'.2 (fun y hy => (List.mem_erase_of_ne (fun e : y = x => hn'.1 (e ▸ hy))).2 (hs y (by simp [hy])))
    rw [List.length_erase_of_mem hx] at this
    have : 0 < l.length := List.length_pos_of_mem hx
    simp; omega
/-- The bound is what is there. -/
theorem IMap.tight (h : IMap P T w b n f) (hT : P.underlying T = some (.int .i64)) (l : List Int) (hl : ∀ k, (f k).isSome → k ∈ l) : IMap P T w b l.length f := by
  obtain ⟨D, ⟨es, clock, hb, F, hs, rfl⟩, hf⟩ := h
  refine ⟨_, ⟨es, clock, hb, F, ?_, rfl⟩, hf⟩
  have hkeys := Maps.fit_keys F
  have hap := Maps.fit_apart (Maps.int_keyed hT) F
  have hperm := Go.WideShapes.sorted_perm (es.toList.map (WideElems.rg P T (plainElem (H := Unit) P T)))
  have := @nodup_le Lit (fun a b => Classical.propDecidable (a = b)) ((es.toList.map (WideElems.rg P T (plainElem (H := Unit) P T))).map Prod.fst) (l.map (Lit.int .i64)) (List.pairwise_map.2 hap) (fun x hx => ?_)
  · simpa using this
  · obtain ⟨p, hp, rfl⟩ := List.mem_map.1 hx
    obtain ⟨v, hv⟩ := hkeys p hp
    have hm : ∃ a, p.1 = Lit.int .i64 a ∧ (Lit.int .i64 a).wf = true := by
      unfold keyOf at hv
      rw [hT] at hv
      cases v <;> simp [mapKey, hT] at hv
      obtain ⟨⟨rfl, hw⟩, he⟩ := hv
      exact ⟨_, he.symm, hw⟩
    obtain ⟨a, ha, hw⟩ := hm
    have h1 := (hf a hw).1
    have h2 : Maps.has (DataW.map ((es.toList.map (WideElems.rg P T (plainElem (H := Unit) P T))).foldr DataW.insert [])) (Lit.int .i64 a) = true := by
      rw [Maps.has_eq, List.any_eq_true]
      exact ⟨p, hperm.mem_iff.2 hp, by rw [ha]; simp [Lit.sameKey]⟩
    rw [h2] at h1
    rw [ha]
    exact List.mem_map_of_mem (hl a h1.symm)
end
end Go.Proofs.Ytgimcpnelogadaa.Mem
/- Memory, told by whole blocks: a builtin's call whose run is known. -/
namespace Go.Proofs.Ytgimcpnelogadaa.Mem
open Go.RowKit
set_option linter.unusedVariables false
section
variable {P : Program} (w : World) {ops : Array Oper} {rest : List Oper} {o : Oper} {a : Act} {Q : Exit → Act → World → Prop}
/-- A builtin's call of two operands. -/
theorem wpList_builtin2 (hgd : o.guard = none) (b : Builtin) (s x : Operand) (ts : Array TypeId) (ho : o.op = .call { callee := .builtin b, args := #[s, x], argTypes := ts }) (vs vx : Value) (hs : a.eval s = vs) (hx : a.eval x = vx)
    (v' : Value) (w' : World) (hr : ∀ consts, (builtin b ts o.type consts #[vs, vx]).run P w = .ok (.value v') w') (h : wpList P ops Q rest (a.put o.dst v') w') : wpList P ops Q (o :: rest) a w :=
  wpList_builtin w hgd b #[s, x] ts ho #[vs, vx] (by simp [hs, hx]) v' w' hr h
/-- .. of one. -/
theorem wpList_builtin1 (hgd : o.guard = none) (b : Builtin) (s : Operand) (ts : Array TypeId) (ho : o.op = .call { callee := .builtin b, args := #[s], argTypes := ts }) (vs : Value) (hs : a.eval s = vs)
    (v' : Value) (w' : World) (hr : ∀ consts, (builtin b ts o.type consts #[vs]).run P w = .ok (.value v') w') (h : wpList P ops Q rest (a.put o.dst v') w') : wpList P ops Q (o :: rest) a w :=
  wpList_builtin w hgd b #[s] ts ho #[vs] (by simp [hs]) v' w' hr h
theorem step_builtin2 {K : Act → World → Prop} {E : Prop} (hgd : o.guard = none) (b : Builtin) (s x : Operand) (ts : Array TypeId) (ho : o.op = .call { callee := .builtin b, args := #[s, x], argTypes := ts }) (vs vx : Value) (hs : a.eval s = vs) (hx : a.eval x = vx)
    (v' : Value) (w' : World) (hr : ∀ consts, (builtin b ts o.type consts #[vs, vx]).run P w = .ok (.value v') w') (h : K (a.put o.dst v') w') :
    if Region.wanted o (yielded ops a.tmps) = true then Oper.wp P o a w K Q else E :=
  step_builtin w hgd b #[s, x] ts ho #[vs, vx] (by simp [hs, hx]) v' w' hr h
end
end Go.Proofs.Ytgimcpnelogadaa.Mem
namespace Go.Proofs.Ytgimcpnelogadaa.Mem
open Go.RowKit
set_option linter.unusedVariables false
section
variable {w w' : World} {t : TypeId} {size n : Nat} {v : Value} {xs : List Value}
theorem Row.farCell (h : Row w t size v n xs) {p : Addr} (hp : v.ownBlock ≠ some p.block) (u : Value) : Row (w.setCell p u) t size v n xs :=
  h.keep fun g hg => Below.heap_setCell _ _ _ _ (fun e => hp (by rw [hg, e]))
theorem Row.chg {F : List Nat} (h : Row w t size v n xs) (hc : Chg F w w') (hF : ∀ k, v.ownBlock = some k → k ∉ F) : Row w' t size v n xs :=
  h.keep fun g hg => hc.block g (h.lt hg) (hF g hg)
theorem Row.drew (h : Row w t size v n xs) : Row w.drew t size v n xs := h.keep fun _ _ => rfl
theorem Row.drewN (h : Row w t size v n xs) (k : Nat) : Row (w.drewN k) t size v n xs := h.keep fun _ _ => rfl
theorem Row.alloc (h : Row w t size v n xs) (o : Obj) : Row (w.alloc o) t size v n xs := h.keep fun g hg => Below.heap_alloc _ _ _ (h.lt hg)
variable {P : Program} {T : TypeId} {b k : Nat} {f : Int → Option Int}
theorem IMap.farCell (h : IMap P T w b k f) {p : Addr} (hp : b ≠ p.block) (u : Value) : IMap P T (w.setCell p u) b k f := h.keep (Below.heap_setCell _ _ _ _ hp)
theorem IMap.chg {F : List Nat} (h : IMap P T w b k f) (hc : Chg F w w') (hF : b ∉ F) : IMap P T w' b k f := h.keep (hc.block b h.lt hF)
theorem IMap.drew (h : IMap P T w b k f) : IMap P T w.drew b k f := h.keep rfl
theorem IMap.alloc (h : IMap P T w b k f) (o : Obj) : IMap P T (w.alloc o) b k f := h.keep (Below.heap_alloc _ _ _ h.lt)
/-- 'delete(m, k)', whatever its type's number. -/
theorem IMap.drops (h : IMap P T w b k f) {tm : TypeId} (ht : P.underlying tm = some (.map T T)) (hT : P.underlying T = some (.int .i64)) (x : Int) (hx : (Lit.int .i64 x).wf = true) :
    ∃ w', (∀ ty consts, (builtin .delete #[tm, T] ty consts #[.map (some b), .int .i64 x]).run P w = .ok (.value (.tuple #[])) w') ∧ IMap P T w' b k (fun y => if y = x then none else f y) ∧ Chg [b] w w' := by
  obtain ⟨w', h1, h2, h3⟩ := h.drop ht hT x hx 0 #[]
  exact ⟨w', fun _ _ => h1, h2, h3⟩
end
end Go.Proofs.Ytgimcpnelogadaa.Mem
/- append at a row that is owned: in place, or in a new block. -/
namespace Go.Proofs.Ytgimcpnelogadaa.Mem
open Go.RowKit
set_option linter.unusedVariables false
variable {P : Program} {w : World}

/-- How a row of the table of types reads. -/
structure Elem (P : Program) (e : TypeId) (size bytes : Nat) (z : Value) : Prop where
  info : ∃ i, P.info? e = some i ∧ i.zero = some z ∧ i.size = size ∧ i.bytes = bytes
  zsize : z.cells.size = size
  zone : ∀ v ∈ z.cells.toList, v.oneCell' = true
  pos : 0 < size

theorem Elem.of {e : TypeId} {size bytes : Nat} {z : Value} (h : (P.info? e).map (fun i => (i.zero, i.size, i.bytes)) = some (some z, size, bytes)) (hs : z.cells.size = size) (h1 : ∀ v ∈ z.cells.toList, v.oneCell' = true) (h0 : 0 < size) : Elem P e size bytes z := by
  obtain ⟨i0, hi, hz0, hz1, hz2⟩ := info_parts h
  exact ⟨⟨i0, hi, hz0, hz1, hz2⟩, hs, h1, h0⟩

theorem Row.append {t e : TypeId} {size bytes n m c : Nat} {z v : Value} {xs news : List Value} (h : Row w e size v n xs) (ht : P.underlying t = some (.slice e)) (E : Elem P e size bytes z)
    {ad : Addr} (hl : news.length = m * size) (hnews : ∀ j u, news[j]? = some u → w.cell? (ad.add j) = some u) (h1 : ∀ u ∈ news, u.oneCell' = true)
    (h63 : n + m ≤ 9223372036854775807) (hb : (n + m) * bytes ≤ 140737488355328) :
    ∃ v' w', (∀ ty consts, (builtin .append #[t, t] ty consts #[v, .slice (some ad) m c]).run P w = .ok (.value v') w') ∧ Row w' e size v' (n + m) (xs ++ news) ∧ Chg v.ownBlock.toList w w' ∧
      (v'.ownBlock = v.ownBlock ∨ v'.ownBlock = some w.heap.size) := by
  obtain ⟨i, hi, hz, hsz, hby⟩ := E.info
  subst hsz hby
  by_cases hm0 : m = 0
  · subst hm0
    have hn0 : news = [] := List.eq_nil_of_length_eq_zero (by simpa using hl)
    subst hn0
    obtain ⟨a, cp, rfl⟩ : ∃ a cp, v = .slice a n cp := by
      rcases h.cases with ⟨rfl, rfl, _⟩ | ⟨g, cap, rest, rfl, _⟩
      · exact ⟨_, _, rfl⟩
      · exact ⟨_, _, rfl⟩
    have hcp : n ≤ cp := by
      rcases h.cases with ⟨h1, rfl, _⟩ | ⟨g, cap, rest, h1, _, hn, _⟩
      · cases h1; exact Nat.le_refl _
      · cases h1; exact hn
    exact ⟨_, _, fun ty consts => run_append_zero w ht hi hcp consts, by simpa using h, Chg.refl _ _, .inl rfl⟩
  have hnew : ∀ (olds : List Value) (cap : Nat), olds.length = n * i.size → n + m ≤ grownCap w (n + m) cap e →
      Row (w.drew.alloc (.cells (olds.toArray ++ news.toArray ++ Builtin.zeroCells z.cells (grownCap w (n + m) cap e - (n + m))) e)) e i.size (.slice (some ⟨w.heap.size, 0, none⟩) (n + m) (grownCap w (n + m) cap e)) (n + m) (olds ++ news) := by
    intro olds cap hol hge
    refine Row.mk (rest := (Builtin.zeroCells z.cells (grownCap w (n + m) cap e - (n + m))).toList) ?_ (by rw [List.length_append, hol, hl, Nat.add_mul]) hge ?_ ?_
    · have := Blk.newL (w := w.drew) (t := e) (olds ++ news ++ (Builtin.zeroCells z.cells (grownCap w (n + m) cap e - (n + m))).toList) (rfl : w.heap.size = w.drew.heap.size)
      have e1 : (olds ++ news ++ (Builtin.zeroCells z.cells (grownCap w (n + m) cap e - (n + m))).toList).toArray = olds.toArray ++ news.toArray ++ Builtin.zeroCells z.cells (grownCap w (n + m) cap e - (n + m)) := by
        apply Array.ext'; simp
      rw [e1] at this
      exact this
    · have := grownCap_le_maxLen w (n + m) cap e (by unfold maxLen; omega)
      simpa only [maxLen] using this
    · rw [List.length_append, List.length_append, hol, hl, zeroCells_length, E.zsize, ← Nat.add_mul, ← Nat.add_mul]
      congr 1; omega
  rcases h.cases with ⟨rfl, rfl, rfl⟩ | ⟨g, cap, rest, rfl, hbk, hn, hcap, hlen⟩
  · have h48 : m * i.bytes ≤ 281474976710656 := by rw [Nat.zero_add] at hb; omega
    have hr := fun ty => run_append_nil (P := P) w t ty e i z ht hi hz ad m c news hl hnews (by omega) (by omega) h48
    have hN := hnew [] 0 (by simp) (by have := grownCap_ge w (0 + m) 0 e; omega)
    simp only [Nat.zero_add, List.nil_append] at hN ⊢
    refine ⟨.slice (some ⟨w.heap.size, 0, none⟩) m (grownCap w m 0 e), w.drew.alloc (.cells (news.toArray ++ Builtin.zeroCells z.cells (grownCap w m 0 e - m)) e), fun ty consts => by simp [builtin, hr], ?_, (Chg.refl _ _).drew.alloc _, .inr rfl⟩
    simpa using hN
  · by_cases hroom : n + m ≤ cap
    · have hfit : 0 + n * i.size + news.length ≤ (xs ++ rest).length := by rw [hlen, hl, Nat.zero_add, ← Nat.add_mul]; exact Nat.mul_le_mul_right _ hroom
      refine ⟨_, _, fun ty consts => run_append_room_blk w ht hi hbk hl hnews h1 hroom hfit consts, ?_, (Chg.refl _ _).setRow (by simp [Value.ownBlock]) _, .inl rfl⟩
      have hxl := h.length
      have hsp : splice (xs ++ rest) (0 + n * i.size) news = (xs ++ news) ++ rest.drop news.length := by
        unfold splice
        rw [Nat.zero_add, ← hxl, List.take_left, List.drop_append, List.drop_eq_nil_of_le (by omega), List.nil_append, show xs.length + news.length - xs.length = news.length by omega, List.append_assoc]
      rw [hsp]
      refine Row.mk (hbk.setRow _) (by rw [List.length_append, hxl, hl, Nat.add_mul]) hroom hcap ?_
      rw [List.length_append, List.length_append, List.length_drop]
      rw [List.length_append] at hlen
      have : news.length ≤ rest.length := by
        have h2 := Nat.mul_le_mul_right i.size hroom
        rw [Nat.add_mul] at h2
        omega
      omega
    · have hr := fun ty => run_append_grow (P := P) w t ty e i z ht hi hz ⟨g, 0, none⟩ n cap xs h.length (hbk.from (fun j u hu => by rw [Nat.zero_add, List.getElem?_append_left (List.getElem?_eq_some_iff.1 hu).1]; exact hu)) ad m c news hl hnews (by omega) (by omega) (growslice_fits (by omega) hb)
      refine ⟨.slice (some ⟨w.heap.size, 0, none⟩) (n + m) (grownCap w (n + m) cap e), w.drew.alloc (.cells (xs.toArray ++ news.toArray ++ Builtin.zeroCells z.cells (grownCap w (n + m) cap e - (n + m))) e), fun ty consts => by simp only [builtin, Sem.run_bind, hr]; rfl, ?_, (Chg.refl _ _).drew.alloc _, .inr rfl⟩
      exact hnew xs cap h.length (grownCap_ge w (n + m) cap e)

/-- append(s, make([]T, k)...). -/
theorem Row.appendZeros {t tn e : TypeId} {size bytes n k : Nat} {kq kn : IntKind} {z v : Value} {xs : List Value} (h : Row w e size v n xs) (ht : P.underlying t = some (.slice e)) (htn : P.underlying tn = some (.int kn)) (E : Elem P e size bytes z)
    (h0 : 0 < k) (h63 : n + k ≤ 9223372036854775807) (hb : (n + k) * bytes ≤ 140737488355328) :
    ∃ v' w', (∀ ty consts, (builtin .append #[t, tn] ty consts #[v, .int kq (k : Int)]).run P w = .ok (.value v') w') ∧ Row w' e size v' (n + k) (xs ++ (Builtin.zeroCells z.cells k).toList) ∧ Chg v.ownBlock.toList w w' ∧
      (((∃ a cap, v = .slice a n cap ∧ n + k ≤ cap) ∧ v'.ownBlock = v.ownBlock) ∨ (v'.ownBlock = some w.heap.size ∧ Chg [] w w')) := by
  obtain ⟨i, hi, hz, hsz, hby⟩ := E.info
  subst hsz hby
  have hk48 : k * i.bytes ≤ 281474976710656 := by
    have : k * i.bytes ≤ (n + k) * i.bytes := Nat.mul_le_mul_right _ (by omega)
    omega
  have hnew : ∀ (olds : List Value) (cap : Nat), olds.length = n * i.size → n + k ≤ grownCap w (n + k) cap e →
      Row (w.drew.alloc (.cells (olds.toArray ++ Builtin.zeroCells z.cells k ++ Builtin.zeroCells z.cells (grownCap w (n + k) cap e - (n + k))) e)) e i.size (.slice (some ⟨w.heap.size, 0, none⟩) (n + k) (grownCap w (n + k) cap e)) (n + k) (olds ++ (Builtin.zeroCells z.cells k).toList) := by
    intro olds cap hol hge
    refine Row.mk (rest := (Builtin.zeroCells z.cells (grownCap w (n + k) cap e - (n + k))).toList) ?_ (by rw [List.length_append, hol, zeroCells_length, E.zsize, Nat.add_mul]) hge ?_ ?_
    · have := Blk.newL (w := w.drew) (t := e) (olds ++ (Builtin.zeroCells z.cells k).toList ++ (Builtin.zeroCells z.cells (grownCap w (n + k) cap e - (n + k))).toList) (rfl : w.heap.size = w.drew.heap.size)
      have e1 : (olds ++ (Builtin.zeroCells z.cells k).toList ++ (Builtin.zeroCells z.cells (grownCap w (n + k) cap e - (n + k))).toList).toArray = olds.toArray ++ Builtin.zeroCells z.cells k ++ Builtin.zeroCells z.cells (grownCap w (n + k) cap e - (n + k)) := by
        apply Array.ext'; simp
      rw [e1] at this
      exact this
    · have := grownCap_le_maxLen w (n + k) cap e (by unfold maxLen; omega)
      simpa only [maxLen] using this
    · rw [List.length_append, List.length_append, hol, zeroCells_length, zeroCells_length, E.zsize, ← Nat.add_mul, ← Nat.add_mul]
      congr 1; omega
  have hgrow : ∀ (base : Option Addr) (cap : Nat), cap < n + k → (Builtin.firstCells i.size n (.slice base n cap)).run P w.drew = .ok xs.toArray w.drew → v = .slice base n cap →
      ∃ v' w', (∀ ty consts, (builtin .append #[t, tn] ty consts #[v, .int kq (k : Int)]).run P w = .ok (.value v') w') ∧ Row w' e i.size v' (n + k) (xs ++ (Builtin.zeroCells z.cells k).toList) ∧ Chg v.ownBlock.toList w w' ∧
      (((∃ a cap, v = .slice a n cap ∧ n + k ≤ cap) ∧ v'.ownBlock = v.ownBlock) ∨ (v'.ownBlock = some w.heap.size ∧ Chg [] w w')) := by
    rintro base cap hlt hf rfl
    have hr := fun ty => Go.Lib.run_append_grow_zeros (P := P) w t tn ty e i z kq kn ht htn hi hz base n cap xs hf k h0 E.pos hlt (by omega) hk48 (growslice_fits hlt hb)
    refine ⟨.slice (some ⟨w.heap.size, 0, none⟩) (n + k) (grownCap w (n + k) cap e), w.drew.alloc (.cells (xs.toArray ++ Builtin.zeroCells z.cells k ++ Builtin.zeroCells z.cells (grownCap w (n + k) cap e - (n + k))) e), fun ty consts => by simp only [builtin, Sem.run_bind, hr]; rfl, hnew xs cap h.length (grownCap_ge w (n + k) cap e), (Chg.refl _ _).drew.alloc _, .inr ⟨rfl, (Chg.refl _ _).drew.alloc _⟩⟩
  rcases h.cases with ⟨hv, hn, hx⟩ | ⟨g, cap, rest, hv, hbk, hn, hcap, hlen⟩
  · subst hn hx
    exact hgrow none 0 (by omega) (by simp [Builtin.firstCells]) hv
  · by_cases hroom : n + k ≤ cap
    · subst hv
      have hfit : 0 + n * i.size + k * i.size ≤ (xs ++ rest).length := by rw [hlen, Nat.zero_add, ← Nat.add_mul]; exact Nat.mul_le_mul_right _ hroom
      refine ⟨_, _, fun ty consts => run_append_zeros_blk w ht htn hi hz E.zsize E.pos hbk h0 E.zone hk48 (by omega) hroom hfit consts, ?_, (Chg.refl _ _).setRow (by simp [Value.ownBlock]) _, .inl ⟨⟨_, _, rfl, hroom⟩, rfl⟩⟩
      have hxl := h.length
      have hzl : (Builtin.zeroCells z.cells k).toList.length = k * i.size := by rw [zeroCells_length, E.zsize]
      have hsp : splice (xs ++ rest) (0 + n * i.size) (Builtin.zeroCells z.cells k).toList = (xs ++ (Builtin.zeroCells z.cells k).toList) ++ rest.drop (k * i.size) := by
        unfold splice
        rw [Nat.zero_add, ← hxl, List.take_left, List.drop_append, List.drop_eq_nil_of_le (by omega), List.nil_append, hzl, show xs.length + k * i.size - xs.length = k * i.size by omega, List.append_assoc]
      rw [hsp]
      refine Row.mk (hbk.setRow _) (by rw [List.length_append, hxl, hzl, Nat.add_mul]) hroom hcap ?_
      rw [List.length_append, List.length_append, List.length_drop, hzl]
      rw [List.length_append] at hlen
      have : k * i.size ≤ rest.length := by
        have h2 := Nat.mul_le_mul_right i.size hroom
        rw [Nat.add_mul] at h2
        omega
      omega
    · refine hgrow (some ⟨g, 0, none⟩) cap (by omega) ?_ hv
      exact run_firstCells_some (P := P) w.drew i.size n ⟨g, 0, none⟩ n cap xs h.length (fun j u hu => hbk.from (fun j u hu => by rw [Nat.zero_add, List.getElem?_append_left (List.getElem?_eq_some_iff.1 hu).1]; exact hu) j u hu)
end Go.Proofs.Ytgimcpnelogadaa.Mem
/- Chapter 5, plain: extents in a row of bytes: where the first gap is, how they are packed. No program in sight. -/
namespace Go.Proofs.Ytgimcpnelogadaa.Sto

/-- Rounded up to a multiple of 8. -/
def up (n : Nat) : Nat := (n + 7) / 8 * 8
theorem up_ge (n : Nat) : n ≤ up n := by unfold up; omega
theorem up_mod (n : Nat) : up n % 8 = 0 := by unfold up; omega
theorem up_le (n : Nat) : up n ≤ n + 7 := by unfold up; omega
theorem up_zero : up 0 = 0 := rfl
theorem up_pos {n : Nat} : 0 < up n ↔ 0 < n := by unfold up; omega

structure Ext where
  id : Nat
  at_ : Nat
  len : Nat
  deriving DecidableEq, Inhabited

/-- How extents lie. -/
def Ext.lt (x y : Ext) : Prop := x.at_ < y.at_ ∨ (x.at_ = y.at_ ∧ x.id < y.id)
instance (x y : Ext) : Decidable (x.lt y) := inferInstanceAs (Decidable (_ ∨ _))
theorem Ext.lt_trans {x y z : Ext} (h : x.lt y) (k : y.lt z) : x.lt z := by unfold Ext.lt at *; omega
theorem Ext.lt_irrefl (x : Ext) : ¬ x.lt x := by unfold Ext.lt; omega
theorem Ext.lt_asymm {x y : Ext} (h : x.lt y) : ¬ y.lt x := by unfold Ext.lt at *; omega
theorem Ext.lt_total {x y : Ext} (h : x.id ≠ y.id) : x.lt y ∨ y.lt x := by unfold Ext.lt; omega
theorem Ext.lt_at {x y : Ext} (h : x.lt y) : x.at_ ≤ y.at_ := by unfold Ext.lt at h; omega

/-- The first gap. -/
def gapGo (need : Nat) : Nat → List Ext → Nat
  | e, [] => e
  | e, x :: xs => if e + need ≤ x.at_ then e else gapGo need (max e (x.at_ + up x.len)) xs

def total (l : List Ext) : Nat := (l.map fun x => up x.len).sum
@[simp] theorem total_nil : total [] = 0 := rfl
@[simp] theorem total_cons (x : Ext) (l : List Ext) : total (x :: l) = up x.len + total l := by simp [total]
@[simp] theorem total_append (l m : List Ext) : total (l ++ m) = total l + total m := by simp [total]
theorem total_perm {l m : List Ext} (h : l.Perm m) : total l = total m := (h.map _).sum_nat

/-- Two extents that both have bytes have none in common. -/
def Ext.apart (x y : Ext) : Prop := 0 < x.len → 0 < y.len → x.at_ + up x.len ≤ y.at_ ∨ y.at_ + up y.len ≤ x.at_
theorem Ext.apart_symm {x y : Ext} (h : x.apart y) : y.apart x := fun a b => (h b a).symm

structure Lay (l : List Ext) (span : Nat) : Prop where
  sorted : l.Pairwise Ext.lt
  apart : l.Pairwise Ext.apart
  eights : ∀ x ∈ l, x.at_ % 8 = 0
  inside : ∀ x ∈ l, x.at_ + up x.len ≤ span
  ids : (l.map Ext.id).Nodup

theorem Lay.nil (span : Nat) : Lay [] span := ⟨.nil, .nil, by simp, by simp, by simp⟩

theorem Lay.wider {l : List Ext} {s t : Nat} (h : Lay l s) (hs : s ≤ t) : Lay l t :=
  ⟨h.sorted, h.apart, h.eights, fun x hx => Nat.le_trans (h.inside x hx) hs, h.ids⟩

/-! The gap. -/
theorem gap_ge (need : Nat) : ∀ (l : List Ext) (e : Nat), e ≤ gapGo need e l
  | [], e => Nat.le_refl _
  | x :: xs, e => by
    unfold gapGo
    split
    · exact Nat.le_refl _
    · exact Nat.le_trans (Nat.le_max_left _ _) (gap_ge need xs _)

theorem gap_le (need : Nat) {b : Nat} : ∀ (l : List Ext) (e : Nat), e ≤ b → (∀ x ∈ l, x.at_ + up x.len ≤ b) → gapGo need e l ≤ b
  | [], e, he, _ => he
  | x :: xs, e, he, h => by
    unfold gapGo
    split
    · exact he
    · exact gap_le need xs _ (Nat.max_le.2 ⟨he, h x (by simp)⟩) (fun y hy => h y (by simp [hy]))

theorem gap_mod (need : Nat) : ∀ (l : List Ext) (e : Nat), e % 8 = 0 → (∀ x ∈ l, x.at_ % 8 = 0) → gapGo need e l % 8 = 0
  | [], e, he, _ => he
  | x :: xs, e, he, h => by
    unfold gapGo
    split
    · exact he
    · refine gap_mod need xs _ ?_ (fun y hy => h y (by simp [hy]))
      have h1 := h x (by simp)
      have h2 := up_mod x.len
      rcases Nat.le_total e (x.at_ + up x.len) with c | c
      · rw [Nat.max_eq_right c]; omega
      · rw [Nat.max_eq_left c]; exact he

/-- What is ahead of the gap ends there; what is behind begins behind it. -/
theorem gap_free (need : Nat) : ∀ (l : List Ext) (e : Nat), l.Pairwise Ext.lt → ∀ x ∈ l, x.at_ + up x.len ≤ gapGo need e l ∨ gapGo need e l + need ≤ x.at_
  | [], _, _, x, hx => by cases hx
  | y :: ys, e, hp, x, hx => by
    unfold gapGo
    have hp' := List.pairwise_cons.1 hp
    split
    · rename_i c
      right
      rcases List.mem_cons.1 hx with rfl | hx
      · exact c
      · exact Nat.le_trans c (Ext.lt_at (hp'.1 x hx))
    · rcases List.mem_cons.1 hx with rfl | hx
      · exact .inl (Nat.le_trans (Nat.le_max_right _ _) (gap_ge need ys _))
      · exact gap_free need ys _ hp'.2 x hx

/-! Packing. -/
def packGo : Nat → List Ext → List Ext
  | _, [] => []
  | e, x :: xs => { x with at_ := e } :: packGo (e + up x.len) xs

theorem packGo_length : ∀ (l : List Ext) (e : Nat), (packGo e l).length = l.length
  | [], _ => rfl
  | x :: xs, e => by simp [packGo, packGo_length xs]
theorem packGo_ids : ∀ (l : List Ext) (e : Nat), (packGo e l).map Ext.id = l.map Ext.id
  | [], _ => rfl
  | x :: xs, e => by simp [packGo, packGo_ids xs]
theorem packGo_lens : ∀ (l : List Ext) (e : Nat), (packGo e l).map Ext.len = l.map Ext.len
  | [], _ => rfl
  | x :: xs, e => by simp [packGo, packGo_lens xs]
theorem packGo_append : ∀ (l m : List Ext) (e : Nat), packGo e (l ++ m) = packGo e l ++ packGo (e + total l) m
  | [], m, e => by simp [packGo]
  | x :: xs, m, e => by simp [packGo, packGo_append xs, Nat.add_assoc]
theorem packGo_total : ∀ (l : List Ext) (e : Nat), total (packGo e l) = total l
  | [], _ => rfl
  | x :: xs, e => by simp [packGo, packGo_total xs]
theorem packGo_mem_at : ∀ (l : List Ext) (e : Nat), ∀ x ∈ packGo e l, e ≤ x.at_ ∧ x.at_ + up x.len ≤ e + total l
  | [], _, x, hx => by cases hx
  | y :: ys, e, x, hx => by
    simp only [packGo, List.mem_cons] at hx
    rcases hx with rfl | hx
    · simp
    · have := packGo_mem_at ys _ x hx
      simp; omega
theorem packGo_eights : ∀ (l : List Ext) (e : Nat), e % 8 = 0 → ∀ x ∈ packGo e l, x.at_ % 8 = 0
  | [], _, _, x, hx => by cases hx
  | y :: ys, e, he, x, hx => by
    simp only [packGo, List.mem_cons] at hx
    rcases hx with rfl | hx
    · exact he
    · exact packGo_eights ys _ (by have := up_mod y.len; omega) x hx
theorem packGo_apart : ∀ (l : List Ext) (e : Nat), (packGo e l).Pairwise Ext.apart
  | [], _ => .nil
  | y :: ys, e => by
    simp only [packGo, List.pairwise_cons]
    refine ⟨fun x hx _ _ => .inl ?_, packGo_apart ys _⟩
    exact (packGo_mem_at ys _ x hx).1

/-- A packed row, sorted anew. -/
theorem Lay.packed {l m : List Ext} {span : Nat} (h : Lay l span) (hm : m.Perm (packGo 0 l)) (hs : m.Pairwise Ext.lt) : Lay m (total l) where
  sorted := hs
  apart := (packGo_apart l 0).perm hm.symm (fun h => Ext.apart_symm h)
  eights := fun x hx => packGo_eights l 0 rfl x (hm.mem_iff.1 hx)
  inside := fun x hx => by have := packGo_mem_at l 0 x (hm.mem_iff.1 hx); omega
  ids := by rw [(hm.map Ext.id).nodup_iff, packGo_ids]; exact h.ids

/-- All that lies ahead of an extent that has bytes is no more than its place. -/
theorem total_le_at : ∀ (l : List Ext) (b : Nat), l.Pairwise Ext.lt → l.Pairwise Ext.apart → (∀ x ∈ l, 0 < x.len → x.at_ + up x.len ≤ b) → ∀ a, (∀ x ∈ l, 0 < x.len → a ≤ x.at_) → a ≤ b → a + total l ≤ b
  | [], b, _, _, _, a, _, hab => by simpa using hab
  | x :: xs, b, hl, ha, hb, a, haa, hab => by
    have hl' := List.pairwise_cons.1 hl
    have ha' := List.pairwise_cons.1 ha
    rw [total_cons]
    by_cases hx : 0 < x.len
    · have h1 := haa x (by simp) hx
      have h2 := hb x (by simp) hx
      have := total_le_at xs b hl'.2 ha'.2 (fun y hy => hb y (by simp [hy])) (x.at_ + up x.len) (fun y hy hy0 => ?_) h2
      · omega
      · rcases ha'.1 y hy hx hy0 with c | c
        · exact c
        · have := Ext.lt_at (hl'.1 y hy)
          have := up_pos.2 hy0
          omega
    · have h0 : x.len = 0 := by omega
      rw [h0, up_zero, Nat.zero_add]
      exact total_le_at xs b hl'.2 ha'.2 (fun y hy => hb y (by simp [hy])) a (fun y hy => haa y (by simp [hy])) hab

theorem Lay.total_le {l : List Ext} {span : Nat} (h : Lay l span) : total l ≤ span := by
  have := total_le_at l span h.sorted h.apart (fun x hx _ => h.inside x hx) 0 (fun _ _ _ => Nat.zero_le _) (Nat.zero_le _)
  omega

theorem Lay.ahead {pre suf : List Ext} {x : Ext} {span : Nat} (h : Lay (pre ++ x :: suf) span) (hx : 0 < x.len) : total pre ≤ x.at_ := by
  have hs := List.pairwise_append.1 h.sorted
  have ha := List.pairwise_append.1 h.apart
  have := total_le_at pre x.at_ hs.1 ha.1 (fun y hy hy0 => ?_) 0 (fun _ _ _ => Nat.zero_le _) (Nat.zero_le _)
  · omega
  · rcases ha.2.2 y hy x (by simp) hy0 hx with c | c
    · exact c
    · have := Ext.lt_at (hs.2.2 y hy x (by simp))
      have := up_pos.2 hx
      omega

/-- Behind a packing there is no gap. -/
theorem gap_packed {need : Nat} (hn : 0 < need) : ∀ (l : List Ext) (e : Nat), gapGo need e (packGo e l) = e + total l
  | [], e => by simp [packGo, gapGo]
  | x :: xs, e => by
    simp only [packGo, gapGo, total_cons]
    rw [if_neg (by omega), Nat.max_eq_right (by omega), gap_packed hn xs]
    omega

theorem gap_zero : ∀ (l : List Ext), gapGo 0 0 l = 0
  | [] => rfl
  | x :: xs => by simp [gapGo]

/-- Behind a packing, and in whatever order: the gap is no further than all bytes. -/
theorem gap_in {need : Nat} {l : List Ext} {span : Nat} (h : Lay l span) : gapGo need 0 l ≤ span :=
  gap_le need l 0 (Nat.zero_le _) h.inside

/-! One more. -/
/-- Where an extent belongs. -/
def place (y : Ext) (l : List Ext) : Nat := (l.takeWhile fun x => decide (x.lt y)).length
def insertE (y : Ext) (l : List Ext) : List Ext := l.take (place y l) ++ y :: l.drop (place y l)

theorem take_place (y : Ext) (l : List Ext) : l.take (place y l) = l.takeWhile fun x => decide (x.lt y) := by
  unfold place
  induction l with
  | nil => rfl
  | cons x xs ih =>
    rw [List.takeWhile_cons]
    split
    · simp only [List.length_cons, List.take_succ_cons, ih]
    · rfl
theorem drop_place (y : Ext) (l : List Ext) : l.drop (place y l) = l.dropWhile fun x => decide (x.lt y) := by
  unfold place
  induction l with
  | nil => rfl
  | cons x xs ih =>
    rw [List.takeWhile_cons, List.dropWhile_cons]
    split
    · simp only [List.length_cons, List.drop_succ_cons, ih]
    · rfl
theorem place_le (y : Ext) (l : List Ext) : place y l ≤ l.length := by
  unfold place
  exact List.Sublist.length_le (List.takeWhile_sublist _)
theorem insertE_perm (y : Ext) (l : List Ext) : (insertE y l).Perm (y :: l) := by
  unfold insertE
  refine List.perm_middle.trans ?_
  rw [List.take_append_drop]

theorem mem_takeWhile_lt {y : Ext} {l : List Ext} : ∀ x ∈ l.takeWhile (fun x => decide (x.lt y)), x.lt y := by
  induction l with
  | nil => intro x hx; cases hx
  | cons z zs ih =>
    intro x hx
    rw [List.takeWhile_cons] at hx
    split at hx
    · rename_i c
      rcases List.mem_cons.1 hx with rfl | hx
      · simpa using c
      · exact ih x hx
    · cases hx

theorem mem_dropWhile_lt {y : Ext} {l : List Ext} (hs : l.Pairwise Ext.lt) : ∀ x ∈ l.dropWhile (fun x => decide (x.lt y)), ¬ x.lt y := by
  induction l with
  | nil => intro x hx; cases hx
  | cons z zs ih =>
    intro x hx
    have hs' := List.pairwise_cons.1 hs
    rw [List.dropWhile_cons] at hx
    split at hx
    · exact ih hs'.2 x hx
    · rename_i c
      rcases List.mem_cons.1 hx with rfl | hx
      · simpa using c
      · intro k
        exact c (by simpa using Ext.lt_trans (hs'.1 x hx) k)

theorem insertE_sorted {y : Ext} {l : List Ext} (hs : l.Pairwise Ext.lt) (hid : y.id ∉ l.map Ext.id) : (insertE y l).Pairwise Ext.lt := by
  unfold insertE
  rw [take_place, drop_place]
  have hs' := hs
  rw [← List.takeWhile_append_dropWhile (p := fun x => decide (x.lt y)) (l := l), List.pairwise_append] at hs'
  refine List.pairwise_append.2 ⟨hs'.1, List.pairwise_cons.2 ⟨fun x hx => ?_, hs'.2.1⟩, fun x hx z hz => ?_⟩
  · have h1 := mem_dropWhile_lt (y := y) hs x hx
    have h2 : x ∈ l := (List.dropWhile_sublist _).subset hx
    have h3 : y.id ≠ x.id := fun e => hid (by rw [e]; exact List.mem_map_of_mem h2)
    exact (Ext.lt_total h3).resolve_right h1
  · rcases List.mem_cons.1 hz with rfl | hz
    · exact mem_takeWhile_lt x hx
    · exact hs'.2.2 x hx z hz

/-- One more extent in a gap. -/
theorem Lay.insert {l : List Ext} {span : Nat} (h : Lay l span) {y : Ext} (hid : y.id ∉ l.map Ext.id) (h8 : y.at_ % 8 = 0) (hin : y.at_ + up y.len ≤ span)
    (hfree : ∀ x ∈ l, x.at_ + up x.len ≤ y.at_ ∨ y.at_ + up y.len ≤ x.at_) : Lay (insertE y l) span where
  sorted := insertE_sorted h.sorted hid
  apart := (List.pairwise_cons.2 ⟨fun x hx _ _ => (hfree x hx).symm, h.apart⟩ : (y :: l).Pairwise Ext.apart).perm (insertE_perm y l).symm (fun h => Ext.apart_symm h)
  eights := fun x hx => by
    rcases List.mem_cons.1 ((insertE_perm y l).mem_iff.1 hx) with rfl | hx
    · exact h8
    · exact h.eights x hx
  inside := fun x hx => by
    rcases List.mem_cons.1 ((insertE_perm y l).mem_iff.1 hx) with rfl | hx
    · exact hin
    · exact h.inside x hx
  ids := by
    rw [((insertE_perm y l).map Ext.id).nodup_iff]
    exact List.nodup_cons.2 ⟨hid, h.ids⟩

theorem Lay.erase {l : List Ext} {span : Nat} (h : Lay l span) (i : Nat) : Lay (l.eraseIdx i) span where
  sorted := h.sorted.sublist (List.eraseIdx_sublist _ _)
  apart := h.apart.sublist (List.eraseIdx_sublist _ _)
  eights := fun x hx => h.eights x ((List.eraseIdx_sublist _ _).subset hx)
  inside := fun x hx => h.inside x ((List.eraseIdx_sublist _ _).subset hx)
  ids := h.ids.sublist ((List.eraseIdx_sublist _ _).map _)

/-! Where an extent is found. -/
theorem place_of_mem {l : List Ext} (hs : l.Pairwise Ext.lt) {i : Nat} (hi : i < l.length) (y : Ext) (ha : y.at_ = l[i].at_) (hd : y.id = l[i].id) : place y l = i := by
  induction l generalizing i with
  | nil => cases hi
  | cons x xs ih =>
    have hs' := List.pairwise_cons.1 hs
    unfold place
    rw [List.takeWhile_cons]
    cases i with
    | zero =>
      have : ¬ x.lt y := by unfold Ext.lt; simp at ha hd; omega
      simp [this]
    | succ j =>
      simp only [List.getElem_cons_succ] at ha hd
      have hj : j < xs.length := by simpa using hi
      have hlt : x.lt y := by
        have := hs'.1 xs[j] (List.getElem_mem hj)
        unfold Ext.lt at this ⊢
        omega
      simp only [hlt, decide_true, if_true, List.length_cons]
      exact congrArg (· + 1) (ih hs'.2 hj ha hd)

end Go.Proofs.Ytgimcpnelogadaa.Sto
/- Chapter 5, plain: the bytes of extents: what a packing keeps; the state of a store, and what it means. No program in sight. -/
namespace Go.Proofs.Ytgimcpnelogadaa.Sto
open Go (splice)

/-- n bytes from a on. -/
def sl {α : Type} (r : List α) (a n : Nat) : List α := (r.drop a).take n

section
variable {α : Type}
theorem sl_length {r : List α} {a n : Nat} (h : a + n ≤ r.length) : (sl r a n).length = n := by
  unfold sl; rw [List.length_take, List.length_drop]; omega
theorem sl_zero (r : List α) (a : Nat) : sl r a 0 = [] := by simp [sl]
theorem sl_getElem? (r : List α) (a n i : Nat) (h : i < n) : (sl r a n)[i]? = r[a + i]? := by
  unfold sl; rw [List.getElem?_take, if_pos h, List.getElem?_drop]
theorem sl_ext {r s : List α} {a b n : Nat} (h : ∀ i, i < n → r[a + i]? = s[b + i]?) : sl r a n = sl s b n := by
  apply List.ext_getElem?
  intro i
  by_cases hi : i < n
  · rw [sl_getElem? _ _ _ _ hi, sl_getElem? _ _ _ _ hi]; exact h i hi
  · rw [List.getElem?_eq_none, List.getElem?_eq_none]
    · simp [sl]; omega
    · simp [sl]; omega
theorem splice_getElem? (r : List α) (e : Nat) (b : List α) (h : e + b.length ≤ r.length) (i : Nat) : (splice r e b)[i]? = if i < e then r[i]? else if i < e + b.length then b[i - e]? else r[i]? := by
  unfold splice
  rw [List.getElem?_append, List.length_take, Nat.min_eq_left (by omega)]
  split
  · rw [List.getElem?_take, if_pos (by assumption)]
  · rw [List.getElem?_append]
    split
    · rw [if_pos (by omega)]
    · rw [if_neg (by omega), List.getElem?_drop]
      congr 1; omega
theorem sl_splice_far {r : List α} {e : Nat} {b : List α} {a n : Nat} (h : e + b.length ≤ r.length) (hf : a + n ≤ e ∨ e + b.length ≤ a) : sl (splice r e b) a n = sl r a n := by
  refine sl_ext fun i hi => ?_
  rw [splice_getElem? _ _ _ h]
  rcases hf with c | c
  · rw [if_pos (by omega)]
  · rw [if_neg (by omega), if_neg (by omega)]
theorem sl_splice_same {r : List α} {e : Nat} {b : List α} (h : e + b.length ≤ r.length) : sl (splice r e b) e b.length = b := by
  apply List.ext_getElem?
  intro i
  by_cases hi : i < b.length
  · rw [sl_getElem? _ _ _ _ hi, splice_getElem? _ _ _ h, if_neg (by omega), if_pos (by omega)]
    congr 1; omega
  · rw [List.getElem?_eq_none, List.getElem?_eq_none]
    · omega
    · rw [sl_length (by rw [length_splice _ _ _ h]; omega)]; omega
theorem sl_take {r : List α} {a n m : Nat} (h : a + n ≤ m) : sl (r.take m) a n = sl r a n := by
  refine sl_ext fun i hi => ?_
  rw [List.getElem?_take, if_pos (by omega)]
theorem sl_append {r s : List α} {a n : Nat} (h : a + n ≤ r.length) : sl (r ++ s) a n = sl r a n := by
  refine sl_ext fun i hi => ?_
  rw [List.getElem?_append_left (by omega)]
theorem sl_set_far {r : List α} {a n i : Nat} {v : α} (h : i < a ∨ a + n ≤ i) : sl (r.set i v) a n = sl r a n := by
  refine sl_ext fun j hj => ?_
  rw [List.getElem?_set_ne (by omega)]
theorem sl_set_in {r : List α} {a n i : Nat} {v : α} (h : i < n) : sl (r.set (a + i) v) a n = (sl r a n).set i v := by
  apply List.ext_getElem?
  intro j
  by_cases hj : j < n
  · rw [sl_getElem? _ _ _ _ hj, List.getElem?_set, List.getElem?_set, sl_getElem? _ _ _ _ hj]
    by_cases e : i = j
    · subst e
      simp only [if_true]
      by_cases hl : a + i < r.length
      · rw [if_pos hl, if_pos (by simp [sl]; omega)]
      · rw [if_neg hl, if_neg (by simp [sl]; omega)]
    · rw [if_neg (by omega), if_neg e]
  · rw [List.getElem?_eq_none, List.getElem?_eq_none]
    · simp [sl]; omega
    · simp [sl]; omega
end

/-- The state of a store. -/
structure St where
  raw : List UInt8
  all : List Ext
  used : Nat
  most : Nat

/-- Where an Id is. -/
def atOf (l : List Ext) (k : Int) : Option Int := (l.find? fun x => decide ((x.id : Int) = k)).map fun x => (x.at_ : Int)

structure Ok (s : St) : Prop where
  lay : Lay s.all s.raw.length
  used : s.used = total s.all
  most : s.used ≤ s.most
  span : s.raw.length ≤ 2 * s.most + 64

theorem atOf_some {l : List Ext} (hn : (l.map Ext.id).Nodup) {x : Ext} (hx : x ∈ l) : atOf l x.id = some (x.at_ : Int) := by
  unfold atOf
  induction l with
  | nil => cases hx
  | cons y ys ih =>
    rw [List.find?_cons]
    simp only [List.map_cons, List.nodup_cons] at hn
    rcases List.mem_cons.1 hx with rfl | hx
    · simp
    · have hne : ¬ ((y.id : Int) = (x.id : Int)) := fun e => hn.1 (by rw [show y.id = x.id by omega]; exact List.mem_map_of_mem hx)
      simp only [hne, decide_false]
      exact ih hn.2 hx
theorem atOf_none {l : List Ext} {k : Int} (h : ∀ x ∈ l, (x.id : Int) ≠ k) : atOf l k = none := by
  unfold atOf
  rw [List.find?_eq_none.2 (fun x hx => by simpa using h x hx)]
  rfl
theorem atOf_isSome {l : List Ext} {k : Int} (h : (atOf l k).isSome) : ∃ x ∈ l, (x.id : Int) = k := by
  unfold atOf at h
  rw [Option.isSome_map, List.find?_isSome] at h
  obtain ⟨x, hx, hk⟩ := h
  exact ⟨x, hx, by simpa using hk⟩
theorem atOf_perm {l m : List Ext} (hn : (l.map Ext.id).Nodup) (h : l.Perm m) (k : Int) : atOf m k = atOf l k := by
  have hm : (m.map Ext.id).Nodup := ((h.map Ext.id).nodup_iff).1 hn
  by_cases c : ∃ x ∈ l, (x.id : Int) = k
  · obtain ⟨x, hx, rfl⟩ := c
    rw [atOf_some hn hx, atOf_some hm (h.mem_iff.1 hx)]
  · rw [atOf_none (fun x hx e => c ⟨x, hx, e⟩), atOf_none (fun x hx e => c ⟨x, h.mem_iff.2 hx, e⟩)]

/-- The bytes of an extent. -/
def St.bytes (s : St) (x : Ext) : List UInt8 := sl s.raw x.at_ x.len

/-- What the store means: Ids, rising, each with its bytes. -/
def Means (s : St) (L : List (Nat × List UInt8)) : Prop :=
  L.Pairwise (fun a b => a.1 < b.1) ∧ (s.all.map fun x => (x.id, s.bytes x)).Perm L

def totalL (L : List (Nat × List UInt8)) : Nat := (L.map fun x => up x.2.length).sum

theorem bytes_length {s : St} (h : Ok s) {x : Ext} (hx : x ∈ s.all) : (s.bytes x).length = x.len :=
  sl_length (by have := h.lay.inside x hx; have := up_ge x.len; omega)
theorem Means.total {s : St} {L : List (Nat × List UInt8)} (h : Ok s) (hm : Means s L) : totalL L = s.used := by
  rw [h.used]
  unfold totalL
  rw [← (hm.2.map fun x => up x.2.length).sum_nat, List.map_map]
  unfold Sto.total
  congr 1
  exact List.map_congr_left fun x hx => by simp [bytes_length h hx]

/-! ### A packing. -/
/-- What holds behind k rounds: the first k are packed, the others lie where they lay, and all that have bytes have theirs. -/
structure Packing (l : List Ext) (raw0 : List UInt8) (k : Nat) (raw : List UInt8) : Prop where
  length : raw.length = raw0.length
  done : ∀ j (hj : j < l.length), j < k → sl raw (total (l.take j)) l[j].len = sl raw0 l[j].at_ l[j].len
  rest : ∀ j (hj : j < l.length), k ≤ j → sl raw l[j].at_ l[j].len = sl raw0 l[j].at_ l[j].len

theorem Packing.start (l : List Ext) (raw : List UInt8) : Packing l raw 0 raw := ⟨rfl, fun _ _ h => by omega, fun _ _ _ => rfl⟩

theorem Lay.ahead_at {l : List Ext} {span : Nat} (h : Lay l span) {j : Nat} (hj : j < l.length) (hx : 0 < l[j].len) : total (l.take j) ≤ l[j].at_ := by
  have h' := h
  rw [← List.take_append_drop j l, List.drop_eq_getElem_cons hj] at h'
  exact h'.ahead hx

theorem total_take_succ (l : List Ext) {j : Nat} (hj : j < l.length) : total (l.take (j + 1)) = total (l.take j) + up l[j].len := by
  rw [List.take_succ_eq_append_getElem hj, total_append]; simp
theorem total_take_le (l : List Ext) {i j : Nat} (h : i ≤ j) : total (l.take i) ≤ total (l.take j) := by
  have : (l.take i) = (l.take j).take i := by rw [List.take_take, Nat.min_eq_left h]
  rw [this]
  have := congrArg total (List.take_append_drop i (l.take j))
  rw [total_append] at this
  omega
theorem Lay.total_take {l : List Ext} {span : Nat} (h : Lay l span) (j : Nat) : total (l.take j) ≤ span := by
  have h1 := h.total_le
  have h2 := congrArg total (List.take_append_drop j l)
  rw [total_append] at h2
  omega

theorem Packing.step {l : List Ext} {raw0 raw : List UInt8} {k : Nat} (hl : Lay l raw0.length) (h : Packing l raw0 k raw) (hk : k < l.length) :
    Packing l raw0 (k + 1) (splice raw (total (l.take k)) (sl raw l[k].at_ l[k].len)) := by
  have hin := hl.inside l[k] (List.getElem_mem hk)
  have hup := up_ge l[k].len
  have hlen : (sl raw l[k].at_ l[k].len).length = l[k].len := sl_length (by rw [h.length]; omega)
  have hfit : total (l.take k) + (sl raw l[k].at_ l[k].len).length ≤ raw.length := by
    rw [hlen, h.length]
    have := hl.total_take (k + 1)
    rw [total_take_succ l hk] at this
    omega
  refine ⟨by rw [length_splice _ _ _ hfit, h.length], fun j hj hjk => ?_, fun j hj hjk => ?_⟩
  · by_cases e : j = k
    · subst e
      have := sl_splice_same hfit
      rw [hlen] at this
      rw [this]
      exact h.rest j hj (Nat.le_refl _)
    · rw [sl_splice_far hfit (.inl ?_)]
      · exact h.done j hj (by omega)
      · have := total_take_le l (show j + 1 ≤ k by omega)
        rw [total_take_succ l hj] at this
        have := up_ge l[j].len
        omega
  · by_cases h0 : 0 < l[j].len
    · rw [sl_splice_far hfit (.inr ?_)]
      · exact h.rest j hj (by omega)
      · rw [hlen]
        have := hl.ahead_at hj h0
        have := total_take_le l (show k + 1 ≤ j by omega)
        rw [total_take_succ l hk] at this
        omega
    · have h0' : l[j].len = 0 := by omega
      rw [h0', sl_zero, sl_zero]

/-- How the list stands behind k rounds. -/
theorem packGo_take_set (l : List Ext) {k : Nat} (hk : k < l.length) :
    (packGo 0 (l.take k) ++ l.drop k).set k { l[k] with at_ := total (l.take k) } = packGo 0 (l.take (k + 1)) ++ l.drop (k + 1) := by
  have hlen : (packGo 0 (l.take k)).length = k := by rw [packGo_length, List.length_take]; omega
  rw [List.take_succ_eq_append_getElem hk, packGo_append, List.drop_eq_getElem_cons hk, List.set_append_right _ _ (by omega), hlen, Nat.sub_self, List.set_cons_zero]
  simp [packGo]
theorem packGo_getElem? (l : List Ext) {k : Nat} (hk : k < l.length) : (packGo 0 (l.take k) ++ l.drop k)[k]? = some l[k] := by
  have hlen : (packGo 0 (l.take k)).length = k := by rw [packGo_length, List.length_take]; omega
  rw [List.getElem?_append_right (by omega), hlen, Nat.sub_self, List.drop_eq_getElem_cons hk]
  rfl

/-- Each extent that is packed has its bytes. -/
theorem packed_bytes {l : List Ext} {raw0 raw : List UInt8} (h : Packing l raw0 l.length raw) :
    ((packGo 0 l).map fun x => (x.id, sl raw x.at_ x.len)) = l.map fun x => (x.id, sl raw0 x.at_ x.len) := by
  have gen : ∀ (m pre : List Ext), pre ++ m = l → ((packGo (total pre) m).map fun x => (x.id, sl raw x.at_ x.len)) = m.map fun x => (x.id, sl raw0 x.at_ x.len) := by
    intro m
    induction m with
    | nil => intro pre _; rfl
    | cons x xs ih =>
      intro pre hp
      have hj : pre.length < l.length := by rw [← hp]; simp
      have e1 : l[pre.length] = x := by simp [← hp]
      have e2 : l.take pre.length = pre := by simp [← hp]
      have h1 := h.done pre.length hj hj
      rw [e1, e2] at h1
      have h2 := ih (pre ++ [x]) (by simp [hp])
      simp only [total_append, total_cons, total_nil, Nat.add_zero] at h2
      simp only [packGo, List.map_cons, h1, h2]
  exact gen l [] rfl

end Go.Proofs.Ytgimcpnelogadaa.Sto
/- Chapter 5, the store, by hand: rounding up; how extents are compared. -/
namespace Go.Proofs.Ytgimcpnelogadaa.Sto
open Go.RowKit Go.Proofs.Ytgimcpnelogadaa.Mem
set_option linter.unusedVariables false
set_option linter.unusedSimpArgs false

theorem nat_hi8 (m : Nat) (h : m < 2 ^ 64) : m &&& 18446744073709551608 = m / 8 * 8 := by
  apply Nat.eq_of_testBit_eq
  intro i
  rw [Nat.testBit_and, show (18446744073709551608 : Nat) = (2 ^ 61 - 1) <<< 3 by decide, show m / 8 * 8 = (m >>> 3) <<< 3 by rw [Nat.shiftLeft_eq, Nat.shiftRight_eq_div_pow], Nat.testBit_shiftLeft, Nat.testBit_shiftLeft, Nat.testBit_shiftRight, Nat.testBit_two_pow_sub_one]
  by_cases c : 3 ≤ i
  · by_cases d : i < 64
    · simp [c, show i - 3 < 61 by omega, show 3 + (i - 3) = i by omega]
    · have : m.testBit i = false := Nat.testBit_lt_two_pow (Nat.lt_of_lt_of_le h (Nat.pow_le_pow_right (by omega) (by omega)))
      simp [c, this, show 3 + (i - 3) = i by omega]
  · simp [c]
theorem andNot7 (n : Nat) (h : n ≤ 1000000000000) : bits .andNot .i64 ((n : Int) + 7) 7 = (up n : Nat) := by
  have e : ((n : Int) + 7) = ((n + 7 : Nat) : Int) := by omega
  rw [e]
  show IntKind.i64.wrap ((BitVec.ofInt 64 ((n + 7 : Nat) : Int) &&& ~~~BitVec.ofInt 64 ((7 : Nat) : Int)).toNat : Int) = _
  rw [BitVec.toNat_and, BitVec.toNat_not, ofInt_u64 _ (by omega), ofInt_u64 7 (by omega), show 2 ^ 64 - 1 - 7 = 18446744073709551608 by decide, nat_hi8 _ (by omega)]
  exact Go.Lib.wrap_i64_small _ (by omega)
theorem ret_int {k : IntKind} {a b : Int} (h : a = b) : Ending.returned (.int k a) = .returned (.int k b) := by rw [h]
theorem ret_bool {a b : Bool} (h : a = b) : Ending.returned (.bool a) = .returned (.bool b) := by rw [h]

theorem up_calls (n : Nat) (w : World) (h : n ≤ 1000000000000) : Calls Try.prog 61 #[.int .i64 (n : Int)] w fun e w' => e = .returned (.int .i64 (up n : Nat)) ∧ w = w' := by
  have hb := Aside.mk (andNot7 n h)
  go_enter Try.func61, Try.ntmps61
  go_wp2
  go_ret
  exact ⟨ret_int hb.out, rfl⟩

theorem nan_calls (x : Int) (w : World) : Calls Try.prog 127 #[.int .i64 x] w fun e w' => e = .returned (.bool false) ∧ w = w' := by
  go_enter Try.func127, Try.ntmps127
  go_wp2
  go_ret
  exact ⟨ret_bool (by simp), rfl⟩

/-- cmp.Compare. -/
def cmpI (x y : Int) : Int := if x < y then -1 else if y < x then 1 else 0
theorem compare_calls (x y : Int) (w : World) : Calls Try.prog 111 #[.int .i64 x, .int .i64 y] w fun e w' => e = .returned (.int .i64 (cmpI x y)) ∧ w = w' := by
  go_enter Try.func111, Try.ntmps111
  go_wp2_with (go_at_call 127; (with_reducible refine (nan_calls _ _).mono ?_); rintro e w' ⟨rfl, rfl⟩)
  all_goals go_ret
  · exact ⟨ret_int (by unfold cmpI; rw [if_pos (by assumption)]), rfl⟩
  · exact ⟨ret_int (by unfold cmpI; rw [if_neg (by omega), if_pos (by assumption)]), rfl⟩
  · exact ⟨ret_int (by unfold cmpI; rw [if_neg (by omega), if_neg (by omega)]), rfl⟩

/-- cmp.Or of two. -/
def orI (x y : Int) : Int := if x = 0 then y else x
theorem or_calls (B : Nat) (x y : Int) (w : World) (h : Blk w B 3 [.int .i64 x, .int .i64 y]) :
    Calls Try.prog 110 #[.slice (some ⟨B, 0, none⟩) 2 2] w fun e w' => e = .returned (.int .i64 (orI x y)) ∧ w = w' := by
  have h0 := h.cellAt (i := 0) rfl
  have h1 := h.cellAt (i := 1) rfl
  clear h
  go_enter Try.func110, Try.ntmps110
  go_wp2
  by_cases c : x = 0
  · subst c
    by_cases d : y = 0
    · subst d
      refine wp_loop_rounds 3 ?_
      iterate 3 (rw [rounds_succ]; go_wp2)
      go_ret
      exact ⟨ret_int (by simp [orI]), rfl⟩
    · refine wp_loop_rounds 2 ?_
      iterate 2 (rw [rounds_succ]; go_wp2)
      go_ret
      exact ⟨ret_int (by simp [orI]), rfl⟩
  · refine wp_loop_rounds 1 ?_
    rw [rounds_succ]; go_wp2
    go_ret
    exact ⟨ret_int (by simp [orI, c]), rfl⟩

/-- How two extents are compared. -/
def ordI (i1 a1 i2 a2 : Int) : Int := orI (cmpI a1 a2) (cmpI i1 i2)
set_option maxRecDepth 100000 in
theorem order_calls (i1 a1 l1 i2 a2 l2 : Int) (w : World) :
    Calls Try.prog 64 #[.agg #[.int .i64 i1, .int .i64 a1, .int .i64 l1], .agg #[.int .i64 i2, .int .i64 a2, .int .i64 l2]] w fun e w' => e = .returned (.int .i64 (ordI i1 a1 i2 a2)) ∧ Below w.heap.size w w' := by
  have hu := Try.underlying114
  go_enter Try.func64, Try.ntmps64
  go_wp2
  refine region_tail 10 (by kernel_rfl) (by kernel_rfl) ?_
  simp only [List.take_succ_cons, List.take_zero, List.drop_succ_cons, List.drop_zero]
  repeat (first | still_step | still_call (calls_same (compare_calls _ _ _)))
  refine wpStill_nil ?_
  go_wp2_with (go_at_call 110; (with_reducible refine (or_calls _ _ _ _ (Blk.newL _ (by simp)).drew).mono ?_); rintro e w' ⟨rfl, rfl⟩)
  go_ret
  exact ⟨rfl, ((((Below.refl _ _).alloc (Nat.le_refl _) _).alloc (by simp) _).alloc (by simp; omega) _).drew⟩
end Go.Proofs.Ytgimcpnelogadaa.Sto
/- Chapter 5, the store, by hand: what a store is in memory; New, Used, Span. -/
namespace Go.Proofs.Ytgimcpnelogadaa.Sto
open Go.RowKit Go.Proofs.Ytgimcpnelogadaa.Mem
set_option linter.unusedVariables false
set_option linter.unusedSimpArgs false
attribute [local go_sem] run_makeMap

/-- An extent's cells; those of a row of them; bytes' cells. -/
def extV (x : Ext) : List Value := [.int .i64 (x.id : Int), .int .i64 (x.at_ : Int), .int .i64 (x.len : Int)]
def rowV (l : List Ext) : List Value := l.flatMap extV
def u8V (r : List UInt8) : List Value := r.map fun b => .int .u8 (b.toNat : Int)

/-- What a store's block holds. -/
def stV (raw all by_ : Value) (used most : Nat) : List Value := [raw, all, by_, .int .i64 (used : Int), .int .i64 (most : Int)]

/-- At block p there is a store in the state s; rawv, allv, mb: its bytes, its extents, its map of places. -/
structure StoAt (w : World) (p : Nat) (s : St) (rawv allv : Value) (mb : Nat) : Prop where
  cells : Blk w p 111 (stV rawv allv (.map (some mb)) s.used s.most)
  raw : Row w 5 1 rawv s.raw.length (u8V s.raw)
  all : Row w 114 3 allv s.all.length (rowV s.all)
  by_ : IMap Try.prog 3 w mb s.all.length (atOf s.all)

/-- The blocks of a store. -/
def foot (p : Nat) (rawv allv : Value) (mb : Nat) : List Nat := p :: mb :: (rawv.ownBlock.toList ++ allv.ownBlock.toList)

/-- At block p there is a store in the state s, made of the blocks F. -/
def Sto (w : World) (p : Nat) (s : St) (F : List Nat) : Prop := ∃ rawv allv mb, StoAt w p s rawv allv mb ∧ F = foot p rawv allv mb

section
variable {w w' : World} {p mb : Nat} {s : St} {rawv allv : Value} {F : List Nat}
theorem mem_foot {k : Nat} : k ∈ foot p rawv allv mb ↔ k = p ∨ k = mb ∨ rawv.ownBlock = some k ∨ allv.ownBlock = some k := by
  simp [foot, Option.mem_toList]
theorem StoAt.lt (h : StoAt w p s rawv allv mb) : ∀ k ∈ foot p rawv allv mb, k < w.heap.size := by
  intro k hk
  rcases mem_foot.1 hk with rfl | rfl | hk | hk
  · exact h.cells.lt
  · exact h.by_.lt
  · exact h.raw.lt hk
  · exact h.all.lt hk
theorem StoAt.keep (h : StoAt w p s rawv allv mb) (hk : ∀ k ∈ foot p rawv allv mb, w'.heap[k]? = w.heap[k]?) : StoAt w' p s rawv allv mb :=
  ⟨h.cells.keep (hk p (by simp [foot])), h.raw.keep (fun g hg => hk g (mem_foot.2 (.inr (.inr (.inl hg))))), h.all.keep (fun g hg => hk g (mem_foot.2 (.inr (.inr (.inr hg))))), h.by_.keep (hk mb (by simp [foot]))⟩
theorem StoAt.chg {G : List Nat} (h : StoAt w p s rawv allv mb) (hc : Chg G w w') (hG : ∀ k ∈ foot p rawv allv mb, k ∉ G) : StoAt w' p s rawv allv mb :=
  h.keep fun k hk => hc.block k (h.lt k hk) (hG k hk)
theorem StoAt.drewN (h : StoAt w p s rawv allv mb) (n : Nat) : StoAt (w.drewN n) p s rawv allv mb := h.keep fun _ _ => rfl
theorem StoAt.drew (h : StoAt w p s rawv allv mb) : StoAt w.drew p s rawv allv mb := h.keep fun _ _ => rfl
theorem StoAt.alloc (h : StoAt w p s rawv allv mb) (o : Obj) : StoAt (w.alloc o) p s rawv allv mb := h.keep fun k hk => Below.heap_alloc _ _ _ (h.lt k hk)
theorem Sto.lt (h : Sto w p s F) : ∀ k ∈ F, k < w.heap.size := by obtain ⟨_, _, _, h, rfl⟩ := h; exact h.lt
theorem Sto.chg {G : List Nat} (h : Sto w p s F) (hc : Chg G w w') (hG : ∀ k ∈ F, k ∉ G) : Sto w' p s F := by
  obtain ⟨_, _, _, h, rfl⟩ := h
  exact ⟨_, _, _, h.chg hc hG, rfl⟩
theorem Sto.mem (h : Sto w p s F) : p ∈ F := by obtain ⟨_, _, _, h, rfl⟩ := h; simp [foot]

/-- The blocks of a store are apart. -/
theorem StoAt.p_mb (h : StoAt w p s rawv allv mb) : p ≠ mb := by
  rintro rfl
  obtain ⟨es, c, hm⟩ := h.by_.block
  have := h.cells.symm.trans hm
  cases this
theorem StoAt.p_raw (h : StoAt w p s rawv allv mb) : rawv.ownBlock ≠ some p := fun e => by
  obtain ⟨cs, hc⟩ := h.raw.typed e
  exact absurd (h.cells.inj hc).1 (by decide)
theorem StoAt.p_all (h : StoAt w p s rawv allv mb) : allv.ownBlock ≠ some p := fun e => by
  obtain ⟨cs, hc⟩ := h.all.typed e
  exact absurd (h.cells.inj hc).1 (by decide)
theorem StoAt.mb_raw (h : StoAt w p s rawv allv mb) : rawv.ownBlock ≠ some mb := fun e => by
  obtain ⟨cs, hc⟩ := h.raw.typed e
  obtain ⟨es, c, hm⟩ := h.by_.block
  have := hm.symm.trans hc
  cases this
theorem StoAt.mb_all (h : StoAt w p s rawv allv mb) : allv.ownBlock ≠ some mb := fun e => by
  obtain ⟨cs, hc⟩ := h.all.typed e
  obtain ⟨es, c, hm⟩ := h.by_.block
  have := hm.symm.trans hc
  cases this
theorem StoAt.raw_all (h : StoAt w p s rawv allv mb) {g : Nat} (hr : rawv.ownBlock = some g) : allv.ownBlock ≠ some g := fun e => by
  obtain ⟨cs, hc⟩ := h.all.typed e
  obtain ⟨ds, hd⟩ := h.raw.typed hr
  exact absurd (hd.inj hc).1 (by decide)
/-- The cells of the store's block. -/
theorem StoAt.c0 (h : StoAt w p s rawv allv mb) : w.cell? ⟨p, 0, none⟩ = some rawv := h.cells.cellAt rfl
theorem StoAt.c1 (h : StoAt w p s rawv allv mb) : w.cell? ⟨p, 1, none⟩ = some allv := h.cells.cellAt rfl
theorem StoAt.c2 (h : StoAt w p s rawv allv mb) : w.cell? ⟨p, 2, none⟩ = some (.map (some mb)) := h.cells.cellAt rfl
theorem StoAt.c3 (h : StoAt w p s rawv allv mb) : w.cell? ⟨p, 3, none⟩ = some (.int .i64 (s.used : Int)) := h.cells.cellAt rfl
theorem StoAt.c4 (h : StoAt w p s rawv allv mb) : w.cell? ⟨p, 4, none⟩ = some (.int .i64 (s.most : Int)) := h.cells.cellAt rfl
end

/-- A slice's length, of a row. -/
theorem Row_form {w : World} {t : TypeId} {size : Nat} {v : Value} {n : Nat} {xs : List Value} (h : Row w t size v n xs) : ∃ a c, v = .slice a n c := by
  rcases h.cases with ⟨rfl, rfl, _⟩ | ⟨g, cap, rest, rfl, _⟩
  · exact ⟨_, _, rfl⟩
  · exact ⟨_, _, rfl⟩

theorem new_calls (w : World) : Calls Try.prog 21 #[] w fun e w' => ∃ p F, e = .returned (.pointer (some ⟨p, 0, none⟩)) ∧ Sto w' p ⟨[], [], 0, 0⟩ F ∧ Chg [] w w' ∧ ∀ k ∈ F, w.heap.size ≤ k := by
  have hmm := @run_makeMap Try.prog
  go_enter Try.func21, Try.ntmps21
  go_wp2
  go_ret
  refine ⟨_, foot (w.heap.size + 1) (.slice none 0 0) (.slice none 0 0) w.heap.size, rfl, ⟨_, _, _, ⟨?_, Row.nil _ _ _, Row.nil _ _ _, ?_⟩, rfl⟩, ((Chg.refl [] w).alloc _).alloc _, ?_⟩
  · exact Blk.newL _ (by simp)
  · exact ((IMap.made Try.prog 3 w).keep (Below.heap_alloc _ _ _ (by simp))).congr (fun k _ => rfl)
  · intro k hk
    rcases mem_foot.1 hk with rfl | rfl | hk | hk
    · omega
    · omega
    · cases hk
    · cases hk

theorem used_calls {w : World} {p : Nat} {s : St} {F : List Nat} (h : Sto w p s F) :
    Calls Try.prog 29 #[.pointer (some ⟨p, 0, none⟩)] w fun e w' => e = .returned (.int .i64 (s.used : Int)) ∧ w = w' := by
  obtain ⟨rawv, allv, mb, h, rfl⟩ := h
  have h3 := h.c3
  clear h
  go_enter Try.func29, Try.ntmps29
  go_wp2
  go_ret
  exact ⟨rfl, rfl⟩

theorem span_calls {w : World} {p : Nat} {s : St} {F : List Nat} (h : Sto w p s F) :
    Calls Try.prog 35 #[.pointer (some ⟨p, 0, none⟩)] w fun e w' => e = .returned (.int .i64 (s.raw.length : Int)) ∧ w = w' := by
  obtain ⟨rawv, allv, mb, h, rfl⟩ := h
  have h0 := h.c0
  obtain ⟨a, c, rfl⟩ := Row_form h.raw
  clear h
  go_enter Try.func35, Try.ntmps35
  go_wp2
  go_ret
  exact ⟨rfl, rfl⟩
end Go.Proofs.Ytgimcpnelogadaa.Sto
/- Chapter 5, the store, by hand: slices.Clone of extents. -/
namespace Go.Proofs.Ytgimcpnelogadaa.Sto
open Go.RowKit Go.Proofs.Ytgimcpnelogadaa.Mem
set_option linter.unusedVariables false
set_option linter.unusedSimpArgs false
theorem infoExt : (Try.prog.info? 114).map (fun i => (i.zero, i.size, i.bytes)) = some (some (.agg #[.int .i64 0, .int .i64 0, .int .i64 0]), 3, 24) := by kernel_rfl
theorem oneExt : ∀ (l : List Ext), ∀ v ∈ rowV l, v.oneCell' = true := by
  intro l v hv
  unfold rowV extV at hv
  simp only [List.mem_flatMap] at hv
  obtain ⟨x, _, hv⟩ := hv
  simp at hv
  rcases hv with rfl | rfl | rfl <;> rfl
theorem List.getElem?_append_left_some {α : Type} {a b : List α} {j : Nat} {u : α} (h : a[j]? = some u) : (a ++ b)[j]? = some u := by
  rw [List.getElem?_append_left (List.getElem?_eq_some_iff.1 h).1]; exact h
theorem rowV_length (l : List Ext) : (rowV l).length = l.length * 3 := by
  unfold rowV
  induction l with
  | nil => rfl
  | cons x xs ih => simp [List.flatMap_cons, extV, ih]; omega

set_option maxRecDepth 100000 in
theorem clone_calls {w : World} {v : Value} {l : List Ext} (h : Row w 114 3 v l.length (rowV l)) (hl : l.length ≤ 1000000000) :
    Calls Try.prog 78 #[v] w fun e w' => ∃ v', e = .returned v' ∧ Row w' 114 3 v' l.length (rowV l) ∧ Chg [] w w' ∧ ∀ g, v'.ownBlock = some g → w.heap.size ≤ g := by
  obtain ⟨i0, hi, hz0, hz1, hz2⟩ := info_parts infoExt
  have hu := Try.underlying114
  have hq := fun (w : World) a n c => Lib.run_eql_slice_nil (P := Try.prog) w 109 114 a n c 0 0 Try.underlying109
  rcases h.cases with ⟨rfl, hn, hx⟩ | ⟨g, cap, rest, rfl, hb, hn, hc, hlen⟩
  · have hl0 : l = [] := List.eq_nil_of_length_eq_zero hn
    subst hl0
    clear h hn hx
    go_enter Try.func78, Try.ntmps78
    go_wp2
    go_ret
    exact ⟨_, rfl, Row.nil _ _ _, Chg.refl _ _, fun g hg => by cases hg⟩
  · have H := Aside.mk hb
    have H1 := Aside.mk hn
    have H2 := Aside.mk hl
    have H3 := Aside.mk hlen
    clear h hb hn hc hlen hl
    go_enter Try.func78, Try.ntmps78
    go_wp2_with (at_builtin; refine wpList_append_own _ rfl _ _ 109 rfl w.heap.size 114 i0 _ 3 24 Try.underlying109 hi hz0 hz1 hz2 rfl (by decide) _ _ _ rfl (World.ownsRow_made w #[] 0 (Nat.le_refl _) (Nat.zero_le _) rfl) ⟨g, 0, none⟩ l.length cap (rowV l) rfl (rowV_length l) ((H.out.alloc _).from (fun j u hu => by rw [Nat.zero_add]; exact List.getElem?_append_left_some hu)) (oneExt l) (by have := H2.out; unfold maxLen; omega) (by have := H2.out; omega) (by simp) ?_; intro v' w1 hown hgrow _)
    go_ret
    simp only [Nat.zero_add, List.nil_append] at hown
    refine ⟨_, rfl, Row.of_owns hown, ((Chg.refl [] w).alloc _).then (Chg.of_grown (F := [w.heap.size]) hgrow (fun k hk => .inl ?_)) (by simp), fun k hk => (World.ownsRow.lt hown k hk).1⟩
    have hk' : some w.heap.size = some k := hk
    simp at hk'; simp [hk']
end Go.Proofs.Ytgimcpnelogadaa.Sto
/- Chapter 5, the store, by hand: slices.BinarySearchFunc over extents. -/
namespace Go.Proofs.Ytgimcpnelogadaa.Sto
open Go.RowKit Go.Proofs.Ytgimcpnelogadaa.Mem
set_option linter.unusedVariables false
set_option linter.unusedSimpArgs false

theorem ord_lt (x y : Ext) : (ordI x.id x.at_ y.id y.at_ < 0) ↔ x.lt y := by
  unfold ordI orI cmpI Ext.lt
  split <;> (try split) <;> (try split) <;> (try split) <;> (try split) <;> omega
theorem ord_eq (x y : Ext) : (ordI x.id x.at_ y.id y.at_ = 0) ↔ (x.at_ = y.at_ ∧ x.id = y.id) := by
  unfold ordI orI cmpI
  split <;> (try split) <;> (try split) <;> (try split) <;> (try split) <;> omega
theorem place_unique {y : Ext} {l : List Ext} {i : Nat} (hi : i ≤ l.length) (h1 : ∀ k (hk : k < l.length), k < i → l[k].lt y) (h2 : ∀ hk : i < l.length, ¬ l[i].lt y) : place y l = i := by
  unfold place
  induction l generalizing i with
  | nil => simp at hi; simp [hi]
  | cons x xs ih =>
    rw [List.takeWhile_cons]
    cases i with
    | zero =>
      have := h2 (by simp)
      simp at this
      simp [this]
    | succ j =>
      have h0 := h1 0 (by simp) (by omega)
      simp at h0
      simp only [h0, decide_true, if_true, List.length_cons]
      congr 1
      refine ih (by simpa using hi) (fun k hk hkj => ?_) (fun hk => ?_)
      · have := h1 (k + 1) (by simpa using hk) (by omega)
        simpa using this
      · have := h2 (by simpa using hk)
        simpa using this

/-- The cells of the i-th extent. -/
theorem rowV_get (l : List Ext) {i : Nat} (hi : i < l.length) : (rowV l)[i * 3]? = some (.int .i64 (l[i].id : Int)) ∧ (rowV l)[i * 3 + 1]? = some (.int .i64 (l[i].at_ : Int)) ∧ (rowV l)[i * 3 + 2]? = some (.int .i64 (l[i].len : Int)) := by
  induction l generalizing i with
  | nil => cases hi
  | cons x xs ih =>
    cases i with
    | zero => exact ⟨rfl, rfl, rfl⟩
    | succ j =>
      have := ih (i := j) (by simpa using hi)
      have e : rowV (x :: xs) = [.int .i64 (x.id : Int), .int .i64 (x.at_ : Int), .int .i64 (x.len : Int)] ++ rowV xs := by simp [rowV, extV]
      rw [e]
      refine ⟨?_, ?_, ?_⟩
      · rw [List.getElem?_append_right (by simp; omega)]; simpa [show (j + 1) * 3 - 3 = j * 3 by omega] using this.1
      · rw [List.getElem?_append_right (by simp; omega)]; simpa [show (j + 1) * 3 + 1 - 3 = j * 3 + 1 by omega] using this.2.1
      · rw [List.getElem?_append_right (by simp; omega)]; simpa [show (j + 1) * 3 + 2 - 3 = j * 3 + 2 by omega] using this.2.2

def foundB (y : Ext) (l : List Ext) : Bool := match l[place y l]? with | some x => decide (x.at_ = y.at_ ∧ x.id = y.id) | none => false

set_option maxRecDepth 100000 in
theorem bsearch_calls {w : World} {v : Value} {l : List Ext} (h : Row w 114 3 v l.length (rowV l)) (hs : l.Pairwise Ext.lt) (hl : l.length ≤ 1000000000) (y : Ext) :
    Calls Try.prog 63 #[v, .agg #[.int .i64 (y.id : Int), .int .i64 (y.at_ : Int), .int .i64 (y.len : Int)], .func (.func 64) #[] #[]] w fun e w' =>
      e = .returned (.tuple #[.int .i64 (place y l : Int), .bool (foundB y l)]) ∧ Chg [] w w' := by
  have hu := Try.underlying114
  obtain ⟨a, cp, rfl⟩ := Row_form h
  have H := Aside.mk h
  have HS := Aside.mk hs
  have HL := Aside.mk hl
  clear h hs
  go_enter Try.func63, Try.ntmps63
  go_wp2
  go_loopw [9, 10] (fun u v w' => ∃ i j : Nat, u = .int .i64 (i : Int) ∧ v = .int .i64 (j : Int) ∧ i ≤ j ∧ j ≤ l.length ∧ Aside (∀ k (hk : k < l.length), k < i → l[k].lt y) ∧ Aside (∀ k (hk : k < l.length), j ≤ k → ¬ l[k].lt y) ∧
      Aside (Blk w' w.heap.size 114 (extV y)) ∧ Aside (Chg [] w w')) (fun u v _ => (intOf v - intOf u).toNat)
  case atStart => exact ⟨0, l.length, rfl, rfl, Nat.zero_le _, Nat.le_refl _, ⟨fun _ _ h => absurd h (by omega)⟩, ⟨fun _ h1 h2 => absurd h1 (by omega)⟩, ⟨Blk.newL (extV y) rfl⟩, ⟨(Chg.refl _ _).alloc _⟩⟩
  case round =>
    obtain ⟨i, j, rfl, rfl, hij, hjn, H1, H2, HB, HC⟩ := hrel
    by_cases c : i < j
    · go_wp2
      rcases H.out.cases with ⟨h1, h2, _⟩ | ⟨g, cap, rest, h1, hb, hn, hcap, hlen⟩
      · exact absurd h2 (by omega)
      · cases h1
        obtain ⟨m, hm⟩ : ∃ m : Nat, m = (i + j) / 2 := ⟨_, rfl⟩
        have e : ((i : Int) + (j : Int)) / 2 = (m : Int) := by omega
        have hml : m < l.length := by omega
        have hml' : (m : Int) < (l.length : Int) := by omega
        rw [e]
        have HM := Aside.mk hm
        obtain ⟨r0, r1, r2⟩ := rowV_get l hml
        have hb' := (hb.chg HC.out (by simp)).drew
        have k0 := hb'.cellAt (List.getElem?_append_left_some (b := rest) r0)
        have k1 := hb'.cellAt (List.getElem?_append_left_some (b := rest) r1)
        have k2 := hb'.cellAt (List.getElem?_append_left_some (b := rest) r2)
        have y0 := HB.out.drew.cellAt (i := 0) rfl
        have y1 := HB.out.drew.cellAt (i := 1) rfl
        have y2 := HB.out.drew.cellAt (i := 2) rfl
        clear hlen hn hcap e hm hb hb' r0 r1 r2
        refine region_tail 6 (by kernel_rfl) (by kernel_rfl) ?_
        simp only [List.take_succ_cons, List.take_zero, List.drop_succ_cons, List.drop_zero]
        repeat still_step
        refine wpStill_nil ?_
        go_wp2_with (go_at_call 64; (with_reducible refine (order_calls _ _ _ _ _ _ _).mono ?_); rintro e w2 ⟨rfl, hb2⟩)
        · have hlt : l[m].lt y := (ord_lt _ _).1 (by assumption)
          go_roundw
          case rel => exact ⟨m + 1, j, by go_num, rfl, by have := HM.out; omega, hjn, ⟨fun k hk hkm => by
              by_cases e : k = m
              · subst e; exact hlt
              · exact Ext.lt_trans (List.pairwise_iff_getElem.1 HS.out k m hk hml (by omega)) hlt⟩, H2, ⟨HB.out.drew.chg (Chg.of_below (F := []) hb2) (by simp)⟩, ⟨HC.out.drew.trans (Chg.of_below hb2)⟩⟩
          case measure => have := HM.out; simp [intOf]; omega
        · have hlt : ¬ l[m].lt y := fun h => absurd ((ord_lt _ _).2 h) (by omega)
          go_roundw
          case rel => exact ⟨i, m, rfl, rfl, by have := HM.out; omega, by omega, H1, ⟨fun k hk hkm h => by
              by_cases e : m = k
              · subst e; exact hlt h
              · exact hlt (Ext.lt_trans (List.pairwise_iff_getElem.1 HS.out m k hml hk (by omega)) h)⟩, ⟨HB.out.drew.chg (Chg.of_below (F := []) hb2) (by simp)⟩, ⟨HC.out.drew.trans (Chg.of_below hb2)⟩⟩
          case measure => have := HM.out; simp [intOf]; omega
    · obtain rfl : i = j := by omega
      have hp : place y l = i := place_unique hjn H1.out (fun hk => H2.out i hk (Nat.le_refl _))
      have HP := Aside.mk hp
      by_cases d : i < l.length
      · rcases H.out.cases with ⟨h1, h2, _⟩ | ⟨g, cap, rest, h1, hb, hn, hcap, hlen⟩
        · exact absurd h2 (by omega)
        cases h1
        obtain ⟨r0, r1, r2⟩ := rowV_get l d
        have hb' := (hb.chg HC.out (by simp)).drew
        have k0 := hb'.cellAt (List.getElem?_append_left_some (b := rest) r0)
        have k1 := hb'.cellAt (List.getElem?_append_left_some (b := rest) r1)
        have k2 := hb'.cellAt (List.getElem?_append_left_some (b := rest) r2)
        have y0 := HB.out.drew.cellAt (i := 0) rfl
        have y1 := HB.out.drew.cellAt (i := 1) rfl
        have y2 := HB.out.drew.cellAt (i := 2) rfl
        have hd : (i : Int) < (l.length : Int) := by omega
        clear hp hlen hn hcap hb hb' r0 r1 r2
        go_wp2
        go_region_held3 (fun w' => w'.cell? ⟨g, i * 3, none⟩ = some (.int .i64 (l[i].id : Int)) ∧ w'.cell? ⟨g, i * 3 + 1, none⟩ = some (.int .i64 (l[i].at_ : Int)) ∧ w'.cell? ⟨g, i * 3 + 2, none⟩ = some (.int .i64 (l[i].len : Int)) ∧
            w'.cell? ⟨w.heap.size, 0, none⟩ = some (.int .i64 (y.id : Int)) ∧ w'.cell? ⟨w.heap.size, 1, none⟩ = some (.int .i64 (y.at_ : Int)) ∧ w'.cell? ⟨w.heap.size, 2, none⟩ = some (.int .i64 (y.len : Int)))
          (first | exact ⟨k0, k1, k2, y0, y1, y2⟩ | exact ⟨cell_below hb2 k0, cell_below hb2 k1, cell_below hb2 k2, cell_below hb2 y0, cell_below hb2 y1, cell_below hb2 y2⟩)
          ((go_at_call 64; (with_reducible refine (order_calls _ _ _ _ _ _ _).mono ?_); rintro e w2 ⟨rfl, hb2⟩))
        go_wp2
        go_ret2
        have hf : foundB y l = (ordI l[i].id l[i].at_ y.id y.at_ == 0) := by
          unfold foundB
          rw [HP.out, List.getElem?_eq_getElem d]
          have := ord_eq l[i] y
          by_cases e : ordI l[i].id l[i].at_ y.id y.at_ = 0
          · rw [e]; simpa using this.1 e
          · rw [beq_false_of_ne e]; simpa using fun a => fun b => e (this.2 ⟨a, b⟩)
        rw [HP.out, hf]
        exact ⟨by simp, (HC.out.drew.trans (Chg.of_below hb2))⟩
      · clear hp
        have hd : decide ((i : Int) < (l.length : Int)) = false := decide_eq_false (by omega)
        have hd2 : decide (i < l.length) = false := decide_eq_false (by omega)
        go_wp2
        repeat (go_quiet (fail); try go_wp2)
        go_ret2
        have hf : foundB y l = false := by
          unfold foundB
          rw [HP.out, List.getElem?_eq_none (by omega)]
        rw [HP.out, hf]
        exact ⟨by simp, HC.out.drewN _⟩
end Go.Proofs.Ytgimcpnelogadaa.Sto
/- Chapter 5, the store, by hand: find, Len. -/
namespace Go.Proofs.Ytgimcpnelogadaa.Sto
open Go.RowKit Go.Proofs.Ytgimcpnelogadaa.Mem
set_option linter.unusedVariables false
set_option linter.unusedSimpArgs false

/-- A whole number of 64 bits. -/
def I64 (k : Int) : Prop := -9223372036854775808 ≤ k ∧ k ≤ 9223372036854775807
theorem I64.wf {k : Int} (h : I64 k) : (Lit.int .i64 k).wf = true := WalkArith.wf_i64 h
theorem zeroInt (w : World) : (zeroValue 3).run Try.prog w = .ok (.int .i64 0) w := by kernel_rfl

theorem find_none {w : World} {p : Nat} {s : St} {F : List Nat} (h : Sto w p s F) (k : Int) (hk : I64 k) (hn : atOf s.all k = none) :
    Calls Try.prog 67 #[.pointer (some ⟨p, 0, none⟩), .int .i64 k] w fun e w' => e = .returned (.tuple #[.int .i64 0, .bool false]) ∧ w = w' := by
  obtain ⟨rawv, allv, mb, h, rfl⟩ := h
  have hl := h.by_.look Try.underlying52 Try.underlying3 (zeroInt w) k hk.wf
  rw [hn] at hl
  have h2 := h.c2
  clear h hn hk
  go_enter Try.func67, Try.ntmps67
  go_wp2
  go_ret2
  exact ⟨rfl, rfl⟩

theorem find_some {w : World} {p : Nat} {s : St} {F : List Nat} (h : Sto w p s F) (ho : Ok s) (hl : s.all.length ≤ 1000000000) {i : Nat} (hi : i < s.all.length) (hk : I64 (s.all[i].id : Int)) :
    Calls Try.prog 67 #[.pointer (some ⟨p, 0, none⟩), .int .i64 (s.all[i].id : Int)] w fun e w' => e = .returned (.tuple #[.int .i64 (i : Int), .bool true]) ∧ Chg [] w w' := by
  obtain ⟨rawv, allv, mb, h, rfl⟩ := h
  have hlk := h.by_.look Try.underlying52 Try.underlying3 (zeroInt w) _ hk.wf
  rw [atOf_some ho.lay.ids (List.getElem_mem hi)] at hlk
  have hp : place ⟨s.all[i].id, s.all[i].at_, 0⟩ s.all = i := place_of_mem ho.lay.sorted hi _ rfl rfl
  have hf : foundB ⟨s.all[i].id, s.all[i].at_, 0⟩ s.all = true := by unfold foundB; rw [hp, List.getElem?_eq_getElem hi]; simp
  have C : Aside (Calls Try.prog 63 #[allv, .agg #[.int .i64 (s.all[i].id : Int), .int .i64 (s.all[i].at_ : Int), .int .i64 0], .func (.func 64) #[] #[]] w fun e w' =>
      e = .returned (.tuple #[.int .i64 (i : Int), .bool true]) ∧ Chg [] w w') := ⟨by
    have := bsearch_calls h.all ho.lay.sorted hl ⟨s.all[i].id, s.all[i].at_, 0⟩
    rw [hp, hf] at this
    exact this⟩
  have h1 := h.c1
  have h2 := h.c2
  clear h hk ho hp hf hl
  go_enter Try.func67, Try.ntmps67
  go_wp2_with (go_at_call 63; (with_reducible refine C.out.mono ?_); rintro e w' ⟨rfl, hc⟩)
  go_ret2
  exact ⟨rfl, hc⟩

theorem len_none {w : World} {p : Nat} {s : St} {F : List Nat} (h : Sto w p s F) (k : Int) (hk : I64 k) (hn : atOf s.all k = none) :
    Calls Try.prog 28 #[.pointer (some ⟨p, 0, none⟩), .int .i64 k] w fun e w' => e = .returned (.tuple #[.int .i64 0, .int .i64 30]) ∧ w = w' := by
  have C := Aside.mk (find_none h k hk hn)
  clear h hn hk
  go_enter Try.func28, Try.ntmps28
  go_wp2_with (go_at_call 67; (with_reducible refine C.out.mono ?_); rintro e w' ⟨rfl, rfl⟩)
  go_ret2
  exact ⟨rfl, rfl⟩

/-- The cells of the i-th extent, in a store. -/
theorem StoAt.ext {w : World} {p mb : Nat} {s : St} {rawv allv : Value} (h : StoAt w p s rawv allv mb) {i : Nat} (hi : i < s.all.length) : ∃ g cap, allv = .slice (some ⟨g, 0, none⟩) s.all.length cap ∧
    w.cell? ⟨g, i * 3, none⟩ = some (.int .i64 (s.all[i].id : Int)) ∧ w.cell? ⟨g, i * 3 + 1, none⟩ = some (.int .i64 (s.all[i].at_ : Int)) ∧ w.cell? ⟨g, i * 3 + 2, none⟩ = some (.int .i64 (s.all[i].len : Int)) := by
  rcases h.all.cases with ⟨h1, h2, _⟩ | ⟨g, cap, rest, h1, hb, _⟩
  · omega
  · obtain ⟨r0, r1, r2⟩ := rowV_get s.all hi
    exact ⟨g, cap, h1, hb.cellAt (List.getElem?_append_left_some (b := rest) r0), hb.cellAt (List.getElem?_append_left_some (b := rest) r1), hb.cellAt (List.getElem?_append_left_some (b := rest) r2)⟩

theorem len_some {w : World} {p : Nat} {s : St} {F : List Nat} (h : Sto w p s F) (ho : Ok s) (hl : s.all.length ≤ 1000000000) {i : Nat} (hi : i < s.all.length) (hk : I64 (s.all[i].id : Int)) :
    Calls Try.prog 28 #[.pointer (some ⟨p, 0, none⟩), .int .i64 (s.all[i].id : Int)] w fun e w' => e = .returned (.tuple #[.int .i64 (s.all[i].len : Int), .int .i64 0]) ∧ Chg [] w w' := by
  have C := Aside.mk (find_some h ho hl hi hk)
  obtain ⟨rawv, allv, mb, h, rfl⟩ := h
  have H := Aside.mk h
  have hi' : (i : Int) < (s.all.length : Int) := by omega
  clear h ho hk hl
  go_enter Try.func28, Try.ntmps28
  go_wp2_with (go_at_call 67; (with_reducible refine C.out.mono ?_); rintro e w' ⟨rfl, hc⟩; have h1 := (H.out.chg hc (by simp)).c1; obtain ⟨g, cap, rfl, e0, e1, e2⟩ := (H.out.chg hc (by simp)).ext hi)
  go_outline
  go_ret2
  exact ⟨rfl, hc⟩
end Go.Proofs.Ytgimcpnelogadaa.Sto
/- Chapter 5, the store, by hand: Bytes, part. -/
namespace Go.Proofs.Ytgimcpnelogadaa.Sto
open Go.RowKit Go.Proofs.Ytgimcpnelogadaa.Mem
set_option linter.unusedVariables false
set_option linter.unusedSimpArgs false

theorem bytes_none {w : World} {p : Nat} {s : St} {F : List Nat} (h : Sto w p s F) (k : Int) (hk : I64 k) (hn : atOf s.all k = none) :
    Calls Try.prog 85 #[.pointer (some ⟨p, 0, none⟩), .int .i64 k] w fun e w' => e = .returned (.slice none 0 0) ∧ w = w' := by
  have C := Aside.mk (find_none h k hk hn)
  clear h hn hk
  go_enter Try.func85, Try.ntmps85
  go_wp2_with (go_at_call 67; (with_reducible refine C.out.mono ?_); rintro e w' ⟨rfl, rfl⟩)
  go_ret
  exact ⟨rfl, rfl⟩

/-- Where the bytes of an extent lie. -/
def Spot (rawv : Value) (at_ n : Nat) (a : Option Addr) : Prop := 0 < n → ∃ g m cap, rawv = .slice (some ⟨g, 0, none⟩) m cap ∧ a = some ⟨g, at_, none⟩

set_option maxRecDepth 100000 in
theorem bytes_some {w : World} {p mb : Nat} {s : St} {rawv allv : Value} (h : StoAt w p s rawv allv mb) (ho : Ok s) (hl : s.all.length ≤ 1000000000) (hr : s.raw.length ≤ 1000000000000) {i : Nat} (hi : i < s.all.length) (hk : I64 (s.all[i].id : Int)) :
    Calls Try.prog 85 #[.pointer (some ⟨p, 0, none⟩), .int .i64 (s.all[i].id : Int)] w fun e w' => ∃ a, e = .returned (.slice a s.all[i].len s.all[i].len) ∧
      Spot rawv s.all[i].at_ s.all[i].len a ∧ Chg [] w w' := by
  have C := Aside.mk (find_some ⟨_, _, _, h, rfl⟩ ho hl hi hk)
  have H := Aside.mk h
  have hi' : (i : Int) < (s.all.length : Int) := by omega
  have hin := ho.lay.inside _ (List.getElem_mem hi)
  have hup := up_ge s.all[i].len
  obtain ⟨A, hA⟩ : ∃ A, A = s.all[i].at_ := ⟨_, rfl⟩
  obtain ⟨N, hN⟩ : ∃ N, N = s.all[i].len := ⟨_, rfl⟩
  rw [← hA, ← hN]
  have hfit : A + N ≤ s.raw.length := by omega
  have HA := Aside.mk hA
  have HN := Aside.mk hN
  clear ho hk hl hin hup hA hN
  rcases h.raw.cases with ⟨rfl, h2, _⟩ | ⟨g, cap, rest, rfl, hb, hn, hcap, hlen⟩
  · obtain rfl : A = 0 := by omega
    obtain rfl : N = 0 := by omega
    have HF := Aside.mk hfit
    clear h h2 hfit
    go_enter Try.func85, Try.ntmps85
    go_wp2_with (go_at_call 67; (with_reducible refine C.out.mono ?_); rintro e w' ⟨rfl, hc⟩; have h0 := (H.out.chg hc (by simp)).c0; have h0a := fun o => Lib.cell?_alloc_some o h0; have h1 := (H.out.chg hc (by simp)).c1; obtain ⟨g, cap, rfl, e0, e1, e2⟩ := (H.out.chg hc (by simp)).ext hi; rw [← HA.out] at e1; rw [← HN.out] at e2)
    go_quiet (fail)
    go_wp2
    go_ret
    exact ⟨_, rfl, fun h => absurd h (by omega), (hc.alloc _).drewN _⟩
  · have HL := Aside.mk hlen
    clear h hb hlen
    go_enter Try.func85, Try.ntmps85
    go_wp2_with (go_at_call 67; (with_reducible refine C.out.mono ?_); rintro e w' ⟨rfl, hc⟩; have h0 := (H.out.chg hc (by simp)).c0; have h0a := fun o => Lib.cell?_alloc_some o h0; have h1 := (H.out.chg hc (by simp)).c1; obtain ⟨g, cap, rfl, e0, e1, e2⟩ := (H.out.chg hc (by simp)).ext hi; rw [← HA.out] at e1; rw [← HN.out] at e2)
    go_quiet (fail)
    go_wp2
    all_goals go_ret
    · have hx : A + N = A := by assumption
      obtain rfl : N = 0 := by omega
      exact ⟨_, rfl, fun h => absurd h (by omega), (hc.alloc _).drewN _⟩
    · exact ⟨_, rfl, fun h => ⟨_, _, _, rfl, rfl⟩, (hc.alloc _).drewN _⟩
end Go.Proofs.Ytgimcpnelogadaa.Sto
/- Chapter 5, the store, by hand: part. -/
namespace Go.Proofs.Ytgimcpnelogadaa.Sto
open Go.RowKit Go.Proofs.Ytgimcpnelogadaa.Mem
set_option linter.unusedVariables false
set_option linter.unusedSimpArgs false

/-- A width. -/
def Wide (w : Int) : Prop := w = 1 ∨ w = 2 ∨ w = 4 ∨ w = 8
instance (w : Int) : Decidable (Wide w) := inferInstanceAs (Decidable (_ ∨ _))
/-- Whether bytes may be reached, of n. -/
def reachE (n : Nat) (off width : Int) : Int := if ¬ Wide width then 50 else if off.tmod width ≠ 0 then 32 else if off < 0 ∨ (n : Int) - width < off then 31 else 0

theorem part_none {w : World} {p : Nat} {s : St} {F : List Nat} (h : Sto w p s F) (k off width : Int) (hk : I64 k) (hn : atOf s.all k = none) :
    Calls Try.prog 66 #[.pointer (some ⟨p, 0, none⟩), .int .i64 k, .int .i64 off, .int .i64 width] w fun e w' => e = .returned (.tuple #[.slice none 0 0, .int .i64 30]) ∧ w = w' := by
  have C := Aside.mk (len_none h k hk hn)
  clear h hn hk
  go_enter Try.func66, Try.ntmps66
  go_wp2_with (go_at_call 28; (with_reducible refine C.out.mono ?_); rintro e w' ⟨rfl, rfl⟩)
  go_ret2
  exact ⟨rfl, rfl⟩

set_option maxRecDepth 100000 in
theorem part_bad {w : World} {p : Nat} {s : St} {F : List Nat} (h : Sto w p s F) (ho : Ok s) (hl : s.all.length ≤ 1000000000) (hr : s.raw.length ≤ 1000000000000) {i : Nat} (hi : i < s.all.length) (hk : I64 (s.all[i].id : Int)) (off width : Int) (hb : reachE s.all[i].len off width ≠ 0) :
    Calls Try.prog 66 #[.pointer (some ⟨p, 0, none⟩), .int .i64 (s.all[i].id : Int), .int .i64 off, .int .i64 width] w fun e w' => e = .returned (.tuple #[.slice none 0 0, .int .i64 (reachE s.all[i].len off width)]) ∧ Chg [] w w' := by
  have C := Aside.mk (len_some h ho hl hi hk)
  have hin := ho.lay.inside _ (List.getElem_mem hi)
  have hup := up_ge s.all[i].len
  have hlen : s.all[i].len ≤ 1000000000000 := by omega
  obtain ⟨N, hN⟩ : ∃ N, N = s.all[i].len := ⟨_, rfl⟩
  rw [← hN] at C hb hlen ⊢
  clear h ho hl hk hin hup hN hr
  by_cases c : Wide width
  · by_cases d : off.tmod width ≠ 0
    · have he : reachE N off width = 32 := by unfold reachE; rw [if_neg (by simpa using c), if_pos d]
      rw [he]
      clear he hb
      rcases c with rfl | rfl | rfl | rfl
      · exact absurd (Int.tmod_one off) d
      all_goals
        go_enter Try.func66, Try.ntmps66
        go_wp2_with (go_at_call 28; (with_reducible refine C.out.mono ?_); rintro e w' ⟨rfl, hc⟩)
        go_ret2
        exact ⟨rfl, hc⟩
    · have d' : off.tmod width = 0 := by omega
      have hx : off < 0 ∨ (N : Int) - width < off := by
        by_cases x : off < 0 ∨ (N : Int) - width < off
        · exact x
        · exact absurd (by unfold reachE; rw [if_neg (by simpa using c), if_neg d, if_neg x]) hb
      have he : reachE N off width = 31 := by unfold reachE; rw [if_neg (by simpa using c), if_neg d, if_pos hx]
      rw [he]
      clear he hb d
      rcases c with rfl | rfl | rfl | rfl
      all_goals
        rcases hx with hx | hx
        all_goals
          go_enter Try.func66, Try.ntmps66
          go_wp2_with (go_at_call 28; (with_reducible refine C.out.mono ?_); rintro e w' ⟨rfl, hc⟩)
          all_goals go_ret2
          all_goals exact ⟨rfl, hc⟩
  · have he : reachE N off width = 50 := by unfold reachE; rw [if_pos c]
    rw [he]
    unfold Wide at c
    have c1 : (width != 1) = true := bne_iff_ne.2 fun e => c (.inl e)
    have c2 : (width != 2) = true := bne_iff_ne.2 fun e => c (.inr (.inl e))
    have c3 : (width != 4) = true := bne_iff_ne.2 fun e => c (.inr (.inr (.inl e)))
    have c4 : (width != 8) = true := bne_iff_ne.2 fun e => c (.inr (.inr (.inr e)))
    clear he hb c
    go_enter Try.func66, Try.ntmps66
    go_wp2_with (go_at_call 28; (with_reducible refine C.out.mono ?_); rintro e w' ⟨rfl, hc⟩)
    go_ret2
    exact ⟨rfl, hc⟩

theorem reachE_zero {n : Nat} {off width : Int} (h : reachE n off width = 0) : ∃ o wd : Nat, off = o ∧ width = wd ∧ (wd = 1 ∨ wd = 2 ∨ wd = 4 ∨ wd = 8) ∧ o + wd ≤ n ∧ o % wd = 0 := by
  unfold reachE at h
  split at h
  · cases h
  · rename_i c
    split at h
    · cases h
    · rename_i d
      split at h
      · cases h
      · rename_i x
        have c' : Wide width := Decidable.not_not.1 c
        obtain ⟨o, rfl⟩ := Int.eq_ofNat_of_zero_le (a := off) (by omega)
        unfold Wide at c'
        obtain ⟨wd, rfl⟩ := Int.eq_ofNat_of_zero_le (a := width) (by omega)
        refine ⟨o, wd, rfl, rfl, by omega, by omega, ?_⟩
        rw [← Int.ofNat_tmod] at d
        omega

theorem ret_part {a : Option Addr} {n m c : Nat} (h : n = m) : Ending.returned (.tuple #[.slice a n c, .int .i64 0]) = .returned (.tuple #[.slice a m c, .int .i64 0]) := by rw [h]
set_option maxRecDepth 100000 in
theorem part_ok {w : World} {p mb : Nat} {s : St} {rawv allv : Value} (h : StoAt w p s rawv allv mb) (ho : Ok s) (hl : s.all.length ≤ 1000000000) (hr : s.raw.length ≤ 1000000000000) {i : Nat} (hi : i < s.all.length) (hk : I64 (s.all[i].id : Int)) (o wd : Nat)
    (hw : wd = 1 ∨ wd = 2 ∨ wd = 4 ∨ wd = 8) (hfit : o + wd ≤ s.all[i].len) (hm : o % wd = 0) :
    Calls Try.prog 66 #[.pointer (some ⟨p, 0, none⟩), .int .i64 (s.all[i].id : Int), .int .i64 (o : Int), .int .i64 (wd : Int)] w fun e w' => ∃ g m cap, e = .returned (.tuple #[.slice (some ⟨g, s.all[i].at_ + o, none⟩) wd (s.all[i].len - o), .int .i64 0]) ∧
      rawv = .slice (some ⟨g, 0, none⟩) m cap ∧ Chg [] w w' := by
  have C := Aside.mk (len_some ⟨_, _, _, h, rfl⟩ ho hl hi hk)
  have C2 := Aside.mk (fun (w1 : World) (hc : Chg [] w w1) => bytes_some (h.chg hc (by simp)) ho hl hr hi hk)
  have hin := ho.lay.inside _ (List.getElem_mem hi)
  have hup := up_ge s.all[i].len
  have hlen : s.all[i].len ≤ 1000000000000 := by omega
  obtain ⟨N, hN⟩ : ∃ N, N = s.all[i].len := ⟨_, rfl⟩
  obtain ⟨A, hA⟩ : ∃ A, A = s.all[i].at_ := ⟨_, rfl⟩
  rw [← hN] at C C2 hlen hfit ⊢
  rw [← hA] at C2 ⊢
  have hm' : (o : Int) % (wd : Int) = 0 := by omega
  have hm2 : (o : Int).tmod (wd : Int) = 0 := by rw [← Int.ofNat_tmod]; omega
  have hf1 : (o : Int) + (wd : Int) ≤ (N : Int) := by omega
  clear h ho hl hk hin hup hN hA hr hm
  rcases hw with rfl | rfl | rfl | rfl
  all_goals
    go_enter Try.func66, Try.ntmps66
    go_wp2_with (first | (go_at_call 28; (with_reducible refine C.out.mono ?_); rintro e w1 ⟨rfl, hc1⟩) | (go_at_call 85; (with_reducible refine (C2.out _ hc1).mono ?_); rintro e w2 ⟨a, rfl, hsp, hc2⟩; obtain ⟨g, m, cap, hrv, rfl⟩ := hsp (by omega)))
    go_ret2
    exact ⟨g, m, cap, ret_part (by omega), hrv, hc1.trans hc2⟩
end Go.Proofs.Ytgimcpnelogadaa.Sto
/- Chapter 5, the store, by hand: Load. -/
namespace Go.Proofs.Ytgimcpnelogadaa.Sto
open Go.RowKit Go.Proofs.Ytgimcpnelogadaa.Mem
set_option linter.unusedVariables false
set_option linter.unusedSimpArgs false

/-- The number of some bytes, the lowest first. -/
def leN : List UInt8 → Nat
  | [] => 0
  | b :: bs => b.toNat + 256 * leN bs
theorem leN_snoc (l : List UInt8) (b : UInt8) : leN (l ++ [b]) = leN l + b.toNat * 256 ^ l.length := by
  induction l with
  | nil => simp [leN]
  | cons x xs ih => simp only [List.cons_append, leN, ih, List.length_cons, Nat.pow_succ]; rw [Nat.mul_add]; rw [show 256 * (b.toNat * 256 ^ xs.length) = b.toNat * (256 ^ xs.length * 256) by rw [Nat.mul_comm, Nat.mul_assoc]]; omega
theorem leN_lt (l : List UInt8) : leN l < 256 ^ l.length := by
  induction l with
  | nil => simp [leN]
  | cons x xs ih => simp only [leN, List.length_cons, Nat.pow_succ]; have := x.toNat_lt; omega

theorem load_none {w : World} {p : Nat} {s : St} {F : List Nat} (h : Sto w p s F) (k off width : Int) (hk : I64 k) (hn : atOf s.all k = none) :
    Calls Try.prog 24 #[.pointer (some ⟨p, 0, none⟩), .int .i64 k, .int .i64 off, .int .i64 width] w fun e w' => e = .returned (.tuple #[.int .u64 0, .int .i64 30]) ∧ w = w' := by
  have C := Aside.mk (part_none h k off width hk hn)
  clear h hn hk
  go_enter Try.func24, Try.ntmps24
  go_wp2_with (go_at_call 66; (with_reducible refine C.out.mono ?_); rintro e w' ⟨rfl, rfl⟩)
  refine wp_loop_rounds 1 ?_
  rw [rounds_succ]; go_wp2
  go_ret2
  exact ⟨rfl, rfl⟩

theorem load_bad {w : World} {p : Nat} {s : St} {F : List Nat} (h : Sto w p s F) (ho : Ok s) (hl : s.all.length ≤ 1000000000) (hr : s.raw.length ≤ 1000000000000) {i : Nat} (hi : i < s.all.length) (hk : I64 (s.all[i].id : Int)) (off width : Int) (hb : reachE s.all[i].len off width ≠ 0) :
    Calls Try.prog 24 #[.pointer (some ⟨p, 0, none⟩), .int .i64 (s.all[i].id : Int), .int .i64 off, .int .i64 width] w fun e w' => e = .returned (.tuple #[.int .u64 0, .int .i64 (reachE s.all[i].len off width)]) ∧ Chg [] w w' := by
  have C := Aside.mk (part_bad h ho hl hr hi hk off width hb)
  clear h ho hl hr hk hb
  go_enter Try.func24, Try.ntmps24
  go_wp2_with (go_at_call 66; (with_reducible refine C.out.mono ?_); rintro e w' ⟨rfl, hc⟩)
  refine wp_loop_rounds 1 ?_
  rw [rounds_succ]; go_wp2
  go_ret2
  exact ⟨rfl, hc⟩

/-- The cells of the bytes of a store. -/
theorem StoAt.byte {w : World} {p mb : Nat} {s : St} {allv : Value} {g m cap : Nat} (h : StoAt w p s (.slice (some ⟨g, 0, none⟩) m cap) allv mb) {j : Nat} (hj : j < s.raw.length) :
    w.cell? ⟨g, j, none⟩ = some (.int .u8 (s.raw[j].toNat : Int)) ∧ w.frozen? ⟨g, j, none⟩ = false := by
  rcases h.raw.cases with ⟨h1, h2, _⟩ | ⟨g', cap', rest, h1, hb, _⟩
  · cases h1
  · cases h1
    refine ⟨hb.cellAt (List.getElem?_append_left_some (b := rest) ?_), hb.frozen j⟩
    simp [u8V, List.getElem?_map, List.getElem?_eq_getElem hj]

theorem sl_succ {α : Type} {r : List α} {a k : Nat} (h : a + k < r.length) : sl r a (k + 1) = sl r a k ++ [r[a + k]] := by
  unfold sl
  rw [List.take_succ_eq_append_getElem (by rw [List.length_drop]; omega), List.getElem_drop]
theorem or_step (X b k : Nat) (hX : X < 256 ^ k) (hk : k < 8) (hb : b < 256) : bits .or .u64 (X : Int) (IntKind.u64.wrap ((b : Int) * 2 ^ (8 * k))) = ((X + b * 256 ^ k : Nat) : Int) := by
  have e : (256 : Nat) ^ k = 2 ^ (8 * k) := by rw [Nat.pow_mul]
  rw [e] at hX ⊢
  have hlt : b * 2 ^ (8 * k) < 18446744073709551616 := by
    have : 2 ^ (8 * k) ≤ 2 ^ 56 := Nat.pow_le_pow_right (by omega) (by omega)
    have : b * 2 ^ (8 * k) ≤ 255 * 2 ^ 56 := Nat.mul_le_mul (by omega) this
    omega
  have hX2 : X < 18446744073709551616 := by
    have : 2 ^ (8 * k) ≤ 2 ^ 56 := Nat.pow_le_pow_right (by omega) (by omega)
    omega
  have e2 : ((b : Int) * 2 ^ (8 * k)) = ((b * 2 ^ (8 * k) : Nat) : Int) := by simp
  have e3 : IntKind.u64.wrap ((b : Int) * 2 ^ (8 * k)) = ((b * 2 ^ (8 * k) : Nat) : Int) := by
    rw [e2]
    simp only [IntKind.wrap, IntKind.bits, IntKind.signed]
    simp
    omega
  rw [e3, u64_or_nat X (b * 2 ^ (8 * k)) hX2 hlt]
  congr 1
  rw [Nat.or_comm, ← Nat.shiftLeft_eq, ← Nat.shiftLeft_add_eq_or_of_lt hX, Nat.add_comm]

set_option maxRecDepth 100000 in
theorem load_ok {w : World} {p mb : Nat} {s : St} {rawv allv : Value} (h : StoAt w p s rawv allv mb) (ho : Ok s) (hl : s.all.length ≤ 1000000000) (hr : s.raw.length ≤ 1000000000000) {i : Nat} (hi : i < s.all.length) (hk : I64 (s.all[i].id : Int)) (o wd : Nat)
    (hw : wd = 1 ∨ wd = 2 ∨ wd = 4 ∨ wd = 8) (hfit : o + wd ≤ s.all[i].len) (hm : o % wd = 0) :
    Calls Try.prog 24 #[.pointer (some ⟨p, 0, none⟩), .int .i64 (s.all[i].id : Int), .int .i64 (o : Int), .int .i64 (wd : Int)] w fun e w' =>
      e = .returned (.tuple #[.int .u64 (leN (sl s.raw (s.all[i].at_ + o) wd) : Nat), .int .i64 0]) ∧ Chg [] w w' := by
  have C := Aside.mk (part_ok h ho hl hr hi hk o wd hw hfit hm)
  have hin := ho.lay.inside _ (List.getElem_mem hi)
  have hup := up_ge s.all[i].len
  obtain ⟨A, hA⟩ : ∃ A, A = s.all[i].at_ + o := ⟨_, rfl⟩
  rw [← hA] at C ⊢
  have hb : A + wd ≤ s.raw.length := by omega
  have H := Aside.mk h
  have HB := Aside.mk hb
  have hw8 : wd ≤ 8 := by omega
  clear h ho hl hk hin hup hA hm hw hfit hb
  go_enter Try.func24, Try.ntmps24
  go_wp2_with (go_at_call 66; (with_reducible refine C.out.mono ?_); rintro e w1 ⟨g, m, cap, rfl, rfl, hc⟩)
  have H1 := Aside.mk (H.out.chg hc (by simp))
  go_loop [12, 25] (fun x i => ∃ k : Nat, k ≤ wd ∧ i = .int .i64 (k : Int) ∧ x = .int .u64 (leN (sl s.raw A k) : Nat)) (fun _ i => wd - (intOf i).toNat)
  case atStart => exact ⟨0, Nat.zero_le _, rfl, by simp [sl_zero, leN]⟩
  case round =>
    obtain ⟨k, hk, rfl, rfl⟩ := hrel
    by_cases c : k < wd
    · have hj : A + k < s.raw.length := by have := HB.out; omega
      have b0 := (H1.out.byte hj).1
      obtain ⟨X, hX⟩ : ∃ X, X = leN (sl s.raw A k) := ⟨_, rfl⟩
      obtain ⟨b, hb⟩ : ∃ b, b = s.raw[A + k] := ⟨_, rfl⟩
      rw [← hb] at b0
      rw [← hX]
      have HX := Aside.mk hX
      have Hb := Aside.mk hb
      clear hX hb
      have hb256 : b.toNat < 256 := b.toNat_lt
      go_wp2
      go_roundw
      case rel =>
        refine ⟨k + 1, by omega, by go_num, ?_⟩
        rw [sl_succ hj, leN_snoc, ← HX.out, ← Hb.out, sl_length (by omega)]
        exact congrArg (Value.int .u64) (or_step X b.toNat k (by rw [HX.out]; exact Nat.lt_of_lt_of_le (leN_lt _) (by rw [sl_length (by omega)]; exact Nat.le_refl _)) (by omega) hb256)
      case measure => simp [intOf]; omega
    · go_wp2
      obtain rfl : k = wd := by omega
      go_ret2
      exact ⟨rfl, hc⟩
end Go.Proofs.Ytgimcpnelogadaa.Sto
/- Chapter 5, the store, by hand: Save. -/
namespace Go.Proofs.Ytgimcpnelogadaa.Sto
open Go.RowKit Go.Proofs.Ytgimcpnelogadaa.Mem
set_option linter.unusedVariables false
set_option linter.unusedSimpArgs false

/-- A number's lowest bytes. -/
def leB (x : Nat) (n : Nat) : List UInt8 := (List.range n).map fun j => UInt8.ofNat (x / 256 ^ j)
theorem leB_length (x n : Nat) : (leB x n).length = n := by simp [leB]
theorem leB_succ (x n : Nat) : leB x (n + 1) = leB x n ++ [UInt8.ofNat (x / 256 ^ n)] := by simp [leB, List.range_succ]
theorem splice_snoc {α : Type} {r l : List α} {a : Nat} {b : α} (h : a + l.length < r.length) : splice r a (l ++ [b]) = (splice r a l).set (a + l.length) b := by
  apply List.ext_getElem?
  intro i
  rw [splice_getElem? _ _ _ (by simp; omega), List.getElem?_set, length_splice _ _ _ (by omega), splice_getElem? _ _ _ (by omega)]
  simp only [List.length_append, List.length_cons, List.length_nil]
  by_cases c : i < a
  · simp [c]; omega
  · by_cases d : i < a + l.length
    · rw [if_neg c, if_pos (by omega), if_neg (by omega), if_neg c, if_pos d, List.getElem?_append_left (by omega)]
    · by_cases e : i = a + l.length
      · subst e
        rw [if_neg c, if_pos (by omega), if_pos rfl, if_pos h, List.getElem?_append_right (by omega)]
        simp
      · rw [if_neg c, if_neg (by omega), if_neg (by omega), if_neg c, if_neg d]

theorem save_none {w : World} {p : Nat} {s : St} {F : List Nat} (h : Sto w p s F) (k off width x : Int) (hk : I64 k) (hn : atOf s.all k = none) :
    Calls Try.prog 23 #[.pointer (some ⟨p, 0, none⟩), .int .i64 k, .int .i64 off, .int .i64 width, .int .u64 x] w fun e w' => e = .returned (.int .i64 30) ∧ w = w' := by
  have C := Aside.mk (part_none h k off width hk hn)
  clear h hn hk
  go_enter Try.func23, Try.ntmps23
  go_wp2_with (go_at_call 66; (with_reducible refine C.out.mono ?_); rintro e w' ⟨rfl, rfl⟩)
  refine wp_loop_rounds 1 ?_
  rw [rounds_succ]; go_wp2
  go_ret
  exact ⟨rfl, rfl⟩

theorem save_bad {w : World} {p : Nat} {s : St} {F : List Nat} (h : Sto w p s F) (ho : Ok s) (hl : s.all.length ≤ 1000000000) (hr : s.raw.length ≤ 1000000000000) {i : Nat} (hi : i < s.all.length) (hk : I64 (s.all[i].id : Int)) (off width x : Int) (hb : reachE s.all[i].len off width ≠ 0) :
    Calls Try.prog 23 #[.pointer (some ⟨p, 0, none⟩), .int .i64 (s.all[i].id : Int), .int .i64 off, .int .i64 width, .int .u64 x] w fun e w' => e = .returned (.int .i64 (reachE s.all[i].len off width)) ∧ Chg [] w w' := by
  have C := Aside.mk (part_bad h ho hl hr hi hk off width hb)
  clear h ho hl hr hk hb
  go_enter Try.func23, Try.ntmps23
  go_wp2_with (go_at_call 66; (with_reducible refine C.out.mono ?_); rintro e w' ⟨rfl, hc⟩)
  refine wp_loop_rounds 1 ?_
  rw [rounds_succ]; go_wp2
  go_ret
  exact ⟨rfl, hc⟩

/-- The state behind a store of bytes. -/
def St.write (s : St) (a : Nat) (bs : List UInt8) : St := { s with raw := splice s.raw a bs }
theorem St.write_nil (s : St) (a : Nat) : s.write a [] = s := by simp [St.write, splice]

/-- One byte is written. -/
theorem StoAt.poke {w : World} {p mb : Nat} {s : St} {allv : Value} {g m cap : Nat} (h : StoAt w p s (.slice (some ⟨g, 0, none⟩) m cap) allv mb) {j : Nat} (hj : j < s.raw.length) (b : UInt8) :
    StoAt (w.setCell ⟨g, j, none⟩ (.int .u8 (b.toNat : Int))) p { s with raw := s.raw.set j b } (.slice (some ⟨g, 0, none⟩) m cap) allv mb := by
  have hp : p ≠ g := fun e => h.p_raw (by rw [e]; rfl)
  have hm : mb ≠ g := fun e => h.mb_raw (by rw [e]; rfl)
  refine ⟨h.cells.far hp _, ?_, h.all.keep (fun k hk => Below.heap_setCell _ _ _ _ (fun e => h.raw_all (g := g) rfl (by rw [hk]; exact congrArg some e))), h.by_.keep (Below.heap_setCell _ _ _ _ hm)⟩
  rcases h.raw.cases with ⟨h1, h2, _⟩ | ⟨g', cap', rest, h1, hb, hn, hc, hlen⟩
  · cases h1
  · cases h1
    show Row _ _ 1 _ (s.raw.set j b).length (u8V (s.raw.set j b))
    rw [List.length_set]
    have e : u8V (s.raw.set j b) = (u8V s.raw).set j (.int .u8 (b.toNat : Int)) := by simp [u8V, List.map_set]
    rw [e]
    refine Row.mk (rest := rest) ?_ (by simp [u8V]) hn hc (by simpa using hlen)
    have := hb.set j (.int .u8 (b.toNat : Int))
    rwa [List.set_append_left _ _ (by simpa [u8V] using hj)] at this

theorem byte_of (x k : Nat) : ((x : Int) / 2 ^ (8 * k) % 256) = ((UInt8.ofNat (x / 256 ^ k)).toNat : Int) := by
  rw [show (256 : Nat) ^ k = 2 ^ (8 * k) by rw [Nat.pow_mul]]
  simp
set_option maxRecDepth 100000 in
theorem save_ok {w : World} {p mb : Nat} {s : St} {rawv allv : Value} (h : StoAt w p s rawv allv mb) (ho : Ok s) (hl : s.all.length ≤ 1000000000) (hr : s.raw.length ≤ 1000000000000) {i : Nat} (hi : i < s.all.length) (hk : I64 (s.all[i].id : Int)) (o wd : Nat)
    (hw : wd = 1 ∨ wd = 2 ∨ wd = 4 ∨ wd = 8) (hfit : o + wd ≤ s.all[i].len) (hm : o % wd = 0) (x : Nat) (hx : x < 18446744073709551616) :
    Calls Try.prog 23 #[.pointer (some ⟨p, 0, none⟩), .int .i64 (s.all[i].id : Int), .int .i64 (o : Int), .int .i64 (wd : Int), .int .u64 (x : Int)] w fun e w' =>
      e = .returned (.int .i64 0) ∧ StoAt w' p (s.write (s.all[i].at_ + o) (leB x wd)) rawv allv mb ∧ Chg (foot p rawv allv mb) w w' := by
  have C := Aside.mk (part_ok h ho hl hr hi hk o wd hw hfit hm)
  have hin := ho.lay.inside _ (List.getElem_mem hi)
  have hup := up_ge s.all[i].len
  obtain ⟨A, hA⟩ : ∃ A, A = s.all[i].at_ + o := ⟨_, rfl⟩
  rw [← hA] at C ⊢
  have hb : A + wd ≤ s.raw.length := by omega
  have H := Aside.mk h
  have HB := Aside.mk hb
  have HX := Aside.mk hx
  have hw8 : wd ≤ 8 := by omega
  clear h ho hl hk hin hup hA hm hw hfit hb hx
  go_enter Try.func23, Try.ntmps23
  go_wp2_with (go_at_call 66; (with_reducible refine C.out.mono ?_); rintro e w1 ⟨g, m, cap, rfl, rfl, hc⟩)
  have H1 := Aside.mk (H.out.chg hc (by simp))
  go_loopw [24] (fun i wr => ∃ k : Nat, k ≤ wd ∧ i = .int .i64 (k : Int) ∧ Aside (StoAt wr p (s.write A (leB x k)) (.slice (some ⟨g, 0, none⟩) m cap) allv mb) ∧ Aside (Chg (foot p (.slice (some ⟨g, 0, none⟩) m cap) allv mb) w wr)) (fun i _ => wd - (intOf i).toNat)
  case atStart => exact ⟨0, Nat.zero_le _, rfl, ⟨by rw [show leB x 0 = [] from rfl, St.write_nil]; exact H1.out⟩, ⟨hc.mono (by simp)⟩⟩
  case round =>
    obtain ⟨k, hk, rfl, HK, HC⟩ := hrel
    by_cases c : k < wd
    · have hlen : (s.write A (leB x k)).raw.length = s.raw.length := length_splice _ _ _ (by rw [leB_length]; have := HB.out; omega)
      have hj : A + k < (s.write A (leB x k)).raw.length := by rw [hlen]; have := HB.out; omega
      obtain ⟨v0, b0⟩ : ∃ v, wr.cell? ⟨g, A + k, none⟩ = some v := ⟨_, (HK.out.byte hj).1⟩
      have b1 := (HK.out.byte hj).2
      have HL := Aside.mk hlen
      have HJ := Aside.mk hj
      clear hlen hj
      go_wp2
      go_roundw
      case rel =>
        refine ⟨k + 1, by omega, by go_num, ⟨?_⟩, ⟨HC.out.setCell (p := ⟨g, A + k, none⟩) (.inl (mem_foot.2 (.inr (.inr (.inl rfl))))) _⟩⟩
        have := HK.out.poke HJ.out (UInt8.ofNat (x / 256 ^ k))
        rw [byte_of]
        have e : s.write A (leB x (k + 1)) = { s.write A (leB x k) with raw := (s.write A (leB x k)).raw.set (A + k) (UInt8.ofNat (x / 256 ^ k)) } := by
          unfold St.write
          rw [leB_succ, splice_snoc (by rw [leB_length]; have := HB.out; omega), leB_length]
        rw [e]
        exact this
      case measure => simp [intOf]; omega
    · go_wp2
      obtain rfl : k = wd := by omega
      go_ret
      exact ⟨rfl, HK.out, HC.out⟩
end Go.Proofs.Ytgimcpnelogadaa.Sto
/- Chapter 5, the store, by hand: slices.Delete of one extent. -/
namespace Go.Proofs.Ytgimcpnelogadaa.Sto
open Go.RowKit Go.Proofs.Ytgimcpnelogadaa.Mem
set_option linter.unusedVariables false
set_option linter.unusedSimpArgs false

theorem splice_mid {α : Type} (P M S N : List α) (h : M.length = N.length) : splice (P ++ (M ++ S)) P.length N = P ++ (N ++ S) := by
  unfold splice
  rw [List.take_left, List.drop_append, List.drop_eq_nil_of_le (by omega), List.nil_append, ← h, show P.length + M.length - P.length = M.length by omega, List.drop_left]
theorem rowV_append (l m : List Ext) : rowV (l ++ m) = rowV l ++ rowV m := by simp [rowV]
theorem rowV_cons (x : Ext) (l : List Ext) : rowV (x :: l) = extV x ++ rowV l := by simp [rowV]
theorem zeroExt (w : World) : (zeroValue 114).run Try.prog w = .ok (.agg #[.int .i64 0, .int .i64 0, .int .i64 0]) w := by kernel_rfl

def zExt : Value := .agg #[.int .i64 0, .int .i64 0, .int .i64 0]
theorem zExt_one : ∀ v ∈ zExt.cells.toList, v.oneCell' = true := by
  intro v hv
  simp [zExt, Value.cells] at hv
  subst hv; rfl
def zeros3 (n : Nat) : List Value := (Builtin.zeroCells zExt.cells n).toList
theorem zeros3_length (n : Nat) : (zeros3 n).length = n * 3 := zeroCells_length _ _
set_option maxRecDepth 100000 in
theorem delete_calls {w : World} {v : Value} {l : List Ext} (h : Row w 114 3 v l.length (rowV l)) (hl : l.length ≤ 1000000000) {i j : Nat} (hi : i < l.length) (hj : j = i + 1) :
    Calls Try.prog 68 #[v, .int .i64 (i : Int), .int .i64 (j : Int)] w fun e w' => ∃ v', e = .returned v' ∧ Row w' 114 3 v' (l.eraseIdx i).length (rowV (l.eraseIdx i)) ∧
      v'.ownBlock = v.ownBlock ∧ Chg v.ownBlock.toList w w' := by
  obtain ⟨i0, hi0, hz0, hz1, hz2⟩ := info_parts infoExt
  rcases h.cases with ⟨rfl, h2, _⟩ | ⟨g, cap, rest, rfl, hb, hn, hcap, hlen⟩
  · omega
  have H := Aside.mk hb
  have HL := Aside.mk hlen
  have HJ := Aside.mk hj
  have hij : i ≤ j := by omega
  have hij2 : i < j := by omega
  have hij3 : ((i : Int) == (j : Int)) = false := by simp; omega
  have hjl : j ≤ l.length := by omega
  have hic : i ≤ cap := by omega
  have hjc : j ≤ cap := by omega
  have HN := Aside.mk hn
  have HC := Aside.mk hcap
  clear h hb hlen hj hcap
  have hic2 : ¬ cap = i := by omega
  have hic3 : ¬ i = cap := by omega
  have last : j = l.length → Calls Try.prog 68 #[.slice (some ⟨g, 0, none⟩) l.length cap, .int .i64 (i : Int), .int .i64 (j : Int)] w fun e w' => ∃ W1, e = .returned (.slice (some ⟨g, 0, none⟩) i cap) ∧
      Blk W1 g 114 (rowV l ++ rest) ∧ Chg [g] w W1 ∧ w' = W1.setRow g (splice (rowV l ++ rest) (i * 3) (zeros3 (l.length - i))).toArray := by
    intro c
    subst c
    have HF : Aside (i * 3 + (l.length - i) * zExt.cells.size ≤ (rowV l ++ rest).length) := ⟨by have := HL.out; have := HN.out; have := HJ.out; rw [show zExt.cells.size = 3 from rfl]; omega⟩
    have HB1 := Aside.mk H.out.drew
    have HD1 := Aside.mk ((Chg.refl [g] w).drew)
    by_cases d : cap = l.length
    · subst d
      go_enter Try.func68, Try.ntmps68
      go_wp2
      refine region_tail 6 (by kernel_rfl) (by kernel_rfl) ?_
      simp only [List.take_succ_cons, List.take_zero, List.drop_succ_cons, List.drop_zero]
      repeat still_step
      refine wpStill_nil ?_
      refine wpList_builtin2 _ rfl .append _ _ _ rfl (.slice (some ⟨g, 0, none⟩) i l.length) (.slice _ 0 _) rfl rfl _ _ (run_append_zero _ Try.underlying109 hi0 (by omega)) ?_
      generalize w.drew = W1 at HB1 HD1 ⊢
      go_wp2_with (refine wpList_builtin1 _ (by rfl) .clear _ _ (by rfl) (.slice (some ⟨g, i * 3, none⟩) _ _) (by rfl) _ _ (run_clear_blk _ Try.underlying109 zeroExt zExt_one HB1.out HF.out) ?_)
      go_ret
      exact ⟨W1, rfl, HB1.out, HD1.out, rfl⟩
    · have d' : ¬ l.length = cap := fun e => d e.symm
      go_enter Try.func68, Try.ntmps68
      go_wp2
      refine region_tail 6 (by kernel_rfl) (by kernel_rfl) ?_
      simp only [List.take_succ_cons, List.take_zero, List.drop_succ_cons, List.drop_zero]
      repeat still_step
      refine wpStill_nil ?_
      refine wpList_builtin2 _ rfl .append _ _ _ rfl (.slice (some ⟨g, 0, none⟩) i cap) (.slice _ 0 _) rfl rfl _ _ (run_append_zero _ Try.underlying109 hi0 (by omega)) ?_
      generalize w.drew = W1 at HB1 HD1 ⊢
      go_wp2_with (refine wpList_builtin1 _ (by rfl) .clear _ _ (by rfl) (.slice (some ⟨g, i * 3, none⟩) _ _) (by rfl) _ _ (run_clear_blk _ Try.underlying109 zeroExt zExt_one HB1.out HF.out) ?_)
      go_ret
      exact ⟨W1, rfl, HB1.out, HD1.out, rfl⟩
  have mid : j < l.length → Calls Try.prog 68 #[.slice (some ⟨g, 0, none⟩) l.length cap, .int .i64 (i : Int), .int .i64 (j : Int)] w fun e w' => ∃ W1, e = .returned (.slice (some ⟨g, 0, none⟩) (i + (l.length - j)) cap) ∧
      Blk W1 g 114 (splice (rowV l ++ rest) (i * 3) (rowV (l.drop j))) ∧ Chg [g] w W1 ∧ w' = W1.setRow g (splice (splice (rowV l ++ rest) (i * 3) (rowV (l.drop j))) ((i + (l.length - j)) * 3) (zeros3 (l.length - (i + (l.length - j))))).toArray := by
    intro c
    have q1 : ¬ cap = j := by omega
    have q2 : ¬ j = cap := by omega
    have q3 : i + (l.length - j) ≤ l.length := by omega
    have q4 : ¬ cap = i + (l.length - j) := by omega
    have q5 : ¬ i + (l.length - j) = cap := by omega
    have hsl : (splice (rowV l ++ rest) (i * 3) (rowV (l.drop j))).length = (rowV l ++ rest).length := length_splice _ _ _ (by rw [rowV_length, List.length_drop]; have := HL.out; omega)
    have HF : Aside ((i + (l.length - j)) * 3 + (l.length - (i + (l.length - j))) * zExt.cells.size ≤ (splice (rowV l ++ rest) (i * 3) (rowV (l.drop j))).length) := ⟨by have := HL.out; rw [hsl, show zExt.cells.size = 3 from rfl]; omega⟩
    have HB1 := Aside.mk (H.out.drew.setRow (splice (rowV l ++ rest) (i * 3) (rowV (l.drop j))))
    have HD1 := Aside.mk (((Chg.refl [g] w).drew).setRow (g := g) (by simp) (splice (rowV l ++ rest) (i * 3) (rowV (l.drop j))).toArray)
    have HR := fun c => run_append_room_blk (P := Try.prog) (ty := 109) w.drew Try.underlying109 hi0 H.out.drew (ad := ⟨g, j * 3, none⟩) (m := l.length - j) (c := cap - j) (o := 0) (sLen := i) (sCap := cap) (news := rowV (l.drop j))
      (by rw [rowV_length, List.length_drop, hz1]) (H.out.drew.from (fun k u hu => by
        rw [List.getElem?_append_left (by have := (List.getElem?_eq_some_iff.1 hu).1; rw [rowV_length, List.length_drop] at this; rw [rowV_length]; omega)]
        have e : rowV l = rowV (l.take j) ++ rowV (l.drop j) := by rw [← rowV_append, List.take_append_drop]
        rw [e, List.getElem?_append_right (by rw [rowV_length, List.length_take]; omega), rowV_length, List.length_take, Nat.min_eq_left (by omega), show j * 3 + k - j * 3 = k by omega]
        exact hu)) (oneExt _) (by omega) (by rw [hz1, rowV_length, List.length_drop]; have := HL.out; omega) c
    rw [hz1, Nat.zero_add] at HR
    have HR' := Aside.mk HR
    clear hsl HR
    go_enter Try.func68, Try.ntmps68
    go_wp2
    refine region_tail 6 (by kernel_rfl) (by kernel_rfl) ?_
    simp only [List.take_succ_cons, List.take_zero, List.drop_succ_cons, List.drop_zero]
    repeat still_step
    refine wpStill_nil ?_
    refine wpList_builtin2 _ rfl .append _ _ _ rfl (.slice (some ⟨g, 0, none⟩) i cap) (.slice (some ⟨g, j * 3, none⟩) (l.length - j) (cap - j)) rfl rfl _ _ HR'.out ?_
    generalize w.drew.setRow g (splice (rowV l ++ rest) (i * 3) (rowV (l.drop j))).toArray = W1 at HB1 HD1 ⊢
    clear HR'
    go_wp2_with (refine wpList_builtin1 _ (by rfl) .clear _ _ (by rfl) (.slice (some ⟨g, (i + (l.length - j)) * 3, none⟩) _ _) (by rfl) _ _ (run_clear_blk _ Try.underlying109 zeroExt zExt_one HB1.out HF.out) ?_)
    go_ret
    exact ⟨W1, rfl, HB1.out, HD1.out, rfl⟩
  have hown : (Value.slice (some ⟨g, 0, none⟩) l.length cap).ownBlock = some g := rfl
  have hlen3 := HL.out
  have hsplit : l = l.take i ++ l[i] :: l.drop (i + 1) := by rw [← List.drop_eq_getElem_cons hi, List.take_append_drop]
  have hel : l.eraseIdx i = l.take i ++ l.drop (i + 1) := List.eraseIdx_eq_take_drop_succ _ _
  have hrl : rowV l = rowV (l.take i) ++ (extV l[i] ++ rowV (l.drop (i + 1))) := by rw [← rowV_cons, ← rowV_append, ← hsplit]
  have htl : (rowV (l.take i)).length = i * 3 := by rw [rowV_length, List.length_take, Nat.min_eq_left (by omega)]
  have hjj := HJ.out
  have hjj2 := HJ.out
  subst hjj
  by_cases c : i + 1 = l.length
  · refine (last c).mono ?_
    rintro e w' ⟨W1, rfl, hB, hC, rfl⟩
    have hd : l.drop (i + 1) = [] := List.drop_eq_nil_of_le (by omega)
    refine ⟨_, rfl, ?_, rfl, ?_⟩
    · have he : splice (rowV l ++ rest) (i * 3) (zeros3 (l.length - i)) = rowV (l.eraseIdx i) ++ (zeros3 (l.length - i) ++ rest) := by
        rw [hrl, hel, hd]
        simp only [rowV, List.flatMap_nil, List.append_nil, List.append_assoc]
        have := splice_mid (rowV (l.take i)) (extV l[i]) rest (zeros3 (l.length - i)) (by rw [zeros3_length]; simp [extV]; omega)
        rw [htl] at this
        exact this
      rw [he]
      have hle : (l.eraseIdx i).length = i := by rw [List.length_eraseIdx_of_lt hi]; omega
      rw [hle]
      exact Row.mk (hB.setRow _) (by rw [rowV_length, hle]) (by omega) (by have := HC.out; omega) (by rw [List.length_append, List.length_append, rowV_length, zeros3_length, hle]; rw [List.length_append, rowV_length] at hlen3; omega)
    · exact hC.setRow (by simp [Value.ownBlock]) _
  · refine (mid (by omega)).mono ?_
    rintro e w' ⟨W1, rfl, hB, hC, rfl⟩
    obtain ⟨m, hm⟩ : ∃ m, m = l.length - (i + 1) := ⟨_, rfl⟩
    have hdl : (rowV (l.drop (i + 1))).length = m * 3 := by rw [rowV_length, List.length_drop, hm]
    rw [← hm]
    have hz : l.length - (i + m) = 1 := by omega
    rw [hz]
    have h1 : splice (rowV l ++ rest) (i * 3) (rowV (l.drop (i + 1))) = rowV (l.take i) ++ (rowV (l.drop (i + 1)) ++ ((extV l[i] ++ rowV (l.drop (i + 1))).drop (m * 3) ++ rest)) := by
      have := splice_mid (rowV (l.take i)) ((extV l[i] ++ rowV (l.drop (i + 1))).take (m * 3)) ((extV l[i] ++ rowV (l.drop (i + 1))).drop (m * 3) ++ rest) (rowV (l.drop (i + 1))) (by rw [List.length_take, List.length_append, hdl]; simp [extV])
      rw [htl, ← List.append_assoc _ _ rest, List.take_append_drop] at this
      rw [hrl]
      simpa only [List.append_assoc] using this
    have h2 : splice (splice (rowV l ++ rest) (i * 3) (rowV (l.drop (i + 1)))) ((i + m) * 3) (zeros3 1) = rowV (l.eraseIdx i) ++ (zeros3 1 ++ rest) := by
      rw [h1, hel, rowV_append]
      have := splice_mid (rowV (l.take i) ++ rowV (l.drop (i + 1))) ((extV l[i] ++ rowV (l.drop (i + 1))).drop (m * 3)) rest (zeros3 1) (by rw [List.length_drop, List.length_append, hdl, zeros3_length]; simp [extV])
      rw [List.length_append, htl, hdl, ← Nat.add_mul] at this
      simpa only [List.append_assoc] using this
    have hle : (l.eraseIdx i).length = i + m := by rw [List.length_eraseIdx_of_lt hi]; omega
    refine ⟨_, rfl, ?_, rfl, hC.setRow (by simp [Value.ownBlock]) _⟩
    rw [h2, hle]
    exact Row.mk (hB.setRow _) (by rw [rowV_length, hle]) (by omega) (by have := HC.out; omega) (by rw [List.length_append, List.length_append, rowV_length, zeros3_length, hle]; rw [List.length_append, rowV_length] at hlen3; omega)
end Go.Proofs.Ytgimcpnelogadaa.Sto
/- Chapter 5, the store, by hand: Give. -/
namespace Go.Proofs.Ytgimcpnelogadaa.Sto
open Go.RowKit Go.Proofs.Ytgimcpnelogadaa.Mem
set_option linter.unusedVariables false
set_option linter.unusedSimpArgs false

theorem give_none {w : World} {p : Nat} {s : St} {F : List Nat} (h : Sto w p s F) (k : Int) (hk : I64 k) (hn : atOf s.all k = none) :
    Calls Try.prog 26 #[.pointer (some ⟨p, 0, none⟩), .int .i64 k] w fun e w' => e = .returned (.int .i64 30) ∧ w = w' := by
  have C := Aside.mk (find_none h k hk hn)
  clear h hn hk
  go_enter Try.func26, Try.ntmps26
  go_wp2_with (go_at_call 67; (with_reducible refine C.out.mono ?_); rintro e w' ⟨rfl, rfl⟩)
  go_ret
  exact ⟨rfl, rfl⟩

/-- The state behind giving back the i-th extent. -/
def St.gave (s : St) (i : Nat) : St := { s with all := s.all.eraseIdx i, used := s.used - up (s.all.getD i default).len }

theorem atOf_erase {l : List Ext} (hn : (l.map Ext.id).Nodup) {i : Nat} (hi : i < l.length) (k : Int) : atOf (l.eraseIdx i) k = if k = (l[i].id : Int) then none else atOf l k := by
  have hn' : ((l.eraseIdx i).map Ext.id).Nodup := hn.sublist ((List.eraseIdx_sublist _ _).map _)
  split
  · rename_i e
    subst e
    refine atOf_none fun x hx e => ?_
    obtain ⟨j, hj, rfl⟩ := List.getElem_of_mem hx
    rw [List.getElem_eraseIdx] at e
    rw [List.length_eraseIdx_of_lt hi] at hj
    rw [List.Nodup, List.pairwise_iff_getElem] at hn
    split at e
    · have := hn j i (by simp; omega) (by simpa using hi) (by omega)
      simp at this; omega
    · have := hn i (j + 1) (by simpa using hi) (by simp; omega) (by omega)
      simp at this; omega
  · rename_i e
    by_cases c : ∃ x ∈ l, (x.id : Int) = k
    · obtain ⟨x, hx, rfl⟩ := c
      rw [atOf_some hn hx]
      refine atOf_some hn' ?_
      obtain ⟨j, hj, rfl⟩ := List.getElem_of_mem hx
      rw [List.mem_eraseIdx_iff_getElem]
      exact ⟨j, hj, fun h => e (by subst h; rfl), rfl⟩
    · rw [atOf_none (fun x hx e' => c ⟨x, hx, e'⟩), atOf_none (fun x hx e' => c ⟨x, (List.eraseIdx_sublist _ _).subset hx, e'⟩)]

set_option maxRecDepth 100000 in
theorem give_some {w : World} {p mb : Nat} {s : St} {rawv allv : Value} (h : StoAt w p s rawv allv mb) (ho : Ok s) (hl : s.all.length ≤ 1000000000) (hr : s.raw.length ≤ 1000000000000) (hmost : s.most ≤ 1000000000000) {i : Nat} (hi : i < s.all.length) (hk : I64 (s.all[i].id : Int)) :
    Calls Try.prog 26 #[.pointer (some ⟨p, 0, none⟩), .int .i64 (s.all[i].id : Int)] w fun e w' => ∃ allv', e = .returned (.int .i64 0) ∧ StoAt w' p (s.gave i) rawv allv' mb ∧ allv'.ownBlock = allv.ownBlock ∧ Chg (foot p rawv allv mb) w w' := by
  have C := Aside.mk (find_some ⟨_, _, _, h, rfl⟩ ho hl hi hk)
  have hin := ho.lay.inside _ (List.getElem_mem hi)
  have hup := up_ge s.all[i].len
  have HU := Aside.mk (fun (w : World) => up_calls s.all[i].len w (by omega))
  have hut : up s.all[i].len ≤ s.used := by
    rw [ho.used]
    have := congrArg total (show s.all = s.all.take i ++ s.all[i] :: s.all.drop (i + 1) by rw [← List.drop_eq_getElem_cons hi, List.take_append_drop])
    rw [total_append, total_cons] at this
    omega
  have hum : s.used ≤ 1000000000000 := by have := ho.most; omega
  have H := Aside.mk h
  have HI := Aside.mk ho.lay.ids
  have HK := Aside.mk hk
  obtain ⟨N, hN⟩ : ∃ N, N = s.all[i].len := ⟨_, rfl⟩
  have HN := Aside.mk hN
  obtain ⟨U, hU⟩ : ∃ U, U = up s.all[i].len := ⟨_, rfl⟩
  rw [← hU, ← hN] at HU
  rw [← hU] at hut
  have HUU := Aside.mk hU
  have HL := Aside.mk hl
  clear h ho hr hk hin hup hmost hN hU
  go_enter Try.func26, Try.ntmps26
  go_wp2_with (go_at_call 67; (with_reducible refine C.out.mono ?_); rintro e w1 ⟨rfl, hc⟩)
  have H1 := Aside.mk (H.out.chg hc (by simp))
  obtain ⟨g, cap, rfl, e0, e1, e2⟩ := H1.out.ext hi
  have k1 := H1.out.c1
  have k3 := H1.out.c3
  have f3 := H1.out.cells.frozen 3
  rw [← HN.out] at e2
  clear e0 e1
  have hi' : (i : Int) < (s.all.length : Int) := by omega
  refine region_tail 16 (by kernel_rfl) (by kernel_rfl) ?_
  simp only [List.take_succ_cons, List.take_zero, List.drop_succ_cons, List.drop_zero]
  repeat (first | still_step | still_call (calls_same (HU.out _)))
  refine wpStill_nil ?_
  have HP2 := Aside.mk ((H1.out.cells.set 3 (.int .i64 ((s.used : Int) - (U : Int)))).drew)
  have hpa : (Value.slice (some ⟨g, 0, none⟩) s.all.length cap).ownBlock ≠ some p := H1.out.p_all
  have HA2 := Aside.mk ((H1.out.all.farCell (p := ⟨p, 3, none⟩) hpa (.int .i64 ((s.used : Int) - (U : Int)))).drew)
  have HR2 := Aside.mk ((H1.out.raw.farCell (p := ⟨p, 3, none⟩) H1.out.p_raw (.int .i64 ((s.used : Int) - (U : Int)))).drew)
  have HM2 := Aside.mk ((H1.out.by_.farCell (p := ⟨p, 3, none⟩) (fun e => H1.out.p_mb e.symm) (.int .i64 ((s.used : Int) - (U : Int)))).drew)
  have HC2 := Aside.mk (((hc.mono (G := foot p rawv (.slice (some ⟨g, 0, none⟩) s.all.length cap) mb) (by simp)).setCell (p := ⟨p, 3, none⟩) (.inl (mem_foot.2 (.inl rfl))) (.int .i64 ((s.used : Int) - (U : Int)))).drew)
  generalize hW : (w1.setCell ⟨p, 3, none⟩ (.int .i64 ((s.used : Int) - (U : Int)))).drew = W2 at HP2 HA2 HR2 HM2 HC2
  have HW := Aside.mk hW
  clear hW
  have CD := Aside.mk (delete_calls HA2.out hl hi rfl)
  rw [show ((i + 1 : Nat) : Int) = (i : Int) + 1 from rfl] at CD
  have hpg : p ∉ (Value.slice (some ⟨g, 0, none⟩) s.all.length cap).ownBlock.toList := by simpa [Value.ownBlock] using fun e => hpa (by rw [e]; rfl)
  have hmg : mb ∉ (Value.slice (some ⟨g, 0, none⟩) s.all.length cap).ownBlock.toList := by simpa [Value.ownBlock] using fun e => H1.out.mb_all (by rw [e]; rfl)
  have hmp : mb ≠ p := fun e => H1.out.p_mb e.symm
  go_wp2_with (first
    | (go_at_call 68; rw [HW.out]; (with_reducible refine CD.out.mono ?_); rintro e w3 ⟨v', rfl, hA3, ho3, hc3⟩; obtain ⟨a3, cp3, rfl⟩ := Row_form hA3; have HP3 := Aside.mk (HP2.out.chg hc3 hpg); have c3 : w3.cell? ⟨p, 1, none⟩ = some (.slice (some ⟨g, 0, none⟩) s.all.length cap) := HP3.out.cellAt rfl; have d3 : w3.cell? ⟨p, 2, none⟩ = some (.map (some mb)) := HP3.out.cellAt rfl; have f3 := HP3.out.frozen 1; obtain ⟨w5, hrun, hM5, hc5⟩ := ((HM2.out.chg hc3 hmg).farCell (p := ⟨p, 1, none⟩) hmp (.slice a3 (s.all.eraseIdx i).length cp3)).drops Try.underlying52 Try.underlying3 (s.all[i].id : Int) HK.out.wf; have HRUN := Aside.mk hrun; clear hrun)
    | (refine wpList_builtin2 _ (by rfl) .delete _ _ _ (by rfl) (.map (some mb)) (.int .i64 (s.all[i].id : Int)) (by rfl) (by rfl) _ _ (HRUN.out _) ?_))
  go_ret
  refine ⟨.slice a3 (s.all.eraseIdx i).length cp3, rfl, ⟨?_, ?_, ?_, ?_⟩, ho3, ?_⟩
  · have h5 := (HP3.out.set 1 (.slice a3 (s.all.eraseIdx i).length cp3)).chg hc5 (by simpa using H1.out.p_mb)
    have eU : ((s.gave i).used : Int) = (s.used : Int) - (U : Int) := by
      show ((s.used - up (s.all.getD i default).len : Nat) : Int) = _
      rw [List.getD_eq_getElem?_getD, List.getElem?_eq_getElem hi, Option.getD_some, ← HUU.out]
      omega
    unfold stV
    rw [eU]
    exact h5
  · refine ((HR2.out.chg hc3 ?_).farCell H1.out.p_raw _).chg hc5 ?_
    · intro k hk
      simpa [Value.ownBlock] using fun e => H1.out.raw_all hk (by rw [e]; rfl)
    · intro k hk
      simpa using fun e => H1.out.mb_raw (by rw [hk, e])
  · refine (hA3.farCell (by rw [ho3]; exact hpa) _).chg hc5 ?_
    intro k hk
    rw [ho3] at hk
    simpa using fun e => H1.out.mb_all (by rw [hk, e])
  · refine (hM5.congr (fun k hk => atOf_erase HI.out hi k)).tight Try.underlying3 ((s.all.eraseIdx i).map fun x => (x.id : Int)) ?_ |>.mono (by simp [St.gave])
    intro k hk
    obtain ⟨x, hx, rfl⟩ := atOf_isSome hk
    exact List.mem_map_of_mem hx
  · refine ((HC2.out.trans (hc3.mono ?_)).setCell (p := ⟨p, 1, none⟩) (.inl (mem_foot.2 (.inl rfl))) _).trans (hc5.mono ?_)
    · intro k hk
      exact mem_foot.2 (.inr (.inr (.inr (by simpa [Option.mem_toList] using hk))))
    · intro k hk
      exact mem_foot.2 (.inr (.inl (by simpa using hk)))
end Go.Proofs.Ytgimcpnelogadaa.Sto
/- Chapter 5, the store, by hand: Extents, as an iterator. -/
namespace Go.Proofs.Ytgimcpnelogadaa.Sto
open Go.RowKit Go.Shelf Go.Proofs.Ytgimcpnelogadaa.Mem
set_option linter.unusedVariables false
set_option linter.unusedSimpArgs false
attribute [local go_sem] Oper.semAt_some

/-- An extent as a value. -/
abbrev encE (x : Ext) : Array Value := #[.agg #[.int .i64 (x.id : Int), .int .i64 (x.at_ : Int), .int .i64 (x.len : Int)]]
/-- What a round keeps: rows of extents from block B on. -/
def KpE (B : Nat) (W W' : World) : Prop := ∀ k cs, B ≤ k → Blk W k 114 cs → Blk W' k 114 cs
theorem KpE.trans {B : Nat} {X Y Z : World} (h : KpE B X Y) (k : KpE B Y Z) : KpE B X Z := fun j cs hj hb => k j cs hj (h j cs hj hb)
theorem KpE.put {B : Nat} (W : World) (l : Nat) (o o' : Obj) (h : W.heap[l]? = some o) (h1 : o.isCells = false) : KpE B W (W.putObj l o') := fun k cs _ hb => by
  have hk : k ≠ l := fun e => by
    subst e
    have := h.symm.trans hb
    cases this
    cases h1
  exact hb.keep (World.putObj_heap_other hk)
theorem chg_grown {w w' : World} (h : Chg [] w w') : w.grownBy w' none := ⟨h.os, h.tape, h.output, h.size, fun k hk _ => h.block k hk (by simp)⟩

set_option maxRecDepth 100000 in
theorem ext_stops {α : Type} (val : α → Ext) (la : List α) (n : Nat) (hn : 1 ≤ n) (B bx p : Nat) {l : List Ext} (hla : la.map val = l) {allv : Value} (w : World) (hB : B ≤ w.heap.size) (hbx : w.cell? ⟨bx, 0, none⟩ = some (.pointer (some ⟨p, 0, none⟩))) (hp : w.cell? ⟨p, 1, none⟩ = some allv)
    (hA : Row w 114 3 allv l.length (rowV l)) (hl : l.length ≤ 1000000000) :
    SeqStopsK Fence.wide n Try.prog 77 #[.pointer (some ⟨bx, 0, none⟩)] (fun x => encE (val x)) (KpE B) (fun ys => ys = la) (fun pre => pre <+: la) la.length w := fun ll J Jx W hW hJ hJx hY h0 => by
  have hlen : la.length = l.length := by rw [← hla, List.length_map]
  have b0 := cell_below hW hbx
  have p0 := cell_below hW hp
  have C := Aside.mk (clone_calls (hA.chg (Chg.of_below (F := []) hW) (by simp)) hl)
  have HB := Aside.mk (Nat.le_trans hB hW.size)
  have HJ := Aside.mk hJ
  have HY := Aside.mk hY
  obtain ⟨aa, ac, rfl⟩ := Row_form hA
  clear hbx hp hA hB hW hJ hJx hY
  refine callsIn_of_wp Try.func77 rfl trivial ?_ rfl
  simp only [Try.ntmps77, List.size_toArray, List.length_cons, List.length_nil, Nat.reduceAdd, Nat.reduceSub, Array.replicate_succ, Array.replicate_zero, List.push_toArray, List.append_toArray, List.nil_append, List.cons_append]
  gi_wp2_with (refine ⟨trivial, ?_⟩; gi_at_call 78; refine (callsIn_wide.2 C.out).mono ?_; rintro e w1 ⟨v', rfl, hR, hc, hf⟩; obtain ⟨a1, c1, rfl⟩ := Row_form hR)
  have HR := Aside.mk hR
  have HF := Aside.mk hf
  have HC := Aside.mk hc
  clear hR hf hc b0 p0
  gi_loopw [11] (fun i wr => ∃ k : Nat, i = .int .i64 (k : Int) ∧ k ≤ l.length ∧ Aside (J (la.take k) wr) ∧ Aside (Row wr 114 3 (.slice a1 l.length c1) l.length (rowV l)) ) (fun i _ => l.length - (intOf i).toNat)
  case atStart => exact ⟨0, rfl, Nat.zero_le _, ⟨HJ.out _ _ _ none h0 (chg_grown HC.out) (by simp)⟩, HR⟩
  case round =>
    obtain ⟨k, rfl, hk, HJ1, HR1⟩ := hrel
    by_cases c : k < l.length
    · rcases HR1.out.cases with ⟨h1, h2, _⟩ | ⟨g, cap, rest, h1, hb, hn', hcap', hlen'⟩
      · exact absurd h2 (by omega)
      cases h1
      have HX := Aside.mk (And.intro hn' (And.intro hcap' hlen'))
      clear hn' hcap' hlen'
      obtain ⟨r0, r1, r2⟩ := rowV_get l c
      have k0 := hb.cellAt (List.getElem?_append_left_some (b := rest) r0)
      have k1 := hb.cellAt (List.getElem?_append_left_some (b := rest) r1)
      have k2 := hb.cellAt (List.getElem?_append_left_some (b := rest) r2)
      have hgB : B ≤ g := Nat.le_trans HB.out (HF.out g rfl)
      have hc' : (k : Int) < (l.length : Int) := by omega
      obtain ⟨W2, hW2⟩ : ∃ W2, W2 = wr.alloc (.cells #[.int .i64 (l[k].id : Int), .int .i64 (l[k].at_ : Int), .int .i64 (l[k].len : Int)] 114) := ⟨_, rfl⟩
      have ca : k < la.length := by omega
      have hval : val la[k] = l[k] := by subst hla; simp
      have hJ2 : J (la.take k) W2 := by rw [hW2]; exact HJ.out _ _ _ none HJ1.out (World.grownBy_alloc _ _ none) (by simp)
      have hb2 : Blk W2 g 114 (rowV l ++ rest) := by rw [hW2]; exact hb.alloc _
      obtain ⟨fn, tmps, assign, body, hy, hR⟩ := HY.out (la.take k) la[k] W2 hJ2 (by simp; omega)
      rw [hval] at hy
      have HW := Aside.mk hW2
      rw [hW2] at hy
      have HB2 := Aside.mk hb
      clear hb hW2 hJ2 hb2
      gi_wp2
      rw [HW.out] at hR
      refine hR.mono ?_
      rintro e W3 (⟨rfl, hJ3, hk3⟩ | ⟨rfl, hJx3⟩)
      · have hb3 := hk3 g _ hgB (HB2.out.alloc _)
        gi_wp2
        go_roundw
        case rel =>
          refine ⟨k + 1, by go_num, by omega, ⟨?_⟩, ⟨Row.mk hb3 (rowV_length l) HX.out.1 HX.out.2.1 HX.out.2.2⟩⟩
          rw [List.take_succ_eq_append_getElem ca]; exact hJ3
        case measure => simp [intOf]; omega
      · gi_wp2
        refine bodyPost_ret (results_none rfl _ _ _) rfl ?_
        refine ⟨⟨_, rfl⟩, .inr ⟨_, ?_, hJx3⟩⟩
        rw [← List.take_succ_eq_append_getElem ca]
        exact List.take_prefix _ _
    · gi_wp2
      obtain rfl : k = l.length := by omega
      go_end0
      refine ⟨⟨_, rfl⟩, .inl ⟨la, rfl, ?_⟩⟩
      have := HJ1.out
      rwa [List.take_of_length_le (by omega)] at this
end Go.Proofs.Ytgimcpnelogadaa.Sto
/- A region that draws its order, inside a round of a range over a function: all but a forced tail only read. -/
namespace Go.Proofs.Ytgimcpnelogadaa.Mem
open Go.RowKit
set_option linter.unusedVariables false
variable {P : Program} {ops : Array Oper} {md : Region.Mode} {w : World}

def noDeferB (l : List Oper) : Bool := l.all fun o => match o.op with | .defer _ => false | _ => true
theorem noDefer {l : List Oper} (h : noDeferB l = true) {i : Nat} {o : Oper} (ho : l[i]? = some o) : ∀ c, o.op ≠ .defer c := fun c e => by
  have := List.all_eq_true.1 h o (List.mem_of_getElem? ho)
  rw [e] at this
  cases this

theorem uponIn_of_still {lo n : Nat} {o : Oper} {a : Act} {K : Act → Prop} {K' : Act → World → Prop} {Q : Exit → Act → World → Prop} (h : ∀ a, K a → K' a w) (r : Result Next) (hh : o.stillUpon P a w K r) :
    o.uponIn (Fence.wide.inRound lo) n P a K' Q r := by
  cases r with
  | ok x w' =>
    cases x with
    | value v => obtain ⟨rfl, hk⟩ := hh; exact h _ hk
    | skip => obtain ⟨rfl, hk⟩ := hh; exact h _ hk
    | enter f args =>
      obtain ⟨rfl, v, hc, hk⟩ := hh
      refine ⟨(fun hd => nomatch hd), ?_⟩
      refine (CallsIn.inRound lo (callsIn_wide.2 hc)).mono ?_
      rintro e w2 ⟨rfl, rfl⟩
      exact h _ hk
    | _ => exact hh.elim
  | halt x w' => cases x <;> exact hh.elim

theorem wpOpIn_of_stOp {lo n i : Nat} {a : Act} {K : Act → Prop} {K' : Act → World → Prop} {Q : Exit → Act → World → Prop} (hd : ∀ o, ops[i]? = some o → ∀ c, o.op ≠ .defer c) (h : ∀ a, K a → K' a w) (hh : stOp P ops w i K a) :
    wpOpIn (Fence.wide.inRound lo) n P ops Q i K' a w := by
  unfold stOp at hh
  unfold wpOpIn
  split
  · rename_i ho; simp only [ho] at hh; exact h _ hh
  · rename_i o ho
    simp only [ho] at hh
    split
    · rename_i hw
      simp only [hw, if_true] at hh
      refine ⟨fun _ _ => trivial, ?_⟩
      rw [Oper.semAt_eq _ _ _ (hd o ho)]
      exact uponIn_of_still h _ hh
    · rename_i hw; simp only [hw] at hh; exact ⟨fun _ _ => trivial, h _ hh⟩

theorem wpAnyIn_of_head {lo m n g : Nat} {L : Array Bool → Act → Prop} {Q : Exit → Act → World → Prop} (hd : ∀ (i : Nat) (o : Oper), ops[i]? = some o → ∀ c, o.op ≠ .defer c) (hL : ∀ listed a, L listed a → wpAnyIn (Fence.wide.inRound lo) m P md ops Q g listed a w) :
    ∀ (f : Nat) (listed : Array Bool) (a : Act), wpAnyL P md ops w n L f listed a → wpAnyIn (Fence.wide.inRound lo) m P md ops Q (f + g) listed a w
  | 0, listed, a, h => by rw [Nat.zero_add]; exact hL _ _ h
  | f + 1, listed, a, h => by
    rw [show f + 1 + g = (f + g) + 1 by omega]
    exact ⟨fun h0 => absurd h0 h.1, fun i hi => wpOpIn_of_stOp (hd i) (fun a' h' => wpAnyIn_of_head hd hL f _ a' h') (h.2 i hi).2⟩

theorem wpAnyIn_of_seq {lo m : Nat} {Q : Exit → Act → World → Prop} : ∀ (l : List Oper) (k : Nat) (listed : Array Bool) (a : Act) (w : World), (∀ j, l[j]? = ops[k + j]?) →
    Region.seqB md ops l.length k listed = true → wpListIn (Fence.wide.inRound lo) m P ops Q l a w → wpAnyIn (Fence.wide.inRound lo) m P md ops Q l.length listed a w
  | [], _, _, _, _, _, hB, h => ⟨by simpa [Region.seqB] using hB, h⟩
  | o :: l, k, listed, a, w, hl, hB, h => by
    have h0 : ops[k]? = some o := by simpa using (hl 0).symm
    simp only [List.length_cons, Region.seqB, Bool.and_eq_true, decide_eq_true_eq] at hB
    refine ⟨fun h1 => (by rw [hB.1] at h1; cases h1), fun i hi => ?_⟩
    rw [hB.1] at hi
    have hik : i = k := by simpa using hi
    subst hik
    have hw : wpOpIn (Fence.wide.inRound lo) m P ops Q i (wpListIn (Fence.wide.inRound lo) m P ops Q l) a w := by unfold wpOpIn; simp only [h0]; exact h
    exact wpOpIn_mono (fun a' w' h' => wpAnyIn_of_seq l (i + 1) _ a' w' (fun j => by have := hl (j + 1); simpa [Nat.add_assoc, Nat.add_comm 1 j] using this) hB.2 h') hw

theorem region_tailIn {lo m id : Nat} {Q : Exit → Act → World → Prop} {a : Act} {l : List Oper} (n : Nat) (hm : P.follows .mixedOrders = true) (hB : Region.lexTailB .any l.toArray n = true) (hD : noDeferB l = true)
    (h : wpStill P l.toArray w.drew (fun a' => wpListIn (Fence.wide.inRound lo) m P l.toArray Q (l.drop n) a' w.drew) (l.take n) a) : (Code.region id l.toArray true).wpIn (Fence.wide.inRound lo) m P Q a w := by
  simp only [Region.lexTailB, Bool.and_eq_true, decide_eq_true_eq] at hB
  obtain ⟨⟨⟨⟨hsel, hn⟩, hs⟩, hc⟩, hlex⟩ := hB
  have hn' : n < l.length := by simpa using hn
  have htl : (l.take n).length = n := by simp; omega
  have hdl : (l.drop n).length = l.toArray.size - n := by simp
  have inv0 : HeadInv .any l.toArray n (Array.replicate l.toArray.size false) :=
    ⟨by simp, fun j oj _ hl => (by rw [getD_replicate_false] at hl; cases hl), fun t _ ht => getD_in (by simpa using ht) (getD_replicate_false _ _)⟩
  have H := wpAnyL_lex (md := .any) (g := l.toArray.size - n) hsel hs hc hn (l.take n) 0 _ a (fun j hj => by
    have hj' : j < n := by rw [htl] at hj; exact hj
    simp [hj']) (by simpa using htl) inv0 (by rw [htl]; exact hlex) h
  refine wpIn_region_any hm ?_
  have := wpAnyIn_of_head (lo := lo) (m := m) (Q := Q) (g := l.toArray.size - n) (fun i o ho => noDefer hD (by simpa using ho)) (fun listed a' hL => by
    have := wpAnyIn_of_seq (lo := lo) (m := m) (md := .any) (Q := Q) (l.drop n) n listed a' w.drew (fun j => by simp [List.getElem?_drop]) (by rw [hdl]; exact hL.1) hL.2
    rwa [hdl] at this) _ _ _ H
  rw [htl, show n + (l.toArray.size - n) = l.toArray.size by omega] at this
  exact this
end Go.Proofs.Ytgimcpnelogadaa.Mem
/- Chapter 5, the store, by hand: gap. -/
namespace Go.Proofs.Ytgimcpnelogadaa.Sto
open Go.RowKit Go.Shelf Go.Proofs.Ytgimcpnelogadaa.Mem
set_option linter.unusedVariables false
set_option linter.unusedSimpArgs false
attribute [local go_sem] Oper.semAt_some

theorem extents_calls (p : Nat) (w : World) : Calls Try.prog 34 #[.pointer (some ⟨p, 0, none⟩)] w fun e w' =>
    e = .returned (.func (.func 77) #[] #[.pointer (some ⟨w.heap.size, 0, none⟩)]) ∧ w' = w.alloc (.cells #[.pointer (some ⟨p, 0, none⟩)] 23) := by
  go_enter Try.func34, Try.ntmps34
  go_wp2
  go_ret
  exact ⟨rfl, rfl⟩

theorem wide_scope {n : Nat} {P : Program} {c : Code} {Q : Exit → Act → World → Prop} {a : Act} {w : World} (h : c.wpIn Fence.wide n P (Exit.noGoto Q) a w) : (Code.scope c).wpIn Fence.wide n P Q a w :=
  wpIn_wide.2 (wp_scope_straight (wpIn_wide.1 h))
/-- What is told by cells stays where a walk's own record turns. -/
theorem blk_own {β : Type} (f : β → Nat) (t : β → TypeId) (cs : β → List Value) : Own (fun s W => Blk W (f s) (t s) (cs s)) := fun s X Y row hs hg hr =>
  hs.keep (hg.block _ hs.lt (fun e => by
    obtain ⟨o, ho, hc⟩ := hr _ e.symm
    have := hs.symm.trans ho
    cases this
    cases hc))
theorem chg_own {β : Type} (F : List Nat) (w : World) {B : Nat} (hB : w.heap.size ≤ B) : OwnFrom B (fun (_ : β) W => Chg F w W) := fun s X Y row hs hg hr =>
  hs.then (G := row.toList) (Chg.of_grown hg (fun k hk => .inl (by simp [hk]))) (fun x hx => by
    cases row with
    | none => simp at hx
    | some r => simp at hx; subst hx; exact .inr (Nat.le_trans hB (hr _ rfl).1))

theorem Chg_putObj {F : List Nat} {w W : World} (h : Chg F w W) {D : Nat} (hD : w.heap.size ≤ D) (o : Obj) : Chg F w (W.putObj D o) :=
  h.then (G := [D]) (Chg.of_grown (grownBy_putObj' W D o) (fun k hk => .inl (by cases hk; simp))) (fun x hx => .inr (by simp at hx; omega))
/-- How a store lies, whatever its counters say. -/
structure Lies (s : St) : Prop where
  lay : Lay s.all s.raw.length
theorem Ok.lies {s : St} (h : Ok s) : Lies s := ⟨h.lay⟩
set_option maxRecDepth 100000 in
theorem gap_calls {w : World} {p : Nat} {s : St} {F : List Nat} (h : Sto w p s F) (ho : Lies s) (hl : s.all.length ≤ 1000000000) (hr : s.raw.length ≤ 1000000000000) (need : Nat) (hneed : need ≤ 1000000000000) :
    Calls Try.prog 62 #[.pointer (some ⟨p, 0, none⟩), .int .i64 (need : Int)] w fun e w' => e = .returned (.int .i64 (gapGo need 0 s.all : Nat)) ∧ Chg [] w w' := by
  obtain ⟨rawv, allv, mb, h, rfl⟩ := h
  refine (callsIn_wide (n := 9)).1 ?_
  refine callsIn_of_wp_marks Try.func62 rfl trivial ?_ rfl
  simp only [Try.ntmps62, List.size_toArray, List.length_cons, List.length_nil, Nat.reduceAdd, Nat.reduceSub, Array.replicate_succ, Array.replicate_zero, List.push_toArray, List.append_toArray, List.nil_append, List.cons_append]
  gi_wp2
  refine wide_scope ?_
  gi_wp2
  apply wpIn_label
  gi_wp2_with (refine ⟨trivial, ?_⟩; gi_at_call 34; refine (callsIn_wide.2 (extents_calls p _)).mono ?_; rintro e w' ⟨rfl, rfl⟩)
  obtain ⟨W0, hW0⟩ : ∃ W0, W0 = (((w.alloc (.cells #[.int .i64 (need : Int)] 3)).alloc (.cells #[.int .i64 0] 3)).alloc (.cells #[.pointer (some ⟨p, 0, none⟩)] 23)) := ⟨_, rfl⟩
  rw [← hW0]
  have hn0 : Blk W0 w.heap.size 3 [.int .i64 (need : Int)] := by rw [hW0]; exact ((Blk.newL _ rfl).alloc _).alloc _
  have he0 : Blk W0 (w.heap.size + 1) 3 [.int .i64 0] := by rw [hW0]; exact (Blk.newL _ (by simp)).alloc _
  have hb0 : Blk W0 (w.heap.size + 1 + 1) 23 [.pointer (some ⟨p, 0, none⟩)] := by rw [hW0]; exact Blk.newL _ (by simp)
  have hc0 : Chg [] w W0 := by rw [hW0]; exact (((Chg.refl _ _).alloc _).alloc _).alloc _
  have hs0 : W0.heap.size = w.heap.size + 3 := by rw [hW0]; simp
  have hA0 := h.chg hc0 (by simp)
  clear hW0
  have HIn := Aside.mk ho.lay.inside
  have HR := Aside.mk hr
  refine wpIn_rangeFunc_ownH (α := { x : Ext // x ∈ s.all }) rfl (by omega) (gf := 77) (lb := #[.pointer (some ⟨w.heap.size + 1 + 1, 0, none⟩)]) rfl trivial (enters_of Try.func77 (by kernel_rfl) rfl)
    (ext_stops Subtype.val s.all.attach (9 - 1) (by omega) W0.heap.size (w.heap.size + 1 + 1) p (List.attach_map_subtype_val s.all) W0 (Nat.le_refl _) (hb0.cellAt rfl) hA0.c1 hA0.all hl) KpE.trans (fun W l o o' _ h1 h2 _ => KpE.put W l o o' h1 h2) (Below.refl _ _) (fun _ => rfl)
    (fun (pre : List { x : Ext // x ∈ s.all }) W => (∃ e : Nat, Blk W (w.heap.size + 1) 3 [.int .i64 (e : Int)] ∧ e ≤ 1000000000000 ∧ ∀ rest, gapGo need 0 (pre.unattach ++ rest) = gapGo need e rest) ∧ Blk W w.heap.size 3 [.int .i64 (need : Int)] ∧ Chg [] w W)
    (fun c (pre : List { x : Ext // x ∈ s.all }) W => c = .exit 0 ∧ (∃ e : Nat, Blk W (w.heap.size + 1) 3 [.int .i64 (e : Int)] ∧ ∀ rest, gapGo need 0 (pre.unattach ++ rest) = e) ∧ Chg [] w W)
    ?ownI (fun c => ?ownX) ⟨⟨0, he0, by omega, fun _ => rfl⟩, hn0, hc0⟩
    (fun (x : { x : Ext // x ∈ s.all }) a' W => ∃ tb, Blk W tb 114 (extV x.1) ∧ a' = { tmps := #[.pointer (some ⟨p, 0, none⟩), .int .i64 (need : Int), undef, .pointer (some ⟨w.heap.size, 0, none⟩), .int .i64 0, .pointer (some ⟨w.heap.size + 1, 0, none⟩), .pointer (some ⟨tb, 0, none⟩), .pointer (some ⟨p, 0, none⟩), .func (.func 77) #[] #[.pointer (some ⟨w.heap.size + 1 + 1, 0, none⟩)], .agg #[.int .i64 (x.1.id : Int), .int .i64 (x.1.at_ : Int), .int .i64 (x.1.len : Int)], undef, undef, undef, undef, undef, undef, undef, undef, undef, undef, undef, undef, undef, undef, undef], defers := [] })
    (fun x a' => ?ownA) ?assign ?body ?done ?stop
  case ownI =>
    intro pre X Y row ⟨⟨e, h1, h2, h3⟩, h4, h5⟩ hg hr
    exact ⟨⟨e, blk_own (fun (_ : Unit) => _) (fun _ => _) (fun _ => _) () X Y row h1 hg (fun r e => (hr r e).2), h2, h3⟩, blk_own (fun (_ : Unit) => _) (fun _ => _) (fun _ => _) () X Y row h4 hg (fun r e => (hr r e).2), chg_own [] w (B := W0.heap.size) (by omega) () X Y row h5 hg hr⟩
  case ownX =>
    intro pre X Y row ⟨h0, ⟨e, h1, h3⟩, h5⟩ hg hr
    exact ⟨h0, ⟨e, blk_own (fun (_ : Unit) => _) (fun _ => _) (fun _ => _) () X Y row h1 hg (fun r e => (hr r e).2), h3⟩, chg_own [] w (B := W0.heap.size) (by omega) () X Y row h5 hg hr⟩
  case ownA =>
    intro _ X Y row ⟨tb, h1, h2⟩ hg hr
    exact ⟨tb, blk_own (fun (_ : Unit) => _) (fun _ => _) (fun _ => _) () X Y row h1 hg (fun r e => (hr r e).2), h2⟩
  case assign =>
    rintro l pre ⟨x, hx⟩ W K ⟨⟨e, h1, h2, h3⟩, h4, h5⟩ hK
    gi_wp2
    exact hK _ _ (((KeepsOthers.alloc W _)).from _) (fun k cs _ hb => hb.alloc _) ⟨⟨e, h1.alloc _, h2, h3⟩, h4.alloc _, h5.alloc _⟩ ⟨W.heap.size, Blk.newL (extV x) rfl, rfl⟩
  case body =>
    rintro l pre ⟨x, hx⟩ a' W hl0 ⟨r, hr0⟩ ⟨⟨e, h1, h2, h3⟩, h4, h5⟩ ⟨tb, hbx, rfl⟩ hlt
    have x0 := hbx.cellAt (i := 0) rfl
    have x1 := hbx.cellAt (i := 1) rfl
    have x2 := hbx.cellAt (i := 2) rfl
    have e0 := h1.cellAt (i := 0) rfl
    have f0 := h1.frozen 0
    have n0 := h4.cellAt (i := 0) rfl
    have hin := HIn.out x hx
    have hup := up_ge x.len
    have hxa : x.at_ ≤ 1000000000000 := by have := HR.out; omega
    have hxl : x.len ≤ 1000000000000 := by have := HR.out; omega
    have HU := Aside.mk (fun (w : World) => up_calls x.len w hxl)
    have hxu : x.at_ + up x.len ≤ 1000000000000 := by have := HR.out; omega
    obtain ⟨U, hU⟩ : ∃ U, U = up x.len := ⟨_, rfl⟩
    rw [← hU] at HU hxu
    have HUU := Aside.mk hU
    clear hU
    by_cases c : e + need ≤ x.at_
    · have c' : (need : Int) ≤ (x.at_ : Int) - (e : Int) := by omega
      clear hin hup
      gi_wp2
      exact ⟨KeepsFrom.refl _ _, ⟨rfl, ⟨e, h1, fun rest => by rw [List.unattach_append, List.append_assoc, h3]; simp [gapGo, c]⟩, h5⟩⟩
    · have c' : (x.at_ : Int) - (e : Int) < (need : Int) := by omega
      clear hin hup
      gi_wp2
      have hw : IntKind.i64.wrap ((x.at_ : Int) + (U : Int)) = ((x.at_ + U : Nat) : Int) := IntWalk.i64_in _ (by omega)
      refine region_tailIn 8 (by kernel_rfl) (by kernel_rfl) (by kernel_rfl) ?_
      simp only [List.take_succ_cons, List.take_zero, List.drop_succ_cons, List.drop_zero]
      repeat (first | still_step | still_call (calls_same (HU.out _)))
      have hmx : (if (e : Int) < (x.at_ : Int) + (U : Int) then (x.at_ : Int) + (U : Int) else (e : Int)) = ((max e (x.at_ + U) : Nat) : Int) := by split <;> omega
      rw [hmx]
      refine wpStill_nil ?_
      gi_wp2
      refine ⟨?_, ?_, ⟨max e (x.at_ + U), (h1.drew.set 0 _), by omega, fun rest => ?_⟩, ?_, ?_⟩
      · exact (KeepsOthers.drew W).trans (KeepsOthers.setCell _ _ _) |>.from _
      · intro k cs hk hb
        refine hb.drew.far (p := ⟨w.heap.size + 1, 0, none⟩) ?_ _
        show k ≠ w.heap.size + 1
        omega
      · rw [List.unattach_append, List.append_assoc, h3]
        simp [gapGo, c, HUU.out]
      · exact h4.drew.far (p := ⟨w.heap.size + 1, 0, none⟩) (by show w.heap.size ≠ w.heap.size + 1; omega) _
      · exact h5.drew.setCell (p := ⟨w.heap.size + 1, 0, none⟩) (.inr (by show w.heap.size ≤ w.heap.size + 1; omega)) _
  case done =>
    rintro D ys W hD rfl ⟨⟨e, h1, h2, h3⟩, h4, h5⟩ hK
    have e0 := h1.cellAt (i := 0) rfl
    gi_wp2
    rw [Exit.noGoto_ret]
    refine ⟨by simp, .inl ⟨_, _, rfl, run_takeDeferred hK, ?_⟩⟩
    refine ⟨.int .i64 (e : Int), by simp [results, Try.f62, go_sem], ret_int ?_, Chg_putObj h5 (by omega) _⟩
    have := h3 []
    simp [gapGo] at this
    rw [this]
  case stop =>
    rintro D c pre W hD hpre ⟨rfl, ⟨e, h1, h3⟩, h5⟩ hK
    have e0 := h1.cellAt (i := 0) rfl
    gi_wp2
    rw [Exit.noGoto_ret]
    refine ⟨by simp, .inl ⟨_, _, rfl, run_takeDeferred hK, ?_⟩⟩
    refine ⟨.int .i64 (e : Int), by simp [results, Try.f62, go_sem], ret_int ?_, Chg_putObj h5 (by omega) _⟩
    obtain ⟨t, ht⟩ := hpre
    have := h3 t.unattach
    rw [← List.unattach_append, ht] at this
    simp at this
    rw [this]
end Go.Proofs.Ytgimcpnelogadaa.Sto
/- Chapter 5, the store, by hand: slices.Insert of one extent. -/
namespace Go.Proofs.Ytgimcpnelogadaa.Sto
open Go.RowKit Go.Proofs.Ytgimcpnelogadaa.Mem
set_option linter.unusedVariables false
set_option linter.unusedSimpArgs false

theorem elemExt : Elem Try.prog 114 3 24 zExt := Elem.of infoExt rfl zExt_one (by decide)
theorem sizeExt (w : World) : (Go.sizeOf 114).run Try.prog w = .ok 3 w := by kernel_rfl
theorem blk_shape {w : World} {g : Nat} {t : TypeId} {cs : List Value} (h : Blk w g t cs) : w.shape? g = some (t, cs.length) := by simp [World.shape?, show w.heap[g]? = _ from h]
theorem extV_one (x : Ext) : ∀ v ∈ extV x, v.oneCell' = true := by
  intro v hv
  simp [extV] at hv
  rcases hv with rfl | rfl | rfl <;> rfl
theorem extV_length (x : Ext) : (extV x).length = 3 := rfl

/-- The same block, or the next new one. -/
def SameNew (w : World) (v v' : Value) : Prop := v'.ownBlock = v.ownBlock ∨ v'.ownBlock = some w.heap.size

/-- A list with one more at i. -/
def insAt (l : List Ext) (i : Nat) (x : Ext) : List Ext := l.take i ++ x :: l.drop i
theorem insAt_length {l : List Ext} {i : Nat} (hi : i ≤ l.length) (x : Ext) : (insAt l i x).length = l.length + 1 := by simp [insAt]; omega
theorem rowV_insAt (l : List Ext) (i : Nat) (x : Ext) : rowV (insAt l i x) = rowV (l.take i) ++ (extV x ++ rowV (l.drop i)) := by rw [insAt, rowV_append, rowV_cons]

set_option maxRecDepth 100000 in
theorem insert_end {w : World} {v : Value} {l : List Ext} (h : Row w 114 3 v l.length (rowV l)) (hl : l.length ≤ 1000000000) (x : Ext) {nb : Nat} (hx : Blk w nb 114 (extV x)) :
    Calls Try.prog 65 #[v, .int .i64 (l.length : Int), .slice (some ⟨nb, 0, none⟩) 1 1] w fun e w' => ∃ v', e = .returned v' ∧ Row w' 114 3 v' (l.length + 1) (rowV l ++ extV x) ∧
      SameNew w v v' ∧ Chg v.ownBlock.toList w w' := by
  obtain ⟨v', w', hr, hR, hC, hO⟩ := h.append (c := 1) Try.underlying109 elemExt (m := 1) (extV_length x) (hx.from (o := 0) (fun j u hu => by rw [Nat.zero_add]; exact hu)) (extV_one x) (by omega) (by omega)
  have HR := Aside.mk hr
  have HO : Aside (SameNew w v v') := Aside.mk hO
  have HX := Aside.mk (And.intro hR hC)
  obtain ⟨a, cp, rfl⟩ := Row_form h
  have hcp : l.length ≤ cp := by
    rcases h.cases with ⟨h1, h2, _⟩ | ⟨g, cap, rest, h1, _, hn, _⟩
    · simp at h1; omega
    · cases h1; exact hn
  clear hr hR hC hO h hx
  go_enter Try.func65, Try.ntmps65
  go_wp2_with (refine wpList_builtin2 _ (by rfl) .append _ _ _ (by rfl) (.slice a l.length cp) (.slice (some ⟨nb, 0, none⟩) 1 1) (by rfl) (by rfl) _ _ (HR.out _) ?_)
  all_goals go_ret
  all_goals exact ⟨v', rfl, HX.out.1, by first | exact HO.out | (cases a <;> exact HO.out), by first | exact HX.out.2 | (cases a <;> exact HX.out.2)⟩

set_option maxRecDepth 100000 in
theorem insert_grow {w : World} {l : List Ext} {g cap : Nat} {rest : List Value} (hb : Blk w g 114 (rowV l ++ rest)) (hn : l.length ≤ cap) (hcap : cap ≤ 9223372036854775807) (hlen : (rowV l ++ rest).length = cap * 3) (hl : l.length ≤ 1000000000)
    {i : Nat} (hi : i < l.length) (hfull : cap < l.length + 1) (x : Ext) {nb : Nat} (hx : Blk w nb 114 (extV x)) :
    Calls Try.prog 65 #[.slice (some ⟨g, 0, none⟩) l.length cap, .int .i64 (i : Int), .slice (some ⟨nb, 0, none⟩) 1 1] w fun e w' => ∃ v', e = .returned v' ∧ Row w' 114 3 v' (l.length + 1) (rowV (insAt l i x)) ∧
      v'.ownBlock = some w.heap.size ∧ Chg [] w w' := by
  have hik : i + (l.length + 1 - i) = l.length + 1 := by omega
  have hkc : ((l.length + 1 - i : Nat) : Int) = (l.length : Int) + 1 - (i : Int) := by omega
  have hsplit : rowV l = rowV (l.take i) ++ rowV (l.drop i) := by rw [← rowV_append, List.take_append_drop]
  have hR0 : Row w 114 3 (.slice (some ⟨g, 0, none⟩) i cap) i (rowV (l.take i)) := by
    refine Row.mk (rest := rowV (l.drop i) ++ rest) ?_ (by rw [rowV_length, List.length_take]; omega) (by omega) hcap ?_
    · rw [← List.append_assoc, ← hsplit]; exact hb
    · rw [← List.append_assoc, ← hsplit]; exact hlen
  obtain ⟨v2, w1, hr, hR, hC, hO⟩ := hR0.appendZeros (kq := .i64) (kn := .i64) Try.underlying109 Try.underlying3 elemExt (k := l.length + 1 - i) (by omega) (by omega) (by omega)
  obtain ⟨hown, hC1⟩ : v2.ownBlock = some w.heap.size ∧ Chg [] w w1 := by
    rcases hO with ⟨⟨a, cp, he, hroom⟩, _⟩ | h
    · cases he; omega
    · exact h
  rcases hR.cases with ⟨rfl, _, _⟩ | ⟨g2, cap2, rest2, rfl, hb2, hn2, hcap2, hlen2⟩
  · cases hown
  obtain rfl : g2 = w.heap.size := by simpa [Value.ownBlock] using hown
  rw [hik] at hn2 hr
  rw [hkc] at hr
  have hgl := hb.lt
  have HR := Aside.mk hr
  have HC := Aside.mk hC1
  have hB2 := Aside.mk hb2
  have hBg := Aside.mk (hb.chg hC1 (by simp))
  have hBx := Aside.mk (hx.chg hC1 (by simp))
  have HL2 := Aside.mk hlen2
  have HN2 := Aside.mk (And.intro hn2 hcap2)
  have HL := Aside.mk hlen
  clear hr hR hC hO hR0 hb hx hb2 hlen2 hlen hC1 hown hcap2
  have q1 : i ≤ cap := by omega
  have q2 : ¬ cap = i := by omega
  have q3 : (l.length : Int) ≤ (cap : Int) := by omega
  have q4 : ¬ cap2 = i := by omega
  have q5 : ¬ cap2 = i + 1 := by omega
  have q6 : ¬ ((i : Int) = (l.length : Int)) := by omega
  have hz : (Builtin.zeroCells zExt.cells (l.length + 1 - i)).toList.length = (l.length + 1 - i) * 3 := zeros3_length _
  have htl : (rowV (l.take i)).length = i * 3 := by rw [rowV_length, List.length_take, Nat.min_eq_left (by omega)]
  obtain ⟨Z, hZ⟩ : ∃ Z, Z = (Builtin.zeroCells zExt.cells (l.length + 1 - i)).toList := ⟨_, rfl⟩
  rw [← hZ] at hB2 HL2 hz
  clear hZ
  have szE : (Try.prog.info? 114).map (·.size) = some 3 := by kernel_rfl
  have hcl := HL2.out
  rw [List.length_append, List.length_append, htl, hz] at hcl
  have hfit1 : i * 3 + (extV x).length ≤ (rowV (l.take i) ++ Z ++ rest2).length := by rw [List.length_append, List.length_append, htl, hz, extV_length]; omega
  have hd1 : Nat.min 1 (l.length + 1 - i) = 1 := Nat.min_eq_left (by omega)
  have R1 := Aside.mk (fun consts ty => run_copy_blk (P := Try.prog) w1 (dT := 109) (sT := 109) (ty := ty) Try.underlying109 szE (g := w.heap.size) (o := i * 3) (dLen := l.length + 1 - i) (dCap := cap2 - i) (ad := ⟨nb, 0, none⟩) (sLen := 1) (sCap := 1) hB2.out (cs := extV x)
    (by rw [hd1]; rfl) (hBx.out.from (o := 0) (fun j u hu => by rw [Nat.zero_add]; exact hu)) hfit1 (extV_one x) consts)
  rw [hd1] at R1
  have hB3 := Aside.mk (hB2.out.setRow (splice (rowV (l.take i) ++ Z ++ rest2) (i * 3) (extV x)))
  have hB3g := Aside.mk (hBg.out.farRow (k := w.heap.size) (by omega) (splice (rowV (l.take i) ++ Z ++ rest2) (i * 3) (extV x)).toArray)
  have hC3 := Aside.mk (HC.out.setRow (g := w.heap.size) (.inr (Nat.le_refl _)) (splice (rowV (l.take i) ++ Z ++ rest2) (i * 3) (extV x)).toArray)
  obtain ⟨W2, hW2⟩ : ∃ W2, W2 = w1.setRow w.heap.size (splice (rowV (l.take i) ++ Z ++ rest2) (i * 3) (extV x)).toArray := ⟨_, rfl⟩
  rw [← hW2] at R1 hB3 hB3g hC3
  clear hW2
  have hl3 : (splice (rowV (l.take i) ++ Z ++ rest2) (i * 3) (extV x)).length = cap2 * 3 := by rw [length_splice _ _ _ hfit1]; exact HL2.out
  have hdd : (rowV (l.drop i)).length = (l.length - i) * 3 := by rw [rowV_length, List.length_drop]
  have hd2 : Nat.min (l.length - i) (l.length - i) = l.length - i := Nat.min_eq_left (Nat.le_refl _)
  have R2 := Aside.mk (fun consts ty => run_copy_blk (P := Try.prog) W2.drew (dT := 109) (sT := 109) (ty := ty) Try.underlying109 szE (g := w.heap.size) (o := (i + 1) * 3) (dLen := l.length - i) (dCap := cap2 - (i + 1)) (ad := ⟨g, i * 3, none⟩) (sLen := l.length - i) (sCap := cap - i) hB3.out.drew (cs := rowV (l.drop i))
    (by rw [hd2, hdd]) (hB3g.out.drew.from (fun j u hu => by
      rw [List.getElem?_append_left (by have := (List.getElem?_eq_some_iff.1 hu).1; rw [hdd] at this; rw [rowV_length]; omega), hsplit, List.getElem?_append_right (by omega), htl, show i * 3 + j - i * 3 = j by omega]
      exact hu)) (by rw [hl3, hdd]; omega) (oneExt _) consts)
  rw [hd2] at R2
  have hfin : splice (splice (rowV (l.take i) ++ Z ++ rest2) (i * 3) (extV x)) ((i + 1) * 3) (rowV (l.drop i)) = rowV (insAt l i x) ++ rest2 := by
    have e1 := splice_mid (rowV (l.take i)) (Z.take 3) (Z.drop 3 ++ rest2) (extV x) (by rw [List.length_take, hz, extV_length]; omega)
    rw [htl, ← List.append_assoc (Z.take 3), List.take_append_drop] at e1
    rw [List.append_assoc, e1, rowV_insAt]
    have e2 := splice_mid (rowV (l.take i) ++ extV x) (Z.drop 3) rest2 (rowV (l.drop i)) (by rw [List.length_drop, hz, hdd]; omega)
    rw [List.length_append, htl, extV_length, show i * 3 + 3 = (i + 1) * 3 by omega] at e2
    simpa only [List.append_assoc] using e2
  have hw := (IntWalk.i64_in ((i : Int) + 1) (by omega) : IntKind.i64.wrap ((i : Int) + 1) = ((i + 1 : Nat) : Int))
  have hfinA := Aside.mk hfin
  clear hfin hd1 hd2 hdd hl3 hfit1 hcl hz htl hsplit szE hik hkc
  have q7 : i + 1 ≤ l.length + 1 := by omega
  have q8 : i ≤ l.length := by omega
  have q9 : l.length + 1 ≤ cap2 := hn2
  have p1 : i + 1 ≤ cap2 := by omega
  have p2 : (0 : Int) ≤ (i : Int) + 1 := by omega
  go_enter Try.func65, Try.ntmps65
  go_wp2_with (first
    | (refine wpList_builtin2 _ (by rfl) .append _ _ _ (by rfl) (.slice (some ⟨g, 0, none⟩) i cap) (.int .i64 ((l.length : Int) + 1 - (i : Int))) (by rfl) (by rfl) _ _ (HR.out _) ?_)
    | (refine wpList_builtin2 _ (by rfl) .copy _ _ _ (by rfl) (.slice (some ⟨w.heap.size, i * 3, none⟩) (l.length + 1 - i) (cap2 - i)) (.slice (some ⟨nb, 0, none⟩) 1 1) (by rfl) (by rfl) _ _ (fun c => R1.out c _) ?_))
  refine region_tail 8 (by kernel_rfl) (by kernel_rfl) ?_
  simp only [List.take_succ_cons, List.take_zero, List.drop_succ_cons, List.drop_zero]
  repeat still_step
  refine wpStill_nil ?_
  refine wpList_builtin2 _ rfl .copy _ _ _ rfl (.slice (some ⟨w.heap.size, (i + 1) * 3, none⟩) (l.length - i) (cap2 - (i + 1))) (.slice (some ⟨g, i * 3, none⟩) (l.length - i) (cap - i)) rfl rfl _ _ (fun c => R2.out c _) ?_
  go_wp2
  go_ret
  have hf := hfinA.out
  refine ⟨_, rfl, ?_, rfl, hC3.out.drew.setRow (g := w.heap.size) (.inr (Nat.le_refl _)) _⟩
  have hB4 := hB3.out.drew.setRow (splice (splice (rowV (l.take i) ++ Z ++ rest2) (i * 3) (extV x)) ((i + 1) * 3) (rowV (l.drop i)))
  have hlf := congrArg List.length hf
  simp only [List.append_assoc] at hB4 hf hlf ⊢
  rw [hf] at hB4 ⊢
  have hl2 := HL2.out
  refine Row.mk hB4 (by rw [rowV_length, insAt_length (by omega)]) (by omega) HN2.out.2 ?_
  rw [← hlf, length_splice _ _ _ ?_, length_splice _ _ _ ?_]
  · simpa only [List.append_assoc] using hl2
  · rw [List.append_assoc] at hl2
    rw [hl2, extV_length]; omega
  · rw [List.append_assoc] at hl2
    rw [length_splice _ _ _ (by rw [hl2, extV_length]; omega), hl2, rowV_length, List.length_drop]; omega

theorem overlapsFalse {w : World} {a b : Addr} (la ca lb cb : Nat) (hne : a.block ≠ b.block) {tA tB : TypeId} {kA kB : Nat} (hsa : w.shape? a.block = some (tA, kA)) (hsb : w.shape? b.block = some (tB, kB)) (hkB : kB ≠ 0)
    (hfa : w.frozen? a = false) (hfe : w.frozen? { block := a.block, off := kA } = false) :
    (callFunc 112 #[.slice (some a) la ca, .slice (some b) lb cb]).run Try.prog w = .ok (.value (.bool false)) w := by
  rw [run_callFunc_extern Try.func112 (by kernel_rfl) (by kernel_rfl) (by kernel_rfl) (e := Extern.SlicesOverlaps.overlaps #[109, 109] #[4]) (by kernel_rfl),
    Lib.run_overlaps_apart w 109 4 114 Try.underlying109 3 sizeExt a b la ca lb cb hne tA tB kA kB hsa hsb hkB hfa hfe]
  rfl

set_option maxRecDepth 100000 in
theorem insert_shift {w : World} {l : List Ext} {g cap : Nat} {rest : List Value} (hb : Blk w g 114 (rowV l ++ rest)) (hcap : cap ≤ 9223372036854775807) (hlen : (rowV l ++ rest).length = cap * 3) (hl : l.length ≤ 1000000000)
    {i : Nat} (hi : i < l.length) (hroom : l.length + 1 ≤ cap) (x : Ext) {nb : Nat} (hx : Blk w nb 114 (extV x)) (hne : nb ≠ g) :
    Calls Try.prog 65 #[.slice (some ⟨g, 0, none⟩) l.length cap, .int .i64 (i : Int), .slice (some ⟨nb, 0, none⟩) 1 1] w fun e w' => e = .returned (.slice (some ⟨g, 0, none⟩) (l.length + 1) cap) ∧
      Row w' 114 3 (.slice (some ⟨g, 0, none⟩) (l.length + 1) cap) (l.length + 1) (rowV (insAt l i x)) ∧ Chg [g] w w' := by
  have hsplit : rowV l = rowV (l.take i) ++ rowV (l.drop i) := by rw [← rowV_append, List.take_append_drop]
  have htl : (rowV (l.take i)).length = i * 3 := by rw [rowV_length, List.length_take, Nat.min_eq_left (by omega)]
  have hdd : (rowV (l.drop i)).length = (l.length - i) * 3 := by rw [rowV_length, List.length_drop]
  have szE : (Try.prog.info? 114).map (·.size) = some 3 := by kernel_rfl
  have OV := Aside.mk (fun (lb cb : Nat) => overlapsFalse (w := w) (a := ⟨nb, 0, none⟩) (b := ⟨g, (i + 1) * 3, none⟩) 1 1 lb cb hne (blk_shape hx) (blk_shape hb) (by rw [hlen]; omega) (hx.frozen 0) (hx.frozen _))
  have hd1 : Nat.min (l.length + 1 - i) (l.length - i) = l.length - i := Nat.min_eq_right (by omega)
  have R1 := Aside.mk (fun consts ty => run_copy_blk (P := Try.prog) w.drew (dT := 109) (sT := 109) (ty := ty) Try.underlying109 szE (g := g) (o := (i + 1) * 3) (dLen := l.length - i) (dCap := cap - (i + 1)) (ad := ⟨g, i * 3, none⟩) (sLen := l.length + 1 - i) (sCap := cap - i) hb.drew (cs := rowV (l.drop i))
    (by rw [hd1, hdd]) (hb.drew.from (fun j u hu => by
      rw [List.getElem?_append_left (by have := (List.getElem?_eq_some_iff.1 hu).1; rw [hdd] at this; rw [rowV_length]; omega), hsplit, List.getElem?_append_right (by omega), htl, show i * 3 + j - i * 3 = j by omega]
      exact hu)) (by rw [hlen, hdd]; omega) (oneExt _) consts)
  rw [hd1] at R1
  have hl1 : (splice (rowV l ++ rest) ((i + 1) * 3) (rowV (l.drop i))).length = cap * 3 := by rw [length_splice _ _ _ (by rw [hlen, hdd]; omega)]; exact hlen
  have hB1 := Aside.mk (hb.drew.setRow (splice (rowV l ++ rest) ((i + 1) * 3) (rowV (l.drop i))))
  have hBx := Aside.mk (hx.drew.farRow hne (splice (rowV l ++ rest) ((i + 1) * 3) (rowV (l.drop i))).toArray)
  have hC1 := Aside.mk (((Chg.refl [g] w).drew).setRow (g := g) (by simp) (splice (rowV l ++ rest) ((i + 1) * 3) (rowV (l.drop i))).toArray)
  obtain ⟨W1, hW1⟩ : ∃ W1, W1 = w.drew.setRow g (splice (rowV l ++ rest) ((i + 1) * 3) (rowV (l.drop i))).toArray := ⟨_, rfl⟩
  rw [← hW1] at R1 hB1 hBx hC1
  clear hW1
  have hd2 : Nat.min 1 (l.length + 1 - i) = 1 := Nat.min_eq_left (by omega)
  have R2 := Aside.mk (fun consts ty => run_copy_blk (P := Try.prog) W1 (dT := 109) (sT := 109) (ty := ty) Try.underlying109 szE (g := g) (o := i * 3) (dLen := l.length + 1 - i) (dCap := cap - i) (ad := ⟨nb, 0, none⟩) (sLen := 1) (sCap := 1) hB1.out (cs := extV x)
    (by rw [hd2]; rfl) (hBx.out.from (o := 0) (fun j u hu => by rw [Nat.zero_add]; exact hu)) (by rw [hl1, extV_length]; omega) (extV_one x) consts)
  rw [hd2] at R2
  have hrl : 3 ≤ rest.length := by rw [List.length_append, rowV_length] at hlen; omega
  have hfin : splice (splice (rowV l ++ rest) ((i + 1) * 3) (rowV (l.drop i))) (i * 3) (extV x) = rowV (insAt l i x) ++ rest.drop 3 := by
    have e0 : rowV l ++ rest = (rowV (l.take i) ++ (rowV (l.drop i) ++ rest).take 3) ++ (((rowV (l.drop i) ++ rest).drop 3).take ((l.length - i) * 3) ++ ((rowV (l.drop i) ++ rest).drop 3).drop ((l.length - i) * 3)) := by
      rw [List.take_append_drop, List.append_assoc, List.take_append_drop, hsplit, List.append_assoc]
    have e1 := splice_mid (rowV (l.take i) ++ (rowV (l.drop i) ++ rest).take 3) (((rowV (l.drop i) ++ rest).drop 3).take ((l.length - i) * 3)) (((rowV (l.drop i) ++ rest).drop 3).drop ((l.length - i) * 3)) (rowV (l.drop i))
      (by rw [List.length_take, List.length_drop, List.length_append, hdd]; omega)
    rw [← e0, List.length_append, htl, List.length_take, List.length_append, hdd, Nat.min_eq_left (by omega), show i * 3 + 3 = (i + 1) * 3 by omega] at e1
    rw [e1, rowV_insAt, List.append_assoc]
    have e2 := splice_mid (rowV (l.take i)) ((rowV (l.drop i) ++ rest).take 3) (rowV (l.drop i) ++ ((rowV (l.drop i) ++ rest).drop 3).drop ((l.length - i) * 3)) (extV x) (by rw [List.length_take, List.length_append, hdd, extV_length]; omega)
    rw [htl] at e2
    have e3 : ((rowV (l.drop i) ++ rest).drop 3).drop ((l.length - i) * 3) = rest.drop 3 := by
      rw [List.drop_drop, ← hdd, Nat.add_comm 3, List.drop_append, List.drop_eq_nil_of_le (Nat.le_add_right (rowV (l.drop i)).length 3), List.nil_append, show (rowV (l.drop i)).length + 3 - (rowV (l.drop i)).length = 3 by omega]
    rw [e2, e3]
    simp only [List.append_assoc]
  have hfinA := Aside.mk hfin
  have hw := (IntWalk.i64_in ((i : Int) + 1) (by omega) : IntKind.i64.wrap ((i : Int) + 1) = ((i + 1 : Nat) : Int))
  have HL := Aside.mk hlen
  have HC := Aside.mk hcap
  clear hfin hd1 hd2 hdd hl1 htl hsplit szE hlen hb hx hcap hrl
  have q1 : i ≤ cap := by omega
  have q2 : ¬ cap = i := by omega
  have q3 : (l.length : Int) ≤ (cap : Int) := by omega
  have q5 : ¬ cap = i + 1 := by omega
  have q6 : ¬ ((i : Int) = (l.length : Int)) := by omega
  have q7 : i + 1 ≤ l.length + 1 := by omega
  have q8 : i ≤ l.length + 1 := by omega
  have p1 : i + 1 ≤ cap := by omega
  have p2 : (0 : Int) ≤ (i : Int) + 1 := by omega
  have p3 : (l.length : Int) + 1 ≤ (cap : Int) := by omega
  have p4 : i ≤ l.length := by omega
  have p5 : (i : Int) ≤ (l.length : Int) + 1 := by omega
  go_enter Try.func65, Try.ntmps65
  go_wp2_with (simp only [OV.out])
  refine region_tail 8 (by kernel_rfl) (by kernel_rfl) ?_
  simp only [List.take_succ_cons, List.take_zero, List.drop_succ_cons, List.drop_zero]
  repeat still_step
  refine wpStill_nil ?_
  refine wpList_builtin2 _ rfl .copy _ _ _ rfl (.slice (some ⟨g, (i + 1) * 3, none⟩) (l.length - i) (cap - (i + 1))) (.slice (some ⟨g, i * 3, none⟩) (l.length + 1 - i) (cap - i)) rfl rfl _ _ (fun c => R1.out c _) ?_
  go_wp2_with (refine wpList_builtin2 _ (by rfl) .copy _ _ _ (by rfl) (.slice (some ⟨g, i * 3, none⟩) (l.length + 1 - i) (cap - i)) (.slice (some ⟨nb, 0, none⟩) 1 1) (by rfl) (by rfl) _ _ (fun c => R2.out c _) ?_)
  go_ret
  have hf := hfinA.out
  have hB2 := hB1.out.setRow (splice (splice (rowV l ++ rest) ((i + 1) * 3) (rowV (l.drop i))) (i * 3) (extV x))
  refine ⟨rfl, ?_, hC1.out.setRow (g := g) (by simp) _⟩
  rw [hf] at hB2 ⊢
  have hl2 := HL.out
  rw [List.length_append, rowV_length] at hl2
  refine Row.mk hB2 (by rw [rowV_length, insAt_length (by omega)]) hroom HC.out ?_
  rw [List.length_append, rowV_length, insAt_length (by omega), List.length_drop]
  omega

/-- slices.Insert of one extent. -/
theorem insert_calls {w : World} {v : Value} {l : List Ext} (h : Row w 114 3 v l.length (rowV l)) (hl : l.length ≤ 1000000000) {i : Nat} (hi : i ≤ l.length) (x : Ext) {nb : Nat} (hx : Blk w nb 114 (extV x)) (hne : v.ownBlock ≠ some nb) :
    Calls Try.prog 65 #[v, .int .i64 (i : Int), .slice (some ⟨nb, 0, none⟩) 1 1] w fun e w' => ∃ v', e = .returned v' ∧ Row w' 114 3 v' (insAt l i x).length (rowV (insAt l i x)) ∧
      SameNew w v v' ∧ Chg v.ownBlock.toList w w' := by
  rw [insAt_length hi]
  by_cases c : i = l.length
  · subst c
    refine (insert_end h hl x hx).mono ?_
    rintro e w' ⟨v', rfl, h1, h2, h3⟩
    refine ⟨v', rfl, ?_, h2, h3⟩
    rw [rowV_insAt, List.take_length, List.drop_length]
    simpa [rowV] using h1
  · rcases h.cases with ⟨rfl, h2, _⟩ | ⟨g, cap, rest, rfl, hb, hn, hcap, hlen⟩
    · omega
    · by_cases d : l.length + 1 ≤ cap
      · refine (insert_shift hb hcap hlen hl (by omega) d x hx (fun e => hne (by rw [e]; rfl))).mono ?_
        rintro e w' ⟨rfl, h1, h2⟩
        exact ⟨_, rfl, h1, .inl rfl, h2.mono (by simp [Value.ownBlock])⟩
      · refine (insert_grow hb hn hcap hlen hl (by omega) (by omega) x hx).mono ?_
        rintro e w' ⟨v', rfl, h1, h2, h3⟩
        exact ⟨v', rfl, h1, .inr h2, h3.mono (by simp)⟩
end Go.Proofs.Ytgimcpnelogadaa.Sto
