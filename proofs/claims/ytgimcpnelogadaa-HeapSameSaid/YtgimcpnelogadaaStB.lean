/- Chapter 5, the store, by hand: what a store is in memory; New, Used, Span. -/
import Derived.Test.YtgimcpnelogadaaStA
namespace Go.Proofs.Ytgimcpnelogadaa.Sto
open Go.RowKit Go.Proofs.Ytgimcpnelogadaa.Mem
set_option linter.unusedVariables false
set_option linter.unusedSimpArgs false
attribute [local go_sem] run_makeMap

/-- An extent's cells; those of a row of them; bytes' cells. -/
def extV (x : Ext) : List Value := [.int .i64 (x.id : Int), .int .i64 (x.at_ : Int), .int .i64 (x.len : Int)]
def rowV (l : List Ext) : List Value := l.flatMap extV
def u8V (r : List UInt8) : List Value := r.map fun b => .int .u8 (b.toNat : Int)

/-- What a store's block holds. -/
def stV (raw all by_ : Value) (used most : Nat) : List Value := [raw, all, by_, .int .i64 (used : Int), .int .i64 (most : Int)]

/-- At block p there is a store in the state s; rawv, allv, mb: its bytes, its extents, its map of places. -/
structure StoAt (w : World) (p : Nat) (s : St) (rawv allv : Value) (mb : Nat) : Prop where
  cells : Blk w p 111 (stV rawv allv (.map (some mb)) s.used s.most)
  raw : Row w 5 1 rawv s.raw.length (u8V s.raw)
  all : Row w 114 3 allv s.all.length (rowV s.all)
  by_ : IMap Try.prog 3 w mb s.all.length (atOf s.all)

/-- The blocks of a store. -/
def foot (p : Nat) (rawv allv : Value) (mb : Nat) : List Nat := p :: mb :: (rawv.ownBlock.toList ++ allv.ownBlock.toList)

/-- At block p there is a store in the state s, made of the blocks F. -/
def Sto (w : World) (p : Nat) (s : St) (F : List Nat) : Prop := ∃ rawv allv mb, StoAt w p s rawv allv mb ∧ F = foot p rawv allv mb

section
variable {w w' : World} {p mb : Nat} {s : St} {rawv allv : Value} {F : List Nat}
theorem mem_foot {k : Nat} : k ∈ foot p rawv allv mb ↔ k = p ∨ k = mb ∨ rawv.ownBlock = some k ∨ allv.ownBlock = some k := by
  simp [foot, Option.mem_toList]
theorem StoAt.lt (h : StoAt w p s rawv allv mb) : ∀ k ∈ foot p rawv allv mb, k < w.heap.size := by
  intro k hk
  rcases mem_foot.1 hk with rfl | rfl | hk | hk
  · exact h.cells.lt
  · exact h.by_.lt
  · exact h.raw.lt hk
  · exact h.all.lt hk
theorem StoAt.keep (h : StoAt w p s rawv allv mb) (hk : ∀ k ∈ foot p rawv allv mb, w'.heap[k]? = w.heap[k]?) : StoAt w' p s rawv allv mb :=
  ⟨h.cells.keep (hk p (by simp [foot])), h.raw.keep (fun g hg => hk g (mem_foot.2 (.inr (.inr (.inl hg))))), h.all.keep (fun g hg => hk g (mem_foot.2 (.inr (.inr (.inr hg))))), h.by_.keep (hk mb (by simp [foot]))⟩
theorem StoAt.chg {G : List Nat} (h : StoAt w p s rawv allv mb) (hc : Chg G w w') (hG : ∀ k ∈ foot p rawv allv mb, k ∉ G) : StoAt w' p s rawv allv mb :=
  h.keep fun k hk => hc.block k (h.lt k hk) (hG k hk)
theorem StoAt.drewN (h : StoAt w p s rawv allv mb) (n : Nat) : StoAt (w.drewN n) p s rawv allv mb := h.keep fun _ _ => rfl
theorem StoAt.drew (h : StoAt w p s rawv allv mb) : StoAt w.drew p s rawv allv mb := h.keep fun _ _ => rfl
theorem StoAt.alloc (h : StoAt w p s rawv allv mb) (o : Obj) : StoAt (w.alloc o) p s rawv allv mb := h.keep fun k hk => Below.heap_alloc _ _ _ (h.lt k hk)
theorem Sto.lt (h : Sto w p s F) : ∀ k ∈ F, k < w.heap.size := by obtain ⟨_, _, _, h, rfl⟩ := h; exact h.lt
theorem Sto.chg {G : List Nat} (h : Sto w p s F) (hc : Chg G w w') (hG : ∀ k ∈ F, k ∉ G) : Sto w' p s F := by
  obtain ⟨_, _, _, h, rfl⟩ := h
  exact ⟨_, _, _, h.chg hc hG, rfl⟩
theorem Sto.mem (h : Sto w p s F) : p ∈ F := by obtain ⟨_, _, _, h, rfl⟩ := h; simp [foot]

/-- The blocks of a store are apart. -/
theorem StoAt.p_mb (h : StoAt w p s rawv allv mb) : p ≠ mb := by
  rintro rfl
  obtain ⟨es, c, hm⟩ := h.by_.block
  have := h.cells.symm.trans hm
  cases this
theorem StoAt.p_raw (h : StoAt w p s rawv allv mb) : rawv.ownBlock ≠ some p := fun e => by
  obtain ⟨cs, hc⟩ := h.raw.typed e
  exact absurd (h.cells.inj hc).1 (by decide)
theorem StoAt.p_all (h : StoAt w p s rawv allv mb) : allv.ownBlock ≠ some p := fun e => by
  obtain ⟨cs, hc⟩ := h.all.typed e
  exact absurd (h.cells.inj hc).1 (by decide)
theorem StoAt.mb_raw (h : StoAt w p s rawv allv mb) : rawv.ownBlock ≠ some mb := fun e => by
  obtain ⟨cs, hc⟩ := h.raw.typed e
  obtain ⟨es, c, hm⟩ := h.by_.block
  have := hm.symm.trans hc
  cases this
theorem StoAt.mb_all (h : StoAt w p s rawv allv mb) : allv.ownBlock ≠ some mb := fun e => by
  obtain ⟨cs, hc⟩ := h.all.typed e
  obtain ⟨es, c, hm⟩ := h.by_.block
  have := hm.symm.trans hc
  cases this
theorem StoAt.raw_all (h : StoAt w p s rawv allv mb) {g : Nat} (hr : rawv.ownBlock = some g) : allv.ownBlock ≠ some g := fun e => by
  obtain ⟨cs, hc⟩ := h.all.typed e
  obtain ⟨ds, hd⟩ := h.raw.typed hr
  exact absurd (hd.inj hc).1 (by decide)
/-- The cells of the store's block. -/
theorem StoAt.c0 (h : StoAt w p s rawv allv mb) : w.cell? ⟨p, 0, none⟩ = some rawv := h.cells.cellAt rfl
theorem StoAt.c1 (h : StoAt w p s rawv allv mb) : w.cell? ⟨p, 1, none⟩ = some allv := h.cells.cellAt rfl
theorem StoAt.c2 (h : StoAt w p s rawv allv mb) : w.cell? ⟨p, 2, none⟩ = some (.map (some mb)) := h.cells.cellAt rfl
theorem StoAt.c3 (h : StoAt w p s rawv allv mb) : w.cell? ⟨p, 3, none⟩ = some (.int .i64 (s.used : Int)) := h.cells.cellAt rfl
theorem StoAt.c4 (h : StoAt w p s rawv allv mb) : w.cell? ⟨p, 4, none⟩ = some (.int .i64 (s.most : Int)) := h.cells.cellAt rfl
end

/-- A slice's length, of a row. -/
theorem Row_form {w : World} {t : TypeId} {size : Nat} {v : Value} {n : Nat} {xs : List Value} (h : Row w t size v n xs) : ∃ a c, v = .slice a n c := by
  rcases h.cases with ⟨rfl, rfl, _⟩ | ⟨g, cap, rest, rfl, _⟩
  · exact ⟨_, _, rfl⟩
  · exact ⟨_, _, rfl⟩

theorem new_calls (w : World) : Calls Try.prog 21 #[] w fun e w' => ∃ p F, e = .returned (.pointer (some ⟨p, 0, none⟩)) ∧ Sto w' p ⟨[], [], 0, 0⟩ F ∧ Chg [] w w' ∧ ∀ k ∈ F, w.heap.size ≤ k := by
  have hmm := @run_makeMap Try.prog
  go_enter Try.func21, Try.ntmps21
  go_wp2
  go_ret
  refine ⟨_, foot (w.heap.size + 1) (.slice none 0 0) (.slice none 0 0) w.heap.size, rfl, ⟨_, _, _, ⟨?_, Row.nil _ _ _, Row.nil _ _ _, ?_⟩, rfl⟩, ((Chg.refl [] w).alloc _).alloc _, ?_⟩
  · exact Blk.newL _ (by simp)
  · exact ((IMap.made Try.prog 3 w).keep (Below.heap_alloc _ _ _ (by simp))).congr (fun k _ => rfl)
  · intro k hk
    rcases mem_foot.1 hk with rfl | rfl | hk | hk
    · omega
    · omega
    · cases hk
    · cases hk

theorem used_calls {w : World} {p : Nat} {s : St} {F : List Nat} (h : Sto w p s F) :
    Calls Try.prog 29 #[.pointer (some ⟨p, 0, none⟩)] w fun e w' => e = .returned (.int .i64 (s.used : Int)) ∧ w = w' := by
  obtain ⟨rawv, allv, mb, h, rfl⟩ := h
  have h3 := h.c3
  clear h
  go_enter Try.func29, Try.ntmps29
  go_wp2
  go_ret
  exact ⟨rfl, rfl⟩

theorem span_calls {w : World} {p : Nat} {s : St} {F : List Nat} (h : Sto w p s F) :
    Calls Try.prog 35 #[.pointer (some ⟨p, 0, none⟩)] w fun e w' => e = .returned (.int .i64 (s.raw.length : Int)) ∧ w = w' := by
  obtain ⟨rawv, allv, mb, h, rfl⟩ := h
  have h0 := h.c0
  obtain ⟨a, c, rfl⟩ := Row_form h.raw
  clear h
  go_enter Try.func35, Try.ntmps35
  go_wp2
  go_ret
  exact ⟨rfl, rfl⟩
end Go.Proofs.Ytgimcpnelogadaa.Sto
