/- Chapter 5: what lies keeps in memory, step by step. -/
import Derived.Test.YtgimcpnelogadaaPlB
import Derived.Test.YtgimcpnelogadaaFillsP
namespace Go.Proofs.Ytgimcpnelogadaa.Sto
open Go.RowKit Go.Proofs.Ytgimcpnelogadaa.Mem
set_option linter.unusedVariables false

structure LieJ (w : World) (b p q E : Nat) (last : List Value) (v : Value) (n : Nat) (ids : List Value) (W : World) : Prop where
  b0 : Blk W b 23 [.pointer (some ⟨p, 0, none⟩)]
  b1 : Blk W (b + 1) 40 [.pointer (some ⟨q, 0, none⟩)]
  b2 : Blk W (b + 2) 29 [.slice none 0 0]
  b3 : Blk W (b + 3) 4 [.bool false]
  b4 : Blk W (b + 4) 29 [v]
  row : Row W 3 1 v n ids
  own : ∀ g, v.ownBlock = some g → b + 8 ≤ g
  b5 : Blk W (b + 5) 3 [.int .i64 (E : Int)]
  b6 : Blk W (b + 6) 114 last
  chg : Chg [] w W
  top : b + 7 < W.heap.size

section
variable {w W W' : World} {b p q E n : Nat} {last ids : List Value} {v v' : Value}
theorem LieJ.drew (h : LieJ w b p q E last v n ids W) : LieJ w b p q E last v n ids W.drew :=
  ⟨h.b0.drew, h.b1.drew, h.b2.drew, h.b3.drew, h.b4.drew, h.row.drew, h.own, h.b5.drew, h.b6.drew, h.chg.drew, h.top⟩
theorem LieJ.alloc (h : LieJ w b p q E last v n ids W) (o : Obj) : LieJ w b p q E last v n ids (W.alloc o) :=
  ⟨h.b0.alloc o, h.b1.alloc o, h.b2.alloc o, h.b3.alloc o, h.b4.alloc o, h.row.alloc o, h.own, h.b5.alloc o, h.b6.alloc o, h.chg.alloc o, by have := h.top; simp; omega⟩
theorem LieJ.end_ (h : LieJ w b p q E last v n ids W) (hb : w.heap.size ≤ b) (e : Nat) : LieJ w b p q e last v n ids (W.setCell ⟨b + 5, 0, none⟩ (.int .i64 (e : Int))) := by
  have far : ∀ {k : Nat} {t : TypeId} {cs : List Value}, k ≠ b + 5 → Blk W k t cs → Blk (W.setCell ⟨b + 5, 0, none⟩ (.int .i64 (e : Int))) k t cs := fun hk hb => hb.far (p := ⟨b + 5, 0, none⟩) hk _
  exact ⟨far (by omega) h.b0, far (by omega) h.b1, far (by omega) h.b2, far (by omega) h.b3, far (by omega) h.b4, h.row.farCell (p := ⟨b + 5, 0, none⟩) (fun e => by have := h.own _ e; simp only at this; omega) _, h.own, h.b5.set 0 _, far (by omega) h.b6, h.chg.setCell (p := ⟨b + 5, 0, none⟩) (.inr (by show w.heap.size ≤ b + 5; omega)) _, by have := h.top; simpa [World.setCell] using this⟩
theorem LieJ.last_ (h : LieJ w b p q E last v n ids W) (hb : w.heap.size ≤ b) (i : Nat) (u : Value) : LieJ w b p q E (last.set i u) v n ids (W.setCell ⟨b + 6, i, none⟩ u) := by
  have far : ∀ {k : Nat} {t : TypeId} {cs : List Value}, k ≠ b + 6 → Blk W k t cs → Blk (W.setCell ⟨b + 6, i, none⟩ u) k t cs := fun hk hb => hb.far (p := ⟨b + 6, i, none⟩) hk _
  exact ⟨far (by omega) h.b0, far (by omega) h.b1, far (by omega) h.b2, far (by omega) h.b3, far (by omega) h.b4, h.row.farCell (p := ⟨b + 6, i, none⟩) (fun e => by have := h.own _ e; simp only at this; omega) _, h.own, far (by omega) h.b5, h.b6.set i _, h.chg.setCell (p := ⟨b + 6, i, none⟩) (.inr (by show w.heap.size ≤ b + 6; omega)) _, by have := h.top; simpa [World.setCell] using this⟩
theorem LieJ.pushed (h : LieJ w b p q E last v n ids W) (hb : w.heap.size ≤ b) {x : Value} (hR : Row W' 3 1 v' (n + 1) (ids ++ [x])) (hC : Chg v.ownBlock.toList W W') (hO : v'.ownBlock = v.ownBlock ∨ v'.ownBlock = some W.heap.size) :
    LieJ w b p q E last v' (n + 1) (ids ++ [x]) (W'.setCell ⟨b + 4, 0, none⟩ v') := by
  have top := h.top
  have nin : ∀ k, k ≤ b + 7 → k ∉ v.ownBlock.toList := fun k hk hm => by have := h.own k (Option.mem_toList.1 hm); omega
  have own' : ∀ g, v'.ownBlock = some g → b + 8 ≤ g := fun g hg => by
    rcases hO with e | e
    · rw [e] at hg; exact h.own g hg
    · rw [e] at hg; cases hg; omega
  have far : ∀ {k : Nat} {t : TypeId} {cs : List Value}, k ≤ b + 7 → k ≠ b + 4 → Blk W k t cs → Blk (W'.setCell ⟨b + 4, 0, none⟩ v') k t cs := fun hk hne hb => (hb.chg hC (nin _ hk)).far (p := ⟨b + 4, 0, none⟩) hne _
  refine ⟨far (by omega) (by omega) h.b0, far (by omega) (by omega) h.b1, far (by omega) (by omega) h.b2, far (by omega) (by omega) h.b3, (h.b4.chg hC (nin _ (by omega))).set 0 v', hR.farCell (p := ⟨b + 4, 0, none⟩) (fun e => by have := own' _ e; simp only at this; omega) _, own', far (by omega) (by omega) h.b5, far (by omega) (by omega) h.b6, ?_, ?_⟩
  · exact (h.chg.then hC (fun x hx => .inr (by have := h.own x (Option.mem_toList.1 hx); omega))).setCell (p := ⟨b + 4, 0, none⟩) (.inr (by show w.heap.size ≤ b + 4; omega)) _
  · have := hC.size
    have : b + 7 < W'.heap.size := by omega
    simpa [World.setCell] using this
end
end Go.Proofs.Ytgimcpnelogadaa.Sto
