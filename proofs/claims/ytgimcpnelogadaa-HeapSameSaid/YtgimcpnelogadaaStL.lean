/- Chapter 5, the store, by hand: Extents, as an iterator. -/
import Derived.RangeFuncNested
import Derived.RangeFuncBound
import Derived.RangeFuncCalls
import Derived.RangeFuncLeaves
import Derived.RangeFuncBox
import Derived.Shelf.Abstract
import Derived.Shelf.RegionOpen
import Derived.OwnWalkIn
import Derived.TacticsInMore
import Derived.LoopNIn
import Derived.LoopIn
import Derived.WalkMore
import Derived.Test.YtgimcpnelogadaaStK
namespace Go.Proofs.Ytgimcpnelogadaa.Sto
open Go.RowKit Go.Shelf Go.Proofs.Ytgimcpnelogadaa.Mem
set_option linter.unusedVariables false
set_option linter.unusedSimpArgs false
attribute [local go_sem] Oper.semAt_some

/-- An extent as a value. -/
abbrev encE (x : Ext) : Array Value := #[.agg #[.int .i64 (x.id : Int), .int .i64 (x.at_ : Int), .int .i64 (x.len : Int)]]
/-- What a round keeps: rows of extents from block B on. -/
def KpE (B : Nat) (W W' : World) : Prop := ∀ k cs, B ≤ k → Blk W k 114 cs → Blk W' k 114 cs
theorem KpE.trans {B : Nat} {X Y Z : World} (h : KpE B X Y) (k : KpE B Y Z) : KpE B X Z := fun j cs hj hb => k j cs hj (h j cs hj hb)
theorem KpE.put {B : Nat} (W : World) (l : Nat) (o o' : Obj) (h : W.heap[l]? = some o) (h1 : o.isCells = false) : KpE B W (W.putObj l o') := fun k cs _ hb => by
  have hk : k ≠ l := fun e => by
    subst e
    have := h.symm.trans hb
    cases this
    cases h1
  exact hb.keep (World.putObj_heap_other hk)
theorem chg_grown {w w' : World} (h : Chg [] w w') : w.grownBy w' none := ⟨h.os, h.tape, h.output, h.size, fun k hk _ => h.block k hk (by simp)⟩

set_option maxRecDepth 100000 in
theorem ext_stops {α : Type} (val : α → Ext) (la : List α) (n : Nat) (hn : 1 ≤ n) (B bx p : Nat) {l : List Ext} (hla : la.map val = l) {allv : Value} (w : World) (hB : B ≤ w.heap.size) (hbx : w.cell? ⟨bx, 0, none⟩ = some (.pointer (some ⟨p, 0, none⟩))) (hp : w.cell? ⟨p, 1, none⟩ = some allv)
    (hA : Row w 114 3 allv l.length (rowV l)) (hl : l.length ≤ 1000000000) :
    SeqStopsK Fence.wide n Try.prog 77 #[.pointer (some ⟨bx, 0, none⟩)] (fun x => encE (val x)) (KpE B) (fun ys => ys = la) (fun pre => pre <+: la) la.length w := fun ll J Jx W hW hJ hJx hY h0 => by
  have hlen : la.length = l.length := by rw [← hla, List.length_map]
  have b0 := cell_below hW hbx
  have p0 := cell_below hW hp
  have C := Aside.mk (clone_calls (hA.chg (Chg.of_below (F := []) hW) (by simp)) hl)
  have HB := Aside.mk (Nat.le_trans hB hW.size)
  have HJ := Aside.mk hJ
  have HY := Aside.mk hY
  obtain ⟨aa, ac, rfl⟩ := Row_form hA
  clear hbx hp hA hB hW hJ hJx hY
  refine callsIn_of_wp Try.func77 rfl trivial ?_ rfl
  simp only [Try.ntmps77, List.size_toArray, List.length_cons, List.length_nil, Nat.reduceAdd, Nat.reduceSub, Array.replicate_succ, Array.replicate_zero, List.push_toArray, List.append_toArray, List.nil_append, List.cons_append]
  gi_wp2_with (refine ⟨trivial, ?_⟩; gi_at_call 78; refine (callsIn_wide.2 C.out).mono ?_; rintro e w1 ⟨v', rfl, hR, hc, hf⟩; obtain ⟨a1, c1, rfl⟩ := Row_form hR)
  have HR := Aside.mk hR
  have HF := Aside.mk hf
  have HC := Aside.mk hc
  clear hR hf hc b0 p0
  gi_loopw [11] (fun i wr => ∃ k : Nat, i = .int .i64 (k : Int) ∧ k ≤ l.length ∧ Aside (J (la.take k) wr) ∧ Aside (Row wr 114 3 (.slice a1 l.length c1) l.length (rowV l)) ) (fun i _ => l.length - (intOf i).toNat)
  case atStart => exact ⟨0, rfl, Nat.zero_le _, ⟨HJ.out _ _ _ none h0 (chg_grown HC.out) (by simp)⟩, HR⟩
  case round =>
    obtain ⟨k, rfl, hk, HJ1, HR1⟩ := hrel
    by_cases c : k < l.length
    · rcases HR1.out.cases with ⟨h1, h2, _⟩ | ⟨g, cap, rest, h1, hb, hn', hcap', hlen'⟩
      · exact absurd h2 (by omega)
      cases h1
      have HX := Aside.mk (And.intro hn' (And.intro hcap' hlen'))
      clear hn' hcap' hlen'
      obtain ⟨r0, r1, r2⟩ := rowV_get l c
      have k0 := hb.cellAt (List.getElem?_append_left_some (b := rest) r0)
      have k1 := hb.cellAt (List.getElem?_append_left_some (b := rest) r1)
      have k2 := hb.cellAt (List.getElem?_append_left_some (b := rest) r2)
      have hgB : B ≤ g := Nat.le_trans HB.out (HF.out g rfl)
      have hc' : (k : Int) < (l.length : Int) := by omega
      obtain ⟨W2, hW2⟩ : ∃ W2, W2 = wr.alloc (.cells #[.int .i64 (l[k].id : Int), .int .i64 (l[k].at_ : Int), .int .i64 (l[k].len : Int)] 114) := ⟨_, rfl⟩
      have ca : k < la.length := by omega
      have hval : val la[k] = l[k] := by subst hla; simp
      have hJ2 : J (la.take k) W2 := by rw [hW2]; exact HJ.out _ _ _ none HJ1.out (World.grownBy_alloc _ _ none) (by simp)
      have hb2 : Blk W2 g 114 (rowV l ++ rest) := by rw [hW2]; exact hb.alloc _
      obtain ⟨fn, tmps, assign, body, hy, hR⟩ := HY.out (la.take k) la[k] W2 hJ2 (by simp; omega)
      rw [hval] at hy
      have HW := Aside.mk hW2
      rw [hW2] at hy
      have HB2 := Aside.mk hb
      clear hb hW2 hJ2 hb2
      gi_wp2
      rw [HW.out] at hR
      refine hR.mono ?_
      rintro e W3 (⟨rfl, hJ3, hk3⟩ | ⟨rfl, hJx3⟩)
      · have hb3 := hk3 g _ hgB (HB2.out.alloc _)
        gi_wp2
        go_roundw
        case rel =>
          refine ⟨k + 1, by go_num, by omega, ⟨?_⟩, ⟨Row.mk hb3 (rowV_length l) HX.out.1 HX.out.2.1 HX.out.2.2⟩⟩
          rw [List.take_succ_eq_append_getElem ca]; exact hJ3
        case measure => simp [intOf]; omega
      · gi_wp2
        refine bodyPost_ret (results_none rfl _ _ _) rfl ?_
        refine ⟨⟨_, rfl⟩, .inr ⟨_, ?_, hJx3⟩⟩
        rw [← List.take_succ_eq_append_getElem ca]
        exact List.take_prefix _ _
    · gi_wp2
      obtain rfl : k = l.length := by omega
      go_end0
      refine ⟨⟨_, rfl⟩, .inl ⟨la, rfl, ?_⟩⟩
      have := HJ1.out
      rwa [List.take_of_length_le (by omega)] at this
end Go.Proofs.Ytgimcpnelogadaa.Sto
