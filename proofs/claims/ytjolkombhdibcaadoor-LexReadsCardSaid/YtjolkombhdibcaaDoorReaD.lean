/- Packed by a program of this session (wip/tools/pack.py): the declarations of its texts that this claim needs. Not trusted: Lean checks it. -/
import Derived.Test.YtjolkombhdibcaaDoorReaC
import Derived.RangeFuncNested
import Derived.RangeFuncBound
import Derived.RangeFuncCalls
import Derived.RangeFuncLeaves
import Derived.RangeFuncBox
import Derived.Shelf.Abstract
import Derived.Shelf.RegionOpen
import Derived.OwnWalkIn
import Derived.TacticsInMore
import Derived.LoopNIn
import Derived.LoopIn
import Derived.WalkMore
section
namespace Go.Proofs.YtjolkombhdibcaaDoor.Given
open Go.RowKit Go.Shelf Go.Proofs.YtjolkombhdibcaaDoorW.PrintWords Go.Proofs.YtjolkombhdibcaaDoorW.PrintMore Go.Proofs.YtjolkombhdibcaaDoor.Print Go.Proofs.YtjolkombhdibcaaDoor.Sp
set_option linter.unusedVariables false
set_option linter.unusedSimpArgs false
attribute [local go_sem] Oper.semAt_some
abbrev enE (x : E) : Array Value := #[.agg #[.int .i64 x.1.f0, .int .i64 x.1.f1, .string x.1.f2, .int .i64 x.1.f3, .int .u64 x.1.f4], .agg #[.int .i64 x.2.1, .int .i64 x.2.2]]
def KpT (n0 Bn : Nat) (W W' : World) : Prop := Below n0 W W' ∧ W'.cell? ⟨Bn, 0, none⟩ = W.cell? ⟨Bn, 0, none⟩
theorem wide_scope {n : Nat} {P : Program} {c : Code} {Q : Exit → Act → World → Prop} {a : Act} {w : World} (h : c.wpIn Fence.wide n P (Exit.noGoto Q) a w) : (Code.scope c).wpIn Fence.wide n P Q a w :=
  wpIn_wide.2 (wp_scope_straight (wpIn_wide.1 h))
theorem lexNext_plain (S : ByteArray) (k : Nat) (hk : k < S.size) (hS : S.size ≤ 1000000) {a1 a2 a4 a5 a6 a7 : Int} {a3 : ByteArray} (ht : nextT (S.data.toList.drop k) = (a1, a2, a3, a4, a5, a6, a7)) (W : World) (hG : Glob W) :
    Calls Tryd.prog 20 #[.string (S.extract k S.size)] W fun e w' => e = .returned (.tuple #[.agg #[.int .i64 a1, .int .i64 a2, .string a3, .int .i64 a4, .int .u64 a5], .int .i64 a6, .int .i64 a7]) ∧ Below W.heap.size W w' := by
  have hd := drop_cons' S k hk
  have hx : S.extract k S.size = bs (S.data.toList.drop k) := bs_from S.data.toList k
  have hl : (S.data.toList.drop k).length ≤ 1000000 := by simp; omega
  rw [hd] at ht hx hl
  obtain ⟨K, hK⟩ := next_ev _ _ hl
  have hf : lex_next.f K (bs (S[k] :: S.data.toList.drop (k + 1))) = some (nextT (S[k] :: S.data.toList.drop (k + 1))) := hK K (Nat.le_refl K)
  rw [ht] at hf
  rw [hx]
  exact lex_next.calls K _ _ _ _ _ _ _ _ W hG hf
set_option maxRecDepth 100000 in
set_option maxHeartbeats 2000000 in
theorem toks1 (n : Nat) (hn : 1 ≤ n) (l Bn n0 : Nat) (S : ByteArray) (hS : S.size ≤ 65536) (J Jx : List E → World → Prop) (W : World)
    (hJ : AbidesFrom W.heap.size J)
    (hY : ∀ pre x W1, J pre W1 → pre.length < (toks S.data.toList 0).length → YieldAt Fence.wide (n - 1) Tryd.prog l (enE x) W1 fun e W' =>
      (e = .returned (.bool true) ∧ J (pre ++ [x]) W' ∧ KpT n0 Bn W1 W') ∨ (e = .returned (.bool false) ∧ Jx (pre ++ [x]) W'))
    (hG : Glob W) (hGn : ∀ A B, Glob A → Below n0 A B → Glob B) (hBox : W.cell? ⟨Bn, 0, none⟩ = some (.string S)) (h0 : J [] W) :
    CallsIn Fence.wide n Tryd.prog 17 #[.func (.yield l) #[] #[], .pointer (some ⟨Bn, 0, none⟩)] W fun e W' => (∃ v, e = .returned v) ∧
      ((∃ ys, ys = toks S.data.toList 0 ∧ J ys W') ∨ (∃ pre, pre <+: toks S.data.toList 0 ∧ Jx pre W')) := by
  have hu30 := Tryd.underlying30
  have hu25 := Tryd.underlying25
  have hsz : ((S.size : Int) > 65536) = False := eq_false (by omega)
  refine callsIn_of_wp Tryd.func17 rfl trivial ?_ rfl
  simp only [Tryd.ntmps17, List.size_toArray, List.length_cons, List.length_nil, Nat.reduceAdd, Nat.reduceSub, Array.replicate_succ, Array.replicate_zero, List.push_toArray, List.append_toArray, List.nil_append, List.cons_append]
  have keep : ∀ (pre : List E) (A B : World), (J pre A ∧ Glob A ∧ A.cell? ⟨Bn, 0, none⟩ = some (.string S)) → Below A.heap.size A B → (J pre B ∧ Glob B ∧ B.cell? ⟨Bn, 0, none⟩ = some (.string S)) :=
    fun pre A B h hb => ⟨hJ _ A B none h.1 (grown_of_below hb none) (by simp), h.2.1.at_ hb, pw_cell_below hb h.2.2⟩
  have KEEP := Aside0.mk keep
  clear keep
  refine wide_scope ?_
  gi_wp2
  apply wpIn_label
  gi_wp2
  gi_loopw [3] (fun p wr => ∃ k : Nat, p = .int .i64 k ∧ k ≤ S.size ∧ (∃ pre, Aside0 (J pre wr ∧ Glob wr ∧ wr.cell? ⟨Bn, 0, none⟩ = some (.string S)) ∧ toks S.data.toList 0 = pre ++ toks (S.data.toList.drop k) k)) (fun p _ => S.size - (intOf p).toNat)
  case atStart => exact ⟨0, rfl, Nat.zero_le _, [], ⟨h0, hG, hBox⟩, by simp⟩
  case round =>
    obtain ⟨k, rfl, hk, pre, hS0, hL⟩ := hrel
    have hBr := hS0.out.2.2
    by_cases hlt : k < S.size
    · have hd := drop_cons' S k hlt
      have hsl : S.size ≤ 9223372036854775807 := by omega
      by_cases e32 : (S[k].toNat : Int) = 32
      · have f32 : ((S[k].toNat : Int) == 32) = true := beq_iff_eq.2 e32
        have HN' := Aside0.mk (show toks S.data.toList 0 = pre ++ toks (S.data.toList.drop (k + 1)) (k + 1) by
          rw [hL, hd, toks_blank (by rw [show S[k] = 32 from u8_eq (n := 32) e32 (by decide)]; exact Or.inl rfl)])
        clear e32 hL hd
        gi_wp2
        go_roundw
        case rel => exact ⟨k + 1, by go_num, by omega, ⟨pre, hS0, HN'.out⟩⟩
        case measure => simp [intOf]; omega
      have f32 : ((S[k].toNat : Int) == 32) = false := beq_eq_false_iff_ne.2 e32
      by_cases e9 : (S[k].toNat : Int) = 9
      · have f9 : ((S[k].toNat : Int) == 9) = true := beq_iff_eq.2 e9
        have HN' := Aside0.mk (show toks S.data.toList 0 = pre ++ toks (S.data.toList.drop (k + 1)) (k + 1) by
          rw [hL, hd, toks_blank (by rw [show S[k] = 9 from u8_eq (n := 9) e9 (by decide)]; exact Or.inr (Or.inl rfl))])
        clear e9 hL hd
        gi_wp2
        go_roundw
        case rel => exact ⟨k + 1, by go_num, by omega, ⟨pre, hS0, HN'.out⟩⟩
        case measure => simp [intOf]; omega
      have f9 : ((S[k].toNat : Int) == 9) = false := beq_eq_false_iff_ne.2 e9
      by_cases e10 : (S[k].toNat : Int) = 10
      · have f10 : ((S[k].toNat : Int) == 10) = true := beq_iff_eq.2 e10
        have HN' := Aside0.mk (show toks S.data.toList 0 = pre ++ toks (S.data.toList.drop (k + 1)) (k + 1) by
          rw [hL, hd, toks_blank (by rw [show S[k] = 10 from u8_eq (n := 10) e10 (by decide)]; exact Or.inr (Or.inr rfl))])
        clear e10 hL hd
        gi_wp2
        go_roundw
        case rel => exact ⟨k + 1, by go_num, by omega, ⟨pre, hS0, HN'.out⟩⟩
        case measure => simp [intOf]; omega
      have f10 : ((S[k].toNat : Int) == 10) = false := beq_eq_false_iff_ne.2 e10
      by_cases e35 : (S[k].toNat : Int) = 35
      · have f35 : ((S[k].toNat : Int) == 35) = true := beq_iff_eq.2 e35
        have hc : S[k] = 35 := u8_eq (n := 35) e35 (by decide)
        obtain ⟨q, hq⟩ : ∃ q, Given.runN lineB (S.data.toList.drop (k + 1)) = q := ⟨_, rfl⟩
        have hqle : q ≤ S.size - (k + 1) := by have := runN_le lineB (S.data.toList.drop (k + 1)); rw [hq] at this; simpa using this
        have HN' := Aside0.mk (show toks S.data.toList 0 = pre ++ toks (S.data.toList.drop (k + (1 + q))) (k + (1 + q)) by
          rw [hL, hd, hc, toks_hash, hq, List.drop_drop, show k + 1 + q = k + (1 + q) by omega])
        have hrun : ∀ W, Calls Tryd.prog 18 #[.string S, .int .i64 k, .func (.func 19) #[] #[]] W fun e w' => e = .returned (.int .i64 ((1 + q : Nat) : Int)) ∧ Drawn0 W w' := fun W => lex_run.calls19 S k _ W (by
          unfold lex_run.f
          have hrunF : runF 8800000019 = lineB := rfl
          rw [if_pos ⟨by omega, by omega, by unfold maxLen; omega⟩, Int.toNat_natCast, hrunF, hd, hc, run_cons (by decide), hq])
        have HRUN := Aside0.mk hrun
        clear e35 hc hL hd hq hrun
        gi_wp2_with (refine ⟨trivial, ?_⟩; gi_at_call 18; refine (callsIn_wide.2 (HRUN.out _)).mono ?_; rintro e w' ⟨rfl, hdr⟩)
        go_roundw
        case rel => exact ⟨k + (1 + q), by go_num, by omega, ⟨pre, ⟨KEEP.out _ _ _ hS0.out hdr.below⟩, HN'.out⟩⟩
        case measure => simp [intOf]; omega
      have f35 : ((S[k].toNat : Int) == 35) = false := beq_eq_false_iff_ne.2 e35
      obtain ⟨a1, a2, a3, a4, a5, a6, a7, ht⟩ : ∃ a1 a2 a3 a4 a5 a6 a7, nextT (S.data.toList.drop k) = (a1, a2, a3, a4, a5, a6, a7) := ⟨_, _, _, _, _, _, _, rfl⟩
      have HX := Aside0.mk (lexNext_plain S k hlt (by omega) ht)
      have hnb : ¬ Sp.blank S[k] := by
        rintro (h | h | h)
        · exact e32 (by rw [h]; rfl)
        · exact e9 (by rw [h]; rfl)
        · exact e10 (by rw [h]; rfl)
      have hn35 : S[k] ≠ 35 := fun h => e35 (by rw [h]; rfl)
      rw [hd] at ht
      have HY := Aside0.mk hY
      by_cases h7 : a7 = 0
      · subst h7
        have hte : te (nextT (S[k] :: S.data.toList.drop (k + 1))) = 0 := by rw [ht]; rfl
        obtain ⟨q, hq, hq1, hq2⟩ := next_n _ _ hte
        have hq6 : a6 = q := by rw [ht] at hq; exact hq
        subst hq6
        have hqle : k + q ≤ S.size := by
          rw [← hd, List.length_drop] at hq2
          have : S.data.toList.length = S.size := by simp
          omega
        have HN' := Aside0.mk (show toks S.data.toList 0 = (pre ++ [((⟨a1, k, a3, a4, a5⟩ : S30), (0 : Int), (0 : Int))]) ++ toks (S.data.toList.drop (k + q)) (k + q) by
          rw [hL, hd, toks_tok hnb hn35 _ k q hte hq, ← hd, List.drop_drop, hd, ht]; simp [tk])
        have HLEN := Aside0.mk (show pre.length < (toks S.data.toList 0).length by rw [HN'.out]; simp)
        clear e32 e9 e10 e35 hd ht hte hq hq2 hnb hn35 hL
        gi_wp2_with (refine ⟨trivial, ?_⟩; gi_at_call 20; refine (callsIn_wide.2 (HX.out _ hS0.out.2.1)).mono ?_; rintro e w1 ⟨rfl, hb⟩; have hS1 := KEEP.out _ _ _ hS0.out (below_alloc hb (.cells #[.int .i64 a1, .int .i64 k, .string a3, .int .i64 a4, .int .u64 a5] 30)); obtain ⟨fn, tmps, assign, body, hy, hR⟩ := HY.out pre ((⟨a1, k, a3, a4, a5⟩ : S30), (0 : Int), (0 : Int)) _ hS1.1 HLEN.out; dsimp only [enE] at hy)
        refine hR.mono ?_
        rintro e W3 (⟨rfl, hJ3, hk3⟩ | ⟨rfl, hJx3⟩)
        · have hS3 := Aside0.mk (show J _ W3 ∧ Glob W3 ∧ W3.cell? ⟨Bn, 0, none⟩ = some (.string S) from ⟨hJ3, hGn _ _ hS1.2.1 hk3.1, hk3.2.trans hS1.2.2⟩)
          gi_wp2
          go_roundw
          case rel => exact ⟨k + q, by go_num, by omega, _, hS3, HN'.out⟩
          case measure => simp [intOf]; omega
        · have HP := Aside0.mk (show pre ++ [((⟨a1, k, a3, a4, a5⟩ : S30), (0 : Int), (0 : Int))] <+: toks S.data.toList 0 by rw [HN'.out]; exact List.prefix_append _ _)
          gi_wp2
          rw [Exit.noGoto_ret]
          refine bodyPost_ret (results_none rfl _ _ _) rfl ?_
          exact ⟨⟨_, rfl⟩, .inr ⟨_, HP.out, hJx3⟩⟩
      · have f7 : (a7 == 0) = false := beq_eq_false_iff_ne.2 h7
        have g7 : (a7 != 0) = true := bne_iff_ne.2 h7
        have HN' := Aside0.mk (show toks S.data.toList 0 = pre ++ [(z30, a7, (k : Int))] by
          rw [hL, hd, toks_bad hnb hn35 _ k (by rw [ht]; exact h7), ht]; rfl)
        have HLEN := Aside0.mk (show pre.length < (toks S.data.toList 0).length by rw [HN'.out]; simp)
        clear e32 e9 e10 e35 h7 hd ht hnb hn35 hL
        gi_wp2_with (refine ⟨trivial, ?_⟩; gi_at_call 20; refine (callsIn_wide.2 (HX.out _ hS0.out.2.1)).mono ?_; rintro e w1 ⟨rfl, hb⟩; have hS1 := KEEP.out _ _ _ hS0.out (below_alloc hb (.cells #[.int .i64 a1, .int .i64 a2, .string a3, .int .i64 a4, .int .u64 a5] 30)); obtain ⟨fn, tmps, assign, body, hy, hR⟩ := HY.out pre (z30, a7, (k : Int)) _ hS1.1 HLEN.out; dsimp only [enE, z30] at hy)
        refine hR.mono ?_
        rintro e W3 (⟨rfl, hJ3, hk3⟩ | ⟨rfl, hJx3⟩)
        · gi_wp2
          rw [Exit.noGoto_ret]
          refine bodyPost_ret (results_none rfl _ _ _) rfl ?_
          exact ⟨⟨_, rfl⟩, .inl ⟨_, rfl, by rw [HN'.out]; exact hJ3⟩⟩
        · gi_wp2
          rw [Exit.noGoto_ret]
          refine bodyPost_ret (results_none rfl _ _ _) rfl ?_
          exact ⟨⟨_, rfl⟩, .inr ⟨_, by rw [HN'.out]; exact List.prefix_rfl, hJx3⟩⟩
    · obtain rfl : k = S.size := by omega
      have HN' := Aside0.mk (show toks S.data.toList 0 = pre ++ [endE S.size] by
        rw [hL, List.drop_eq_nil_of_le (by simp), toks_nil])
      have HLEN := Aside0.mk (show pre.length < (toks S.data.toList 0).length by rw [HN'.out]; simp)
      obtain ⟨fn, tmps, assign, body, hy, hR⟩ := hY pre (endE S.size) wr hS0.out.1 HLEN.out
      dsimp only [enE, endE] at hy
      gi_wp2
      refine hR.mono ?_
      rintro e W3 (⟨rfl, hJ3, hk3⟩ | ⟨rfl, hJx3⟩)
      · gi_wp2
        rw [Exit.noGoto_normal]
        go_end0
        exact ⟨⟨_, rfl⟩, .inl ⟨_, rfl, by rw [HN'.out]; exact hJ3⟩⟩
      · gi_wp2
        rw [Exit.noGoto_normal]
        go_end0
        exact ⟨⟨_, rfl⟩, .inr ⟨_, by rw [HN'.out]; exact List.prefix_rfl, hJx3⟩⟩
end Go.Proofs.YtjolkombhdibcaaDoor.Given
end
section
namespace Go.Proofs.YtjolkombhdibcaaDoor.Given
open Go.RowKit Go.Shelf Go.Proofs.YtjolkombhdibcaaDoorW.PrintWords Go.Proofs.YtjolkombhdibcaaDoorW.PrintMore Go.Proofs.YtjolkombhdibcaaDoor.Print Go.Proofs.YtjolkombhdibcaaDoor.Sp
set_option linter.unusedVariables false
set_option linter.unusedSimpArgs false
attribute [local go_sem] Oper.semAt_some
theorem Glob.atN {B : Nat} {w w' : World} (h : Glob w) (hn : 5 ≤ B) (hb : Below B w w') : Glob w' := by
  obtain ⟨h1, h2, ⟨t3, p3, h3⟩, ⟨t4, p4, h4⟩, h5⟩ := h
  refine ⟨var?_below hb g_pow (by omega) h1, fun j hj => ?_, ⟨t3, p3, var?_below hb g_syn (by omega) h3⟩, ⟨t4, p4, var?_below hb g_rng (by omega) h4⟩, Nat.le_trans h5 hb.size⟩
  rw [hb.cell (p := ⟨0, j, none⟩) (by simp; omega)]; exact h2 j hj
theorem KpT.trans {n0 Bn : Nat} {A B C : World} (h : KpT n0 Bn A B) (k : KpT n0 Bn B C) : KpT n0 Bn A C := ⟨h.1.trans k.1, k.2.trans h.2⟩
theorem KpT.put {n0 Bn : Nat} {w : World} (hn : n0 ≤ w.heap.size) (hB : Bn < w.heap.size) (W : World) (l : Nat) (o o' : Obj) (hl : w.heap.size ≤ l) (h : W.heap[l]? = some o) (h1 : o.isCells = false) (h2 : o.isWalk = false) : KpT n0 Bn W (W.putObj l o') :=
  ⟨belowK_b hn W l o o' hl h h1 h2, World.cell?_of_block (World.putObj_heap_other (by show Bn ≠ l; omega))⟩
set_option maxRecDepth 100000 in
set_option maxHeartbeats 1000000 in

theorem toks0 (n : Nat) (hn : 1 ≤ n) (l Bn n0 : Nat) (S : ByteArray) (hS : 65536 < S.size) (J Jx : List E → World → Prop) (W : World)
    (hY : ∀ pre x W1, J pre W1 → pre.length < 1 → YieldAt Fence.wide (n - 1) Tryd.prog l (enE x) W1 fun e W' =>
      (e = .returned (.bool true) ∧ J (pre ++ [x]) W' ∧ KpT n0 Bn W1 W') ∨ (e = .returned (.bool false) ∧ Jx (pre ++ [x]) W'))
    (hBox : W.cell? ⟨Bn, 0, none⟩ = some (.string S)) (h0 : J [] W) :
    CallsIn Fence.wide n Tryd.prog 17 #[.func (.yield l) #[] #[], .pointer (some ⟨Bn, 0, none⟩)] W fun e W' => (∃ v, e = .returned v) ∧
      ((∃ ys, ys = [((z30, 2, 0) : E)] ∧ J ys W') ∨ (∃ pre, pre <+: [((z30, 2, 0) : E)] ∧ Jx pre W')) := by
  have hu30 := Tryd.underlying30
  have hu25 := Tryd.underlying25
  refine callsIn_of_wp Tryd.func17 rfl trivial ?_ rfl
  simp only [Tryd.ntmps17, List.size_toArray, List.length_cons, List.length_nil, Nat.reduceAdd, Nat.reduceSub, Array.replicate_succ, Array.replicate_zero, List.push_toArray, List.append_toArray, List.nil_append, List.cons_append]
  obtain ⟨fn, tmps, assign, body, hy, hR⟩ := hY [] (z30, 2, 0) W h0 (by simp)
  dsimp only [enE, z30] at hy
  have hsz : decide (65536 < S.size) = true := decide_eq_true hS
  refine wide_scope ?_
  gi_wp2
  refine hR.mono ?_
  rintro e W3 (⟨rfl, hJ3, hk3⟩ | ⟨rfl, hJx3⟩)
  · gi_wp2
    rw [Exit.noGoto_ret]
    refine bodyPost_ret (results_none rfl _ _ _) rfl ?_
    exact ⟨⟨_, rfl⟩, .inl ⟨_, rfl, hJ3⟩⟩
  · gi_wp2
    rw [Exit.noGoto_ret]
    refine bodyPost_ret (results_none rfl _ _ _) rfl ?_
    exact ⟨⟨_, rfl⟩, .inr ⟨_, List.prefix_rfl, hJx3⟩⟩
theorem tokens_stops (n : Nat) (hn : 1 ≤ n) (Bn n0 : Nat) (S : ByteArray) (w : World) (hBox : w.cell? ⟨Bn, 0, none⟩ = some (.string S)) (hn0 : 5 ≤ n0) (hG : Glob w) :
    SeqStopsK Fence.wide n Tryd.prog 17 #[.pointer (some ⟨Bn, 0, none⟩)] enE (KpT n0 Bn) (fun ys => ys = seqT S.data.toList) (fun pre => pre <+: seqT S.data.toList) (seqT S.data.toList).length w := fun l J Jx W hW hJ hJx hY h0 => by
  have hb := pw_cell_below hW hBox
  have hGW := hG.at_ hW
  have hl : S.data.toList.length = S.size := by simp
  by_cases hS : 65536 < S.size
  · have hq : seqT S.data.toList = [(z30, 2, 0)] := by unfold seqT; rw [if_pos (by omega)]
    rw [hq] at hY ⊢
    exact toks0 n hn l Bn n0 S hS J Jx W hY hb h0
  · have hq : seqT S.data.toList = toks S.data.toList 0 := by unfold seqT; rw [if_neg (by omega)]
    rw [hq] at hY ⊢
    exact toks1 n hn l Bn n0 S (by omega) J Jx W hJ hY hGW (fun A B h k => h.atN hn0 k) hb h0
set_option maxHeartbeats 1000000 in
theorem lex_Tokens.calls (S : ByteArray) (w : World) :
    Calls Tryd.prog 10 #[.string S] w fun e w' => e = .returned (.func (.func 17) #[] #[.pointer (some ⟨w.heap.size, 0, none⟩)]) ∧ w' = w.alloc (.cells #[.string S] 9) := by
  go_enter Tryd.func10, Tryd.ntmps10
  go_wp2
  go_ret
  exact ⟨rfl, rfl⟩
end Go.Proofs.YtjolkombhdibcaaDoor.Given
end
section
namespace Go.Proofs.YtjolkombhdibcaaDoor.Given
open Go.RowKit Go.Shelf Go.Proofs.YtjolkombhdibcaaDoorW.PrintWords Go.Proofs.YtjolkombhdibcaaDoorW.PrintMore Go.Proofs.YtjolkombhdibcaaDoor.Print Go.Proofs.YtjolkombhdibcaaDoor.Sp
set_option linter.unusedVariables false
set_option linter.unusedSimpArgs false
attribute [local go_sem] Oper.semAt_some
def cellsT (x : S30) : List Value := [.int .i64 x.f0, .int .i64 x.f1, .string x.f2, .int .i64 x.f3, .int .u64 x.f4]
def flatT (xs : List S30) : List Value := xs.flatMap cellsT
theorem flatT_snoc (xs : List S30) (x : S30) : flatT (xs ++ [x]) = flatT xs ++ cellsT x := by simp [flatT]
theorem reps_flat (w : World) (base : Nat) (ok : Nat → Prop) : ∀ (ys xs : List S30), Reps (k30.M w base ok) 5 xs (flatT xs) → Reps (k30.M w base ok) 5 (xs ++ ys) (flatT (xs ++ ys))
  | [], xs, h => by simpa using h
  | y :: ys, xs, h => by
    have h1 := h.snoc (k30_mkM w base ok y) rfl
    have h2 := reps_flat w base ok ys (xs ++ [y]) (by rw [flatT_snoc]; exact h1)
    rw [List.append_assoc] at h2
    exact h2
theorem row_flat {w : World} {base : Nat} {v : Value} {xs : List S30} (h : w.ownsRow base 30 5 v xs.length (flatT xs)) : Kd.R k30 30 w base (fun _ => True) v xs :=
  ⟨fun _ _ => trivial, flatT xs, h, by have := reps_flat w base (fun k => True ∧ some k ≠ v.ownBlock) xs [] (Reps.none _ _); rw [List.nil_append] at this; exact this⟩
def BoxN (W : World) (B : Nat) (t : TypeId) (cs : Array Value) : Prop := W.heap[B]? = some (.cells cs t (0, 0))
theorem boxN_own {β : Type} (B : Nat) (t : TypeId) (f : β → Array Value) : Own (fun s W => BoxN W B t (f s)) := fun s X Y row hs hg hrow =>
  blk_grown (show X.heap[B]? = _ from hs) hg (fun e' => by obtain ⟨o, ho, hc⟩ := hrow B e'.symm; rw [show X.heap[B]? = _ from hs] at ho; cases ho; cases hc)
theorem BoxN.not_row {W : World} {B : Nat} {t e : TypeId} {cs : Array Value} (h : BoxN W B t cs) (hte : t ≠ e) {base size k : Nat} {v : Value} {xs : List Value} (hr : W.ownsRow base e size v k xs) : some B ≠ v.ownBlock := fun e' => by
  obtain ⟨cells, hc⟩ := own_typed hr B e'.symm
  rw [show W.heap[B]? = _ from h] at hc
  simp at hc
  exact hte hc.2
theorem BoxN.appended {W w1 : World} {B B4 base k : Nat} {t : TypeId} {cs : Array Value} {v v' : Value} {xs : List Value} {tmp : Obj} (h : BoxN W B t cs) (hte : t ≠ 30) (hrow : W.ownsRow base 30 5 v k xs) (hg : (W.alloc tmp).grownBy w1 v.ownBlock) (hne : B ≠ B4) :
    BoxN (w1.setCell ⟨B4, 0, none⟩ v') B t cs := blk_far (blk_grown (blk_alloc h tmp) hg (h.not_row hte hrow)) hne _
theorem grownBy_cell (W : World) (b j : Nat) (v : Value) : W.grownBy (W.setCell ⟨b, j, none⟩ v) (some b) :=
  ⟨rfl, rfl, rfl, (KeepsWalks.setCell W _ v).size, fun k _ hk => Below.heap_setCell _ _ _ k (fun e => hk (by rw [e]))⟩
set_option maxRecDepth 100000 in
set_option maxHeartbeats 4000000 in
theorem all_any (S : ByteArray) (hS : S.size ≤ 1000000) (w : World) (hG : Glob w) :
    Calls Tryd.prog 9 #[.string S] w fun e W' => ∃ v, e = .returned (.tuple #[v, .agg #[.int .i64 (allT S.data.toList).2.1, .int .i64 (allT S.data.toList).2.2]]) ∧
      W'.ownsRow w.heap.size 30 5 v (allT S.data.toList).1.length (flatT (allT S.data.toList).1) ∧ Below w.heap.size w W' := by
  have hu30 := Tryd.underlying30
  have hu25 := Tryd.underlying25
  obtain ⟨i0, hi, hz0, hz1, hz2⟩ := info_parts info30
  refine (callsIn_wide (n := 9)).1 ?_
  refine callsIn_of_wp_marks Tryd.func9 rfl trivial ?_ rfl
  simp only [Tryd.ntmps9, List.size_toArray, List.length_cons, List.length_nil, Nat.reduceAdd, Nat.reduceSub, Array.replicate_succ, Array.replicate_zero, List.push_toArray, List.append_toArray, List.nil_append, List.cons_append]
  gi_wp2_with (refine ⟨trivial, ?_⟩; gi_at_call 10; refine (callsIn_wide.2 (lex_Tokens.calls S _)).mono ?_; rintro e w' ⟨rfl, rfl⟩)
  have b2 : BoxN (w.alloc (.cells #[.slice none 0 0] 22)) w.heap.size 22 #[.slice none 0 0] := blk_new w _
  have b3 := blk_new (w.alloc (.cells #[.slice none 0 0] 22)) (.cells #[.int .i64 0, .int .i64 0] 25)
  have b4 := Boxed.new ((w.alloc (.cells #[.slice none 0 0] 22)).alloc (.cells #[.int .i64 0, .int .i64 0] 25)) 22 (.slice none 0 0)
  have b5 := Boxed.new (((w.alloc (.cells #[.slice none 0 0] 22)).alloc (.cells #[.int .i64 0, .int .i64 0] 25)).alloc (.cells #[.slice none 0 0] 22)) 9 (.string S)
  have b2' := blk_alloc (blk_alloc (blk_alloc b2 (.cells #[.int .i64 0, .int .i64 0] 25)) (.cells #[.slice none 0 0] 22)) (.cells #[.string S] 9)
  have b3' := blk_alloc (blk_alloc b3 (.cells #[.slice none 0 0] 22)) (.cells #[.string S] 9)
  have b4' := b4.alloc (.cells #[.string S] 9)
  have hB0 : Below w.heap.size w ((((w.alloc (.cells #[.slice none 0 0] 22)).alloc (.cells #[.int .i64 0, .int .i64 0] 25)).alloc (.cells #[.slice none 0 0] 22)).alloc (.cells #[.string S] 9)) := below_alloc (below_alloc (below_alloc (below_alloc (Below.refl _ _) _) _) _) _
  have hsz : ((((w.alloc (.cells #[.slice none 0 0] 22)).alloc (.cells #[.int .i64 0, .int .i64 0] 25)).alloc (.cells #[.slice none 0 0] 22)).alloc (.cells #[.string S] 9)).heap.size = w.heap.size + 4 := by simp
  simp only [World.size_alloc] at b3' b4' b5
  clear b2 b3 b4
  generalize (((w.alloc (.cells #[.slice none 0 0] 22)).alloc (.cells #[.int .i64 0, .int .i64 0] 25)).alloc (.cells #[.slice none 0 0] 22)).alloc (.cells #[.string S] 9) = W0 at *
  have h5 := hG.2.2.2.2
  have hG0 := hG.at_ hB0
  refine wpIn_rangeFunc_ownH (α := E) rfl (by omega) (gf := 17) (lb := #[.pointer (some ⟨w.heap.size + 1 + 1 + 1, 0, none⟩)]) rfl trivial (enters_of Tryd.func17 (by kernel_rfl) rfl)
    (tokens_stops (9 - 1) (by omega) (w.heap.size + 1 + 1 + 1) w.heap.size S W0 b5.cell h5 hG0) KpT.trans (KpT.put (by omega) (by omega)) (Below.refl _ _) (fun _ => rfl)
    (fun (pre : List E) W => ((((∃ v, Boxed W (w.heap.size + 1 + 1) 22 v ∧ W.ownsRow w.heap.size 30 5 v pre.length (flatT (pre.map Prod.fst)) ∧ (∀ x ∈ pre, x.2.1 = 0)) ∧ BoxN W w.heap.size 22 #[.slice none 0 0]) ∧ BoxN W (w.heap.size + 1) 25 #[.int .i64 0, .int .i64 0]) ∧ Boxed W (w.heap.size + 1 + 1 + 1) 9 (.string S)) ∧ Below w.heap.size w W)
    (fun c (pre : List E) W => (c = .ret ∧ ∃ (p : List E) (t : S30) (cd a : Int), pre = p ++ [(t, cd, a)] ∧ (∀ x ∈ p, x.2.1 = 0) ∧ cd ≠ 0 ∧ BoxN W w.heap.size 22 #[.slice none 0 0] ∧ BoxN W (w.heap.size + 1) 25 #[.int .i64 cd, .int .i64 a]) ∧ Below w.heap.size w W)
    (OwnFrom.and (OwnFrom.and (OwnFrom.and (OwnFrom.and (Own.from (holdsRow_own w.heap.size (w.heap.size + 1 + 1) 22 30 5 (fun (pre : List E) => pre.length) (fun (pre : List E) => flatT (pre.map Prod.fst)) (fun (pre : List E) _ => ∀ x ∈ pre, x.2.1 = 0)) _) (Own.from (boxN_own _ _ _) _)) (Own.from (boxN_own _ _ _) _)) (Own.from (boxed_own _ _ _) _)) (ownFrom_below (Nat.le_refl _) (by omega)))
    (fun c => OwnFrom.and (Own.from (fun s X Y row hs hg hr => by
      obtain ⟨h1, p, t, cd, a, h2, h3, h4, h5, h6⟩ := hs
      exact ⟨h1, p, t, cd, a, h2, h3, h4, boxN_own _ _ (fun (_ : Unit) => _) () X Y row h5 hg hr, boxN_own _ _ (fun (_ : Unit) => _) () X Y row h6 hg hr⟩) _) (ownFrom_below (Nat.le_refl _) (by omega)))
    ⟨⟨⟨⟨⟨_, b4', World.ownsRow_nil _ _ _ _, by simp⟩, b2'⟩, b3'⟩, b5⟩, hB0⟩
    (fun (x : E) a' W => ∃ Bt Bf, w.heap.size + 3 < Bf ∧ BoxN W Bt 30 (cellsT x.1).toArray ∧ BoxN W Bf 25 #[.int .i64 x.2.1, .int .i64 x.2.2] ∧ a' = { tmps := #[.string S, undef, .pointer (some ⟨w.heap.size, 0, none⟩), .pointer (some ⟨w.heap.size + 1, 0, none⟩), .pointer (some ⟨w.heap.size + 1 + 1, 0, none⟩), .pointer (some ⟨Bt, 0, none⟩), .pointer (some ⟨Bf, 0, none⟩), .string S, .func (.func 17) #[] #[.pointer (some ⟨w.heap.size + 1 + 1 + 1, 0, none⟩)], .agg #[.int .i64 x.1.f0, .int .i64 x.1.f1, .string x.1.f2, .int .i64 x.1.f3, .int .u64 x.1.f4], .agg #[.int .i64 x.2.1, .int .i64 x.2.2], undef, undef, undef, undef, undef, undef, undef, undef, undef, undef], defers := [] })
    (fun x a' _ X Y row hs hg hr => by
      obtain ⟨Bt, Bf, h0, h1, h2, h3⟩ := hs
      exact ⟨Bt, Bf, h0, boxN_own _ _ (fun (_ : Unit) => _) () X Y row h1 hg (fun r e => (hr r e).2), boxN_own _ _ (fun (_ : Unit) => _) () X Y row h2 hg (fun r e => (hr r e).2), h3⟩)
    ?assign ?body ?done ?stop
  case assign =>
    rintro l pre x W K ⟨⟨⟨⟨⟨v, hv, hrow, hz⟩, c2⟩, c3⟩, c5⟩, hB⟩ hK
    gi_wp2
    have hBz := hB.size
    have hb1 : Below w.heap.size W ((W.alloc (.cells (cellsT x.1).toArray 30)).alloc (.cells #[.int .i64 x.2.1, .int .i64 x.2.2] 25)) := ((Below.refl _ W).alloc hBz _).alloc (by simp; omega) _
    have hn := blk_new (W.alloc (.cells (cellsT x.1).toArray 30)) (.cells #[.int .i64 x.2.1, .int .i64 x.2.2] 25)
    rw [World.size_alloc] at hn
    exact hK _ _ (((KeepsOthers.alloc W _).trans (KeepsOthers.alloc _ _)).from _) ⟨hb1, ((c5.alloc _).alloc _).cell.trans c5.cell.symm⟩
      ⟨⟨⟨⟨⟨v, (hv.alloc _).alloc _, (hrow.alloc _).alloc _, hz⟩, blk_alloc (blk_alloc c2 _) _⟩, blk_alloc (blk_alloc c3 _) _⟩, (c5.alloc _).alloc _⟩, hB.trans hb1⟩
      ⟨W.heap.size, W.heap.size + 1, by have := c5.lt; omega, blk_alloc (blk_new W _) _, hn, rfl⟩
  case body =>
    rintro l pre ⟨⟨f0, f1, f2, f3, f4⟩, cd, ad⟩ a' W hl ⟨r, hr⟩ ⟨⟨⟨⟨⟨v, hv, hrow, hz⟩, c2⟩, c3⟩, c5⟩, hB⟩ ⟨Bt, Bf, hBf, bT, bF, rfl⟩ hlt
    have hlen : pre.length ≤ 1000001 := by
      have h1 := seq_le S.data.toList
      have h2 : S.data.toList.length = S.size := by simp
      omega
    have hBz := hB.size
    have t0 : W.cell? ⟨Bt, 0, none⟩ = some (.int .i64 f0) := blk_cell bT 0
    have t1 : W.cell? ⟨Bt, 1, none⟩ = some (.int .i64 f1) := blk_cell bT 1
    have t2 : W.cell? ⟨Bt, 2, none⟩ = some (.string f2) := blk_cell bT 2
    have t3 : W.cell? ⟨Bt, 3, none⟩ = some (.int .i64 f3) := blk_cell bT 3
    have t4 : W.cell? ⟨Bt, 4, none⟩ = some (.int .u64 f4) := blk_cell bT 4
    have u0 : W.cell? ⟨Bf, 0, none⟩ = some (.int .i64 cd) := blk_cell bF 0
    have u1 : W.cell? ⟨Bf, 1, none⟩ = some (.int .i64 ad) := blk_cell bF 1
    have hc := hv.cell
    dsimp only
    by_cases hcd : cd = 0
    · subst hcd
      gi_wp2_with (gi_at_builtin; refine wpListIn_append_own _ rfl _ _ 22 rfl w.heap.size 30 i0 _ 5 48 Tryd.underlying22 hi hz0 hz1 hz2 rfl (by decide) v pre.length _ rfl (hrow.alloc _) ⟨W.heap.size, 0, none⟩ 1 1 (cellsT ⟨f0, f1, f2, f3, f4⟩) rfl rfl (World.news_of_block (cs := (cellsT ⟨f0, f1, f2, f3, f4⟩).toArray) (t := 30) (fr := (0, 0)) (heap_alloc_new W _)) (by simp [cellsT, Value.oneCell']) (by unfold maxLen; omega) (by omega) (by simp; omega) ?_; intro v' w1 hown' hgrow _; obtain ⟨g', cap', rfl⟩ := ownsRow_succ hown'; obtain ⟨hv1, hv2, hr2, hk2, hb2⟩ := hv.appended (by decide) hrow hBz (by omega) hown' hgrow; have hc1 := hv1.cell; have hf1 := hv1.frozen)
      have k2 := c2.appended (B4 := w.heap.size + 1 + 1) (v' := Value.slice (some ⟨g', 0, none⟩) (pre.length + 1) cap') (by decide) hrow hgrow (by omega)
      have k3 := c3.appended (B4 := w.heap.size + 1 + 1) (v' := Value.slice (some ⟨g', 0, none⟩) (pre.length + 1) cap') (by decide) hrow hgrow (by omega)
      have k5 : Boxed (w1.setCell ⟨w.heap.size + 1 + 1, 0, none⟩ (Value.slice (some ⟨g', 0, none⟩) (pre.length + 1) cap')) (w.heap.size + 1 + 1 + 1) 9 (.string S) := BoxN.appended (B4 := w.heap.size + 1 + 1) (v' := Value.slice (some ⟨g', 0, none⟩) (pre.length + 1) cap') c5 (by decide) hrow hgrow (by omega)
      have hz' : ∀ x ∈ pre ++ [(((⟨f0, f1, f2, f3, f4⟩ : S30), (0 : Int), ad) : E)], x.2.1 = 0 := by
        intro x hx
        rcases List.mem_append.1 hx with hx | hx
        · exact hz x hx
        · rw [List.mem_singleton.1 hx]
      exact ⟨hk2.from _, ⟨hb2, k5.cell.trans c5.cell.symm⟩, ⟨⟨⟨⟨_, hv2, by simpa [flatT_snoc] using hr2, fun a_ b_ c_ hx_ => hz' (a_, b_, c_) hx_⟩, k2⟩, k3⟩, k5⟩, hB.trans hb2⟩
    · have f7 : (cd == 0) = false := beq_eq_false_iff_ne.2 hcd
      have g7 : (cd != 0) = true := bne_iff_ne.2 hcd
      have x2 : W.cell? ⟨w.heap.size, 0, none⟩ = some (.slice none 0 0) := blk_cell c2 0
      have x3 : W.cell? ⟨w.heap.size + 1, 0, none⟩ = some (.int .i64 0) := blk_cell c3 0
      have x4 : W.cell? ⟨w.heap.size + 1, 1, none⟩ = some (.int .i64 0) := blk_cell c3 1
      have n2 : (Bf = w.heap.size) = False := eq_false (by omega)
      have n3 : (Bf = w.heap.size + 1) = False := eq_false (by omega)
      have m2 : (w.heap.size = Bf) = False := eq_false (by omega)
      have m3 : (w.heap.size + 1 = Bf) = False := eq_false (by omega)
      have y2 := blk_frozen c2 0
      have y3 := blk_frozen c3 0
      have y4 := blk_frozen c3 1
      gi_wp2
      have hmx : Tryd.prog.follows .mixedOrders = true := by kernel_rfl
      gi_region_with_o (fail)
      all_goals gi_wp2
      all_goals (try go_bits)
      all_goals exact ⟨((((KeepsOthers.setCell W _ _).trans (KeepsOthers.setCell _ _ _)).trans (KeepsOthers.setCell _ _ _)).trans (KeepsOthers.drew _)).from _,
        ⟨rfl, pre, _, cd, ad, rfl, hz, hcd, blk_drew (blk_far (blk_far (blk_set c2 0 _) (by show w.heap.size ≠ w.heap.size + 1; omega) _) (by show w.heap.size ≠ w.heap.size + 1; omega) _),
          blk_drew (blk_set (blk_set (blk_far c3 (by show w.heap.size + 1 ≠ w.heap.size; omega) _) 0 _) 1 _)⟩,
        below_drew (((hB.setCell (p := ⟨w.heap.size, 0, none⟩) (Nat.le_refl _) _).setCell (p := ⟨w.heap.size + 1, 0, none⟩) (Nat.le_succ _) _).setCell (p := ⟨w.heap.size + 1, 1, none⟩) (Nat.le_succ _) _)⟩
  case done =>
    rintro D ys W hD rfl ⟨⟨⟨⟨⟨v, hv, hrow, hz⟩, c2⟩, c3⟩, c5⟩, hB⟩ hK
    have hall : allT S.data.toList = ((seqT S.data.toList).map Prod.fst, 0, 0) := by unfold allT; rw [col_all _ _ hz]; rfl
    have hc := hv.cell
    have x2 : W.cell? ⟨w.heap.size, 0, none⟩ = some (.slice none 0 0) := blk_cell c2 0
    have x3 : W.cell? ⟨w.heap.size + 1, 0, none⟩ = some (.int .i64 0) := blk_cell c3 0
    have x4 : W.cell? ⟨w.heap.size + 1, 1, none⟩ = some (.int .i64 0) := blk_cell c3 1
    have y2 := blk_frozen c2 0
    have y3 := blk_frozen c3 0
    have y4 := blk_frozen c3 1
    obtain ⟨A, cp, rfl⟩ := own_slice hrow
    gi_wp2
    have hK' := (((KeepsOthers.setCell W ⟨w.heap.size, 0, none⟩ (.slice A (seqT S.data.toList).length cp)).trans (KeepsOthers.setCell _ ⟨w.heap.size + 1, 0, none⟩ (.int .i64 0))).trans (KeepsOthers.setCell _ ⟨w.heap.size + 1, 1, none⟩ (.int .i64 0))).same D _ hK rfl
    refine ⟨by simp, .inl ⟨_, _, rfl, run_takeDeferred hK', ?_⟩⟩
    have d2 := blk_far (blk_far (blk_set c2 0 (.slice A (seqT S.data.toList).length cp)) (p := ⟨w.heap.size + 1, 0, none⟩) (by show w.heap.size ≠ w.heap.size + 1; omega) (.int .i64 0)) (p := ⟨w.heap.size + 1, 1, none⟩) (by show w.heap.size ≠ w.heap.size + 1; omega) (.int .i64 0)
    have d3 := blk_set (blk_set (blk_far c3 (p := ⟨w.heap.size, 0, none⟩) (by show w.heap.size + 1 ≠ w.heap.size; omega) (.slice A (seqT S.data.toList).length cp)) 0 (.int .i64 0)) 1 (.int .i64 0)
    have k2 := blk_grown d2 (grownBy_putObj' _ D (.deferred none)) (fun e => by cases e; rw [d2] at hK'; cases hK')
    have k3 := blk_grown d3 (grownBy_putObj' _ D (.deferred none)) (fun e => by cases e; rw [d3] at hK'; cases hK')
    have z2 := blk_cell k2 0
    have z3 := blk_cell k3 0
    have z4 := blk_cell k3 1
    have r1 := hrow.kept (grownBy_cell W w.heap.size 0 (.slice A (seqT S.data.toList).length cp)) (.inr (Ne.symm (BoxN.not_row c2 (by decide) hrow)))
    have r2 := r1.kept (grownBy_cell _ (w.heap.size + 1) 0 (.int .i64 0)) (.inr (Ne.symm (BoxN.not_row c3 (by decide) hrow)))
    have r3 := r2.kept (grownBy_cell _ (w.heap.size + 1) 1 (.int .i64 0)) (.inr (Ne.symm (BoxN.not_row c3 (by decide) hrow)))
    have b3 := ((hB.setCell (p := ⟨w.heap.size, 0, none⟩) (Nat.le_refl _) (.slice A (seqT S.data.toList).length cp)).setCell (p := ⟨w.heap.size + 1, 0, none⟩) (Nat.le_succ _) (.int .i64 0)).setCell (p := ⟨w.heap.size + 1, 1, none⟩) (Nat.le_succ _) (.int .i64 0)
    refine ⟨.tuple #[.slice A (seqT S.data.toList).length cp, .agg #[.int .i64 0, .int .i64 0]], ?_, .slice A (seqT S.data.toList).length cp, by rw [hall], ?_, b3.trans (belowK_b (w := w) (Nat.le_refl _) _ D _ _ (by omega) hK' rfl rfl)⟩
    · simp [results, Tryd.f9, go_sem, z2, z3, z4]
    · rw [hall]
      have := ownsRow_putObj r3 (.deferred none) hK' rfl
      simpa using this
  case stop =>
    rintro D c pre W hD hpre ⟨⟨rfl, p, t, cd, ad, rfl, hz, hcd, c2, c3⟩, hB⟩ hK
    have hall : allT S.data.toList = ([], cd, ad) := by
      obtain ⟨rest, hr⟩ := hpre
      unfold allT
      rw [← hr, List.append_assoc]
      exact col_stop p [] t cd ad rest hz hcd
    gi_wp2
    refine ⟨by simp, .inl ⟨_, _, rfl, run_takeDeferred hK, ?_⟩⟩
    have k2 := blk_grown c2 (grownBy_putObj' W D (.deferred none)) (fun e => by cases e; rw [show W.heap[w.heap.size]? = _ from c2] at hK; cases hK)
    have k3 := blk_grown c3 (grownBy_putObj' W D (.deferred none)) (fun e => by cases e; rw [show W.heap[w.heap.size + 1]? = _ from c3] at hK; cases hK)
    have z2 := blk_cell k2 0
    have z3 := blk_cell k3 0
    have z4 := blk_cell k3 1
    refine ⟨.tuple #[.slice none 0 0, .agg #[.int .i64 cd, .int .i64 ad]], ?_, .slice none 0 0, by rw [hall], by rw [hall]; exact World.ownsRow_nil _ _ _ _, hB.trans (belowK_b (w := w) (Nat.le_refl _) W D _ _ (by omega) hK rfl rfl)⟩
    simp [results, Tryd.f9, go_sem, z2, z3, z4]
def lex_All.f (a0 : ByteArray) : Option (List S30 × Int × Int) := if a0.size ≤ 1000000 then some (allT a0.data.toList) else none
theorem lex_All.calls (a0 : ByteArray) (r1 : List S30) (r2 r3 : Int) (w : World) (hG : Glob w) (h : lex_All.f a0 = some (r1, r2, r3)) :
    Calls Tryd.prog 9 #[.string a0] w fun e w' => ∃ v0_, e = .returned (.tuple #[v0_, .agg #[.int .i64 r2, .int .i64 r3]]) ∧ Kd.R k30 30 w' w.heap.size (fun _ => True) v0_ r1 ∧ Below w.heap.size w w' := by
  unfold lex_All.f at h
  split at h
  · rename_i hs
    have h1 := Option.some.inj h
    refine (all_any a0 hs w hG).mono ?_
    rintro e w' ⟨v, rfl, hr, hb⟩
    rw [h1] at hr ⊢
    exact ⟨v, rfl, row_flat hr, hb⟩
  · cases h
theorem all_f (l : List UInt8) (hl : l.length ≤ 1000000) : lex_All.f (bs l) = some (allT l) := by
  unfold lex_All.f
  rw [if_pos (by rw [bs_size]; exact hl)]
end Go.Proofs.YtjolkombhdibcaaDoor.Given
end
section
namespace Go.Proofs.YtjolkombhdibcaaDoor.Print
open Go.RowKit Go.Proofs.YtjolkombhdibcaaDoor.Given Go.Proofs.YtjolkombhdibcaaDoorW.PrintWords Go.Proofs.YtjolkombhdibcaaDoorW.PrintLast Go.Proofs.YtjolkombhdibcaaDoorW.PrintMore
attribute [local go_sem] max2_int min2_int max_two min_two max_three min_three max_four min_four
set_option linter.unusedVariables false
set_option linter.unusedSimpArgs false
theorem x56_12 {p : Prop} (h : p := by first | rfl | (simp; done) | (simp [*]; done)) : p := h
theorem x56_11 {p : Prop} (h : p := by first | (with_reducible assumption) | assumption) : p := h
theorem x56_10 {p : Prop} (h : p := by have := HK1.out; first | omega | exact Nat.le_refl _) : p := h
theorem x56_9 {p : Prop} (h : p := by have := HK1.out; have := HJ5.out; have := HK3.out; omega) : p := h
theorem x56_8 {p : Prop} (h : p := by repeat (first | exact Drawn0.refl _ | apply Drawn0.step)) : p := h
theorem x56_7 {p : Prop} (h : p := by first | rfl | (simp [errW_none, errW_some] <;> rfl) | (simp [*, errW_none, errW_some] <;> rfl)) : p := h
theorem x56_6 {p : Prop} (h : p := by (with_reducible repeat first | apply blk_drewN | apply blk_drew | apply blk_alloc); exact BK243.out) : p := h
theorem x56_5 {p : Prop} (h : p := by (with_reducible repeat (first | apply Kd.R_alloc | apply Kd.R_drewN | apply Kd.R_drew)); exact HO0.out) : p := h
theorem x56_4 {p : Prop} (h : p := by repeat (first | (with_reducible first | exact HK.out | apply Kept.alloc | apply Kept.drewN | apply Kept.drew) | exact HK.out)) : p := h
theorem x56_3 {p : Prop} (h : p := by repeat (first | (with_reducible first | exact HB.out | apply below_alloc | apply pw_below_drewN | apply below_drew1) | exact HB.out)) : p := h
theorem x56_2 {p : Prop} (h : p := by (try simp only [List.map_toArray, List.map_cons, List.map_nil]); first | done | rfl | (simp only [List.length_drop, List.length_take]; rfl)) : p := h
theorem x56_1 {p : Prop} (h : p := by repeat (first | (with_reducible first | exact HB.out | apply below_alloc | apply pw_below_drewN | apply below_drew1 | refine below_set ?_ GE243.out) | exact HB.out)) : p := h
theorem x56_0 {p : Prop} (h : p := by first | exact HK.out.1 | exact (show Kept w _ (fun k_ => P0_ k_) from by repeat (first | (with_reducible first | exact HK.out | apply Kept.alloc | apply Kept.drewN | apply Kept.drew) | exact HK.out)).1) : p := h
mutual
def casketref11_Blank.l0 : Nat → ByteArray → Int → Option (Int)
 | 0, _, _ => none
 | k + 1, x0, x1 => if x1 < (x0.size : Int) then (if 0 ≤ x1 then (if (bt x0 x1) = 32 then (casketref11_Blank.j1 k x0 x1 (bt x0 x1) true) else (if (bt x0 x1) = 9 then (casketref11_Blank.j1 k x0 x1 (bt x0 x1) true) else (casketref11_Blank.j1 k x0 x1 (bt x0 x1) ((bt x0 x1) == 10)))) else (none)) else (some x1)
def casketref11_Blank.j1 : Nat → ByteArray → Int → Int → Bool → Option (Int)
 | 0, _, _, _, _ => none
 | k + 1, x0, x1, x5, x22 => if x22 = true then (casketref11_Blank.l0 k x0 (wrap64 (x1 + 1))) else (if x5 = 35 then (casketref11_Blank.l1 k x0 x1) else (some x1))
def casketref11_Blank.l1 : Nat → ByteArray → Int → Option (Int)
 | 0, _, _ => none
 | k + 1, x0, x1 => if x1 < (x0.size : Int) then (if 0 ≤ x1 then (if (bt x0 x1) = 10 then (casketref11_Blank.l0 k x0 x1) else (casketref11_Blank.l1 k x0 (wrap64 (x1 + 1)))) else (none)) else (casketref11_Blank.l0 k x0 x1)
end
def casketref11_Blank.f (k : Nat) (a0 : ByteArray) (a1 : Int) : Option (Int) := casketref11_Blank.l0 k a0 a1
set_option maxHeartbeats 8000000 in
set_option maxRecDepth 100000 in
theorem casketref11_Blank.calls (k : Nat) (a0 : ByteArray) (a1 : Int) (r : Int) (w : World) (h : casketref11_Blank.f k a0 a1 = some r) :
  Calls Tryd.prog 15 #[.string a0, .int .i64 a1] w fun e w' => e = .returned (.int .i64 r) ∧ Drawn0 w w' := by
 have H : (casketref11_Blank.l0 k a0 a1) = some r := h
 clear h
 have H' := Aside0.mk H
 clear H
 go_enter Tryd.func15, Tryd.ntmps15
 go_wp2
 go_loopg [1] k (fun kq v1 w' => ∃ (x1_1 : Int), v1 = .int .i64 x1_1 ∧ Aside0 (casketref11_Blank.l0 kq a0 x1_1 = some r) ∧ Aside0 (kq ≤ k) ∧ Drawn0 w w')
 case atStart => exact ⟨(a1), x56_12, H', ⟨Nat.le_refl _⟩, x56_8⟩
 case round =>
  clear H'
  obtain ⟨x1_1, rfl, HA, HK1, ⟨m1, rfl⟩⟩ := hrel
  cases gk with
  | zero => exact absurd HA.out (by simp [casketref11_Blank.l0])
  | succ k1 =>
   have H := HA.out
   clear HA
   simp only [casketref11_Blank.l0] at H
   by_cases c3 : x1_1 < (a0.size : Int)
   ·rw [if_pos c3] at H
    have c3b0 := decide_eq_true c3
    clear c3
    by_cases c4 : 0 ≤ x1_1
    ·rw [if_pos c4] at H
     have c4b0 := decide_eq_true c4
     clear c4
     have HC6 := Aside0.mk H
     clear H
     have p5 : 0 ≤ (x1_1 : Int) := of_decide_eq_true x56_11
     have q5 : x1_1 < (a0.size : Int) := of_decide_eq_true x56_11
     have hx5 := bt_at a0 x1_1
     replace p5 := eq_true p5
     replace q5 := eq_true q5
     go_upto_region 3 with (fail)
     go_cut [22] (fun v22 wc => ∃ (kq : Nat) (x22_5 : Bool), v22 = .bool x22_5 ∧ Aside0 (casketref11_Blank.j1 kq a0 x1_1 (bt a0 x1_1) x22_5 = some r) ∧ Aside0 (kq ≤ k1) ∧ Drawn0 w wc)
     case first =>
      have H := HC6.out
      clear HC6
      by_cases c7 : (bt a0 x1_1) = 32
      ·rw [if_pos c7] at H
       have c7b0 := beq_iff_eq.mpr c7
       have c7b1 := bne_eq_false_iff_eq.mpr c7
       clear c7
       (first | rw [c7b0] | (simp only [i64_w, i32_w]; rw [c7b0]) | skip)
       have H' := Aside0.mk H
       clear H
       go_wp2
       go_meet
       case rel => exact ⟨_, (true), x56_12, H', ⟨x56_10⟩, x56_8⟩
      ·rw [if_neg c7] at H
       have c7b0 := beq_eq_false_iff_ne.mpr c7
       have c7b1 := bne_iff_ne.mpr c7
       (first | rw [c7b0] | (simp only [i64_w, i32_w]; rw [c7b0]) | skip)
       by_cases c8 : (bt a0 x1_1) = 9
       ·rw [if_pos c8] at H
        have c8b0 := beq_iff_eq.mpr c8
        have c8b1 := bne_eq_false_iff_eq.mpr c8
        clear c8
        have H' := Aside0.mk H
        clear H
        go_wp2
        go_meet
        case rel => exact ⟨_, (true), x56_12, H', ⟨x56_10⟩, x56_8⟩
       ·rw [if_neg c8] at H
        have c8b0 := beq_eq_false_iff_ne.mpr c8
        have c8b1 := bne_iff_ne.mpr c8
        have H' := Aside0.mk H
        clear H
        go_wp2
        go_meet
        case rel => exact ⟨_, (((bt a0 x1_1) == 10)), x56_12, H', ⟨x56_10⟩, x56_8⟩
     case rest =>
      clear HC6
      obtain ⟨kq, x22_5, rfl, HA, HJ5, ⟨mc5, rfl⟩⟩ := hcut
      cases kq with
      | zero => exact absurd HA.out (by simp [casketref11_Blank.j1])
      | succ kj5 =>
       have H := HA.out
       clear HA
       simp only [casketref11_Blank.j1] at H
       by_cases c9 : x22_5 = true
       ·subst c9
        rw [if_pos rfl] at H
        have H' := Aside0.mk H
        clear H
        go_wp2
        go_roundg kj5
        case measure => have := HK1.out; have := HJ5.out; omega
        case rel => exact ⟨(wrap64 (x1_1 + 1)), x56_12, H', ⟨by have := HK1.out; have := HJ5.out; omega⟩, x56_8⟩
       ·replace c9 := Bool.eq_false_iff.mpr c9
        subst c9
        rw [if_neg (show ¬ (false = true) by decide)] at H
        by_cases c10 : (bt a0 x1_1) = 35
        ·rw [if_pos c10] at H
         have c10b0 := beq_iff_eq.mpr c10
         have c10b1 := bne_eq_false_iff_eq.mpr c10
         clear c10
         have H' := Aside0.mk H
         clear H
         go_wp2
         go_loopg [1] kj5 (fun kq v1 w' => ∃ (x1_3 : Int), v1 = .int .i64 x1_3 ∧ Aside0 (casketref11_Blank.l1 kq a0 x1_3 = some r) ∧ Aside0 (kq ≤ kj5) ∧ Drawn0 w w')
         case atStart => exact ⟨(x1_1), x56_12, H', ⟨Nat.le_refl _⟩, x56_8⟩
         case round =>
          clear H'
          obtain ⟨x1_3, rfl, HA, HK3, ⟨m3, rfl⟩⟩ := hrel
          cases gk with
          | zero => exact absurd HA.out (by simp [casketref11_Blank.l1])
          | succ k3 =>
           have H := HA.out
           clear HA
           simp only [casketref11_Blank.l1] at H
           by_cases c11 : x1_3 < (a0.size : Int)
           ·rw [if_pos c11] at H
            have c11b0 := decide_eq_true c11
            clear c11
            by_cases c12 : 0 ≤ x1_3
            ·rw [if_pos c12] at H
             have c12b0 := decide_eq_true c12
             clear c12
             by_cases c14 : (bt a0 x1_3) = 10
             ·rw [if_pos c14] at H
              have c14b0 := beq_iff_eq.mpr c14
              have c14b1 := bne_eq_false_iff_eq.mpr c14
              clear c14
              have H' := Aside0.mk H
              clear H
              have p13 : 0 ≤ (x1_3 : Int) := of_decide_eq_true x56_11
              have q13 : x1_3 < (a0.size : Int) := of_decide_eq_true x56_11
              have hx13 := bt_at a0 x1_3
              replace p13 := eq_true p13
              replace q13 := eq_true q13
              go_wp2
              go_roundg k3
              case measure => have := HK1.out; have := HJ5.out; have := HK3.out; omega
              case rel => exact ⟨(x1_3), x56_12, H', ⟨x56_9⟩, x56_8⟩
             ·rw [if_neg c14] at H
              have c14b0 := beq_eq_false_iff_ne.mpr c14
              have c14b1 := bne_iff_ne.mpr c14
              have H' := Aside0.mk H
              clear H
              have p13 : 0 ≤ (x1_3 : Int) := of_decide_eq_true x56_11
              have q13 : x1_3 < (a0.size : Int) := of_decide_eq_true x56_11
              have hx13 := bt_at a0 x1_3
              replace p13 := eq_true p13
              replace q13 := eq_true q13
              go_wp2
              go_roundg k3
              case measure => have := HK1.out; have := HJ5.out; have := HK3.out; omega
              case rel => exact ⟨(wrap64 (x1_3 + 1)), x56_12, H', ⟨x56_9⟩, x56_8⟩
            ·rw [if_neg c12] at H
             exact absurd H (by simp)
           ·rw [if_neg c11] at H
            have c11b0 := decide_eq_false c11
            clear c11
            have H' := Aside0.mk H
            clear H
            go_wp2
            go_roundg k3
            case measure => have := HK1.out; have := HJ5.out; have := HK3.out; omega
            case rel => exact ⟨(x1_3), x56_12, H', ⟨x56_9⟩, x56_8⟩
        ·rw [if_neg c10] at H
         have c10b0 := beq_eq_false_iff_ne.mpr c10
         have c10b1 := bne_iff_ne.mpr c10
         obtain rfl := Option.some.inj H
         go_wp2
         go_ret
         exact ⟨x56_12, x56_8⟩
    ·rw [if_neg c4] at H
     exact absurd H (by simp)
   ·rw [if_neg c3] at H
    have c3b0 := decide_eq_false c3
    clear c3
    obtain rfl := Option.some.inj H
    go_wp2
    go_ret
    exact ⟨x56_12, x56_8⟩
def casketref11_starts.f (a0 : Int) : Option (Bool) := if a0 ≥ 97 then (if a0 ≤ 122 then (some true) else (some (a0 == 95))) else (some (a0 == 95))
set_option maxHeartbeats 8000000 in
set_option maxRecDepth 100000 in
theorem casketref11_starts.calls (a0 : Int) (r : Bool) (w : World) (h : casketref11_starts.f a0 = some r) :
  Calls Tryd.prog 28 #[.int .u8 a0] w fun e w' => e = .returned (.bool r) ∧ Drawn0 w w' := by
 have H : (if a0 ≥ 97 then (if a0 ≤ 122 then (some true) else (some (a0 == 95))) else (some (a0 == 95))) = some r := h
 clear h
 by_cases c2 : a0 ≥ 97
 ·rw [if_pos c2] at H
  have c2b0 : decide (97 ≤ a0) = true := decide_eq_true c2
  clear c2
  by_cases c3 : a0 ≤ 122
  ·rw [if_pos c3] at H
   have c3b0 := decide_eq_true c3
   clear c3
   obtain rfl := Option.some.inj H
   go_enter Tryd.func28, Tryd.ntmps28
   go_wp2
   go_ret
   exact ⟨x56_12, x56_8⟩
  ·rw [if_neg c3] at H
   have c3b0 := decide_eq_false c3
   clear c3
   obtain rfl := Option.some.inj H
   go_enter Tryd.func28, Tryd.ntmps28
   go_wp2
   go_ret
   exact ⟨x56_12, x56_8⟩
 ·rw [if_neg c2] at H
  have c2b0 : decide (97 ≤ a0) = false := decide_eq_false c2
  clear c2
  obtain rfl := Option.some.inj H
  go_enter Tryd.func28, Tryd.ntmps28
  go_wp2
  go_ret
  exact ⟨x56_12, x56_8⟩
def casketref11_fault.f (a0 : Int) (a1 : Int) : Option (Int × Int × ByteArray × Int × Int × Int × Int × Int) := some (0, 0, (⟨#[]⟩ : ByteArray), 0, 0, a1, a0, a1)
set_option maxHeartbeats 8000000 in
set_option maxRecDepth 100000 in
theorem casketref11_fault.calls (a0 : Int) (a1 : Int) (r1 : Int) (r2 : Int) (r3 : ByteArray) (r4 : Int) (r5 : Int) (r6 : Int) (r7 : Int) (r8 : Int) (w : World) (h : casketref11_fault.f a0 a1 = some (r1, r2, r3, r4, r5, r6, r7, r8)) :
  Calls Tryd.prog 34 #[.int .i64 a0, .int .i64 a1] w fun e w' => e = .returned (.tuple #[.agg #[.int .i64 r1, .int .i64 r2, .string r3, .int .i64 r4, .int .u64 r5], .int .i64 r6, .agg #[.int .i64 r7, .int .i64 r8]]) ∧ Below w.heap.size w w' := by
 have hu30 := Tryd.underlying30
 have hu25 := Tryd.underlying25
 have HB := Aside0.mk (Below.refl w.heap.size w)
 have H : (some (0, 0, (⟨#[]⟩ : ByteArray), 0, 0, a1, a0, a1)) = some (r1, r2, r3, r4, r5, r6, r7, r8) := h
 clear h
 simp only [Option.some.injEq, Prod.mk.injEq] at H
 obtain ⟨rfl, rfl, rfl, rfl, rfl, rfl, rfl, rfl⟩ := H
 go_enter Tryd.func34, Tryd.ntmps34
 go_wp2_with (first | ((with_reducible refine gate_dst (N := 4) rfl ?_); refine box_event ?hg (N := 4) ?hd (cs := #[.int .i64 0, .int .i64 0, .string (⟨#[]⟩ : ByteArray), .int .i64 0, .int .u64 0]) (t := 30) ?hr ?_; (case hd => rfl); (case hg => rfl); (case hr => first | (go_simp; done) | (go_simp; rfl)); intro gb243 hg w3 hbox hb; have n0_ := Aside0.mk (below_step x56_3 hb); have n1_ := Aside0.mk (hbox); have n2_ := Aside0.mk ((by rw [hg]; exact (below_size x56_3) : w.heap.size ≤ gb243)); have n3_ := Aside0.mk ((by rw [hg]; exact (below_size x56_3) : w.heap.size ≤ gb243)); clear HB; have HB := n0_; have BK243 := n1_; have GW243 := n2_; have GE243 := n3_; clear n0_ n1_ n2_ n3_; clear hb hbox hg) | ((with_reducible refine gate_dst (N := 6) rfl ?_); refine box_event ?hg (N := 6) ?hd (cs := #[.int .i64 0, .int .i64 0]) (t := 25) ?hr ?_; (case hd => rfl); (case hg => rfl); (case hr => first | (go_simp; done) | (go_simp; rfl)); intro gb244 hg w4 hbox hb; have n0_ := Aside0.mk (blk_below (g := gb243) (o := .cells #[.int .i64 0, .int .i64 0, .string (⟨#[]⟩ : ByteArray), .int .i64 0, .int .u64 0] 30 (0, 0)) x56_6 hb); have n1_ := Aside0.mk (below_step x56_1 hb); have n2_ := Aside0.mk (hbox); have n3_ := Aside0.mk ((by rw [hg]; exact (below_size x56_1) : w.heap.size ≤ gb244)); have n4_ := Aside0.mk ((by rw [hg]; exact (below_size x56_1) : w.heap.size ≤ gb244)); have n5_ := Aside0.mk ((by rw [hg]; exact Nat.ne_of_lt (blk_lt (g := gb243) (o := .cells #[.int .i64 0, .int .i64 0, .string (⟨#[]⟩ : ByteArray), .int .i64 0, .int .u64 0] 30 (0, 0)) x56_6) : gb243 ≠ gb244)); have n6_ := Aside0.mk ((by rw [hg]; exact Nat.ne_of_gt (blk_lt (g := gb243) (o := .cells #[.int .i64 0, .int .i64 0, .string (⟨#[]⟩ : ByteArray), .int .i64 0, .int .u64 0] 30 (0, 0)) x56_6) : gb244 ≠ gb243)); clear BK243; clear HB; have BK243 := n0_; have HB := n1_; have BK244 := n2_; have GW244 := n3_; have GE244 := n4_; have NB243_244 := n5_; have NB244_243 := n6_; clear n0_ n1_ n2_ n3_ n4_ n5_ n6_; clear hb hbox hg; have hnb5 := NB243_244.out; have hnc5 := NB244_243.out; have hcz6_0 : w4.cell? ⟨gb243, 0, none⟩ = some (.int .i64 0) := (blk_cell BK243.out 0).trans rfl; have hcz6_1 : w4.cell? ⟨gb243, 1, none⟩ = some (.int .i64 0) := (blk_cell BK243.out 1).trans rfl; have hcz6_2 : w4.cell? ⟨gb243, 2, none⟩ = some (.string (⟨#[]⟩ : ByteArray)) := (blk_cell BK243.out 2).trans rfl; have hcz6_3 : w4.cell? ⟨gb243, 3, none⟩ = some (.int .i64 0) := (blk_cell BK243.out 3).trans rfl; have hcz6_4 : w4.cell? ⟨gb243, 4, none⟩ = some (.int .u64 0) := (blk_cell BK243.out 4).trans rfl; have hfz6_0 := blk_frozen BK243.out 0; have hfz6_1 := blk_frozen BK243.out 1; have hfz6_2 := blk_frozen BK243.out 2; have hfz6_3 := blk_frozen BK243.out 3; have hfz6_4 := blk_frozen BK243.out 4; have hcz7_0 : w4.cell? ⟨gb244, 0, none⟩ = some (.int .i64 0) := (blk_cell BK244.out 0).trans rfl; have hcz7_1 : w4.cell? ⟨gb244, 1, none⟩ = some (.int .i64 0) := (blk_cell BK244.out 1).trans rfl; have hfz7_0 := blk_frozen BK244.out 0; have hfz7_1 := blk_frozen BK244.out 1))
 refine bodyPost_ret (results_list (rs := [.cell 4 30, .tmp 5, .cell 6 25]) rfl (by simp) (.cell gb243 30 #[.int .i64 0, .int .i64 0, .string (⟨#[]⟩ : ByteArray), .int .i64 0, .int .u64 0] (0, 0) _ rfl (by (with_reducible repeat first | apply blk_drewN | apply blk_drew | apply blk_alloc); refine blk_far ?_ NB243_244.out _; (with_reducible repeat first | apply blk_drewN | apply blk_drew | apply blk_alloc); refine blk_far ?_ NB243_244.out _; (with_reducible repeat first | apply blk_drewN | apply blk_drew | apply blk_alloc); refine blk_put (cs := #[.int .i64 0, .int .i64 0, .string (⟨#[]⟩ : ByteArray), .int .i64 0, .int .u64 0]) ?_ 4 _ rfl; (with_reducible repeat first | apply blk_drewN | apply blk_drew | apply blk_alloc); refine blk_put (cs := #[.int .i64 0, .int .i64 0, .string (⟨#[]⟩ : ByteArray), .int .i64 0, .int .u64 0]) ?_ 3 _ rfl; (with_reducible repeat first | apply blk_drewN | apply blk_drew | apply blk_alloc); refine blk_put (cs := #[.int .i64 0, .int .i64 0, .string (⟨#[]⟩ : ByteArray), .int .i64 0, .int .u64 0]) ?_ 2 _ rfl; (with_reducible repeat first | apply blk_drewN | apply blk_drew | apply blk_alloc); refine blk_put (cs := #[.int .i64 0, .int .i64 0, .string (⟨#[]⟩ : ByteArray), .int .i64 0, .int .u64 0]) ?_ 1 _ rfl; (with_reducible repeat first | apply blk_drewN | apply blk_drew | apply blk_alloc); refine blk_put (cs := #[.int .i64 0, .int .i64 0, .string (⟨#[]⟩ : ByteArray), .int .i64 0, .int .u64 0]) ?_ 0 _ rfl; (with_reducible repeat first | apply blk_drewN | apply blk_drew | apply blk_alloc); exact BK243.out) Tryd.underlying30 rfl (by kernel_rfl) (.tmp (.cell gb244 25 #[.int .i64 a0, .int .i64 a1] (0, 0) _ rfl (by (with_reducible repeat first | apply blk_drewN | apply blk_drew | apply blk_alloc); refine blk_put (cs := #[.int .i64 a0, .int .i64 0]) ?_ 1 _ rfl; (with_reducible repeat first | apply blk_drewN | apply blk_drew | apply blk_alloc); refine blk_put (cs := #[.int .i64 0, .int .i64 0]) ?_ 0 _ rfl; (with_reducible repeat first | apply blk_drewN | apply blk_drew | apply blk_alloc); refine blk_far ?_ NB244_243.out _; (with_reducible repeat first | apply blk_drewN | apply blk_drew | apply blk_alloc); refine blk_far ?_ NB244_243.out _; (with_reducible repeat first | apply blk_drewN | apply blk_drew | apply blk_alloc); refine blk_far ?_ NB244_243.out _; (with_reducible repeat first | apply blk_drewN | apply blk_drew | apply blk_alloc); refine blk_far ?_ NB244_243.out _; (with_reducible repeat first | apply blk_drewN | apply blk_drew | apply blk_alloc); refine blk_far ?_ NB244_243.out _; (with_reducible repeat first | apply blk_drewN | apply blk_drew | apply blk_alloc); exact BK244.out) Tryd.underlying25 rfl (by kernel_rfl) .nil)))) rfl ?_
 exact ⟨x56_7, by repeat (first | (with_reducible first | exact HB.out | apply below_alloc | apply pw_below_drewN | apply below_drew1 | refine below_set ?_ GE243.out | refine below_set ?_ GE244.out) | exact HB.out)⟩
def casketref11_digit.f (a0 : Int) : Option (Bool) := if a0 ≥ 48 then (some (decide (a0 ≤ 57))) else (some false)
set_option maxHeartbeats 8000000 in
set_option maxRecDepth 100000 in
theorem casketref11_digit.calls (a0 : Int) (r : Bool) (w : World) (h : casketref11_digit.f a0 = some r) :
  Calls Tryd.prog 30 #[.int .u8 a0] w fun e w' => e = .returned (.bool r) ∧ Drawn0 w w' := by
 have H : (if a0 ≥ 48 then (some (decide (a0 ≤ 57))) else (some false)) = some r := h
 clear h
 by_cases c2 : a0 ≥ 48
 ·rw [if_pos c2] at H
  have c2b0 : decide (48 ≤ a0) = true := decide_eq_true c2
  clear c2
  obtain rfl := Option.some.inj H
  go_enter Tryd.func30, Tryd.ntmps30
  go_wp2
  go_ret
  exact ⟨x56_12, x56_8⟩
 ·rw [if_neg c2] at H
  have c2b0 : decide (48 ≤ a0) = false := decide_eq_false c2
  clear c2
  obtain rfl := Option.some.inj H
  go_enter Tryd.func30, Tryd.ntmps30
  go_wp2
  go_ret
  exact ⟨x56_12, x56_8⟩
def casketref11_goesOn.f (a0 : Int) : Option (Bool) := (casketref11_starts.f a0).bind fun t245 => (if t245 = true then (some true) else ((casketref11_digit.f a0).bind fun t246 => (some t246)))
set_option maxHeartbeats 8000000 in
set_option maxRecDepth 100000 in
theorem casketref11_goesOn.calls (a0 : Int) (r : Bool) (w : World) (h : casketref11_goesOn.f a0 = some r) :
  Calls Tryd.prog 50 #[.int .u8 a0] w fun e w' => e = .returned (.bool r) ∧ Drawn0 w w' := by
 have H : ((casketref11_starts.f a0).bind fun t245 => (if t245 = true then (some true) else ((casketref11_digit.f a0).bind fun t246 => (some t246)))) = some r := h
 clear h
 obtain ⟨t245, A20, H⟩ := Option.bind_eq_some_iff.mp H
 have A2 := Aside0.mk A20
 clear A20
 by_cases c3 : t245 = true
 ·subst c3
  rw [if_pos rfl] at H
  obtain rfl := Option.some.inj H
  go_enter Tryd.func50, Tryd.ntmps50
  go_wp2_with (first | ((with_reducible refine gate_callee (f := 28) rfl ?_); refine goesL_ (some 4) rfl rfl Tryd.func28 (by kernel_rfl) rfl #[.int .u8 a0] rfl x56_2 ?_; (with_reducible refine (casketref11_starts.calls a0 true _ A2.out).mono ?_); rintro e w' ⟨rfl, ⟨nd, rfl⟩⟩; refine ⟨_, rfl, ?_⟩))
  go_ret
  exact ⟨x56_12, x56_8⟩
 ·replace c3 := Bool.eq_false_iff.mpr c3
  subst c3
  rw [if_neg (show ¬ (false = true) by decide)] at H
  obtain ⟨t246, A40, H⟩ := Option.bind_eq_some_iff.mp H
  have A4 := Aside0.mk A40
  clear A40
  obtain rfl := Option.some.inj H
  go_enter Tryd.func50, Tryd.ntmps50
  go_wp2_with (first | ((with_reducible refine gate_callee (f := 28) rfl ?_); refine goesL_ (some 4) rfl rfl Tryd.func28 (by kernel_rfl) rfl #[.int .u8 a0] rfl x56_2 ?_; (with_reducible refine (casketref11_starts.calls a0 false _ A2.out).mono ?_); rintro e w' ⟨rfl, ⟨nd, rfl⟩⟩; refine ⟨_, rfl, ?_⟩) | (go_at_call 30; (with_reducible refine (casketref11_digit.calls a0 t246 _ A4.out).mono ?_); rintro e w' ⟨rfl, ⟨nd, rfl⟩⟩))
  go_ret
  exact ⟨x56_12, x56_8⟩
def casketref4_hex.l0 : Nat → Int → Int → Option (Int)
 | 0, _, _ => none
 | k + 1, x0, x3 => if x3 < 16 then (if 0 ≤ x3 then (if (bt (⟨#[48, 49, 50, 51, 52, 53, 54, 55, 56, 57, 97, 98, 99, 100, 101, 102]⟩ : ByteArray) x3) = x0 then (some x3) else (casketref4_hex.l0 k x0 (wrap64 (x3 + 1)))) else (none)) else (some (-1))
def casketref4_hex.f (k : Nat) (a0 : Int) : Option (Int) := casketref4_hex.l0 k a0 0
set_option maxHeartbeats 8000000 in
set_option maxRecDepth 100000 in
theorem casketref4_hex.calls (k : Nat) (a0 : Int) (r : Int) (w : World) (h : casketref4_hex.f k a0 = some r) :
  Calls Tryd.prog 70 #[.int .u8 a0] w fun e w' => e = .returned (.int .i64 r) ∧ Drawn0 w w' := by
 have H : (casketref4_hex.l0 k a0 0) = some r := h
 clear h
 have H' := Aside0.mk H
 clear H
 go_enter Tryd.func70, Tryd.ntmps70
 go_wp2
 go_loopg [3] k (fun kq v3 w' => ∃ (x3_1 : Int), v3 = .int .i64 x3_1 ∧ Aside0 (casketref4_hex.l0 kq a0 x3_1 = some r) ∧ Aside0 (kq ≤ k) ∧ Drawn0 w w')
 case atStart => exact ⟨(0), x56_12, H', ⟨Nat.le_refl _⟩, x56_8⟩
 case round =>
  clear H'
  obtain ⟨x3_1, rfl, HA, HK1, ⟨m1, rfl⟩⟩ := hrel
  cases gk with
  | zero => exact absurd HA.out (by simp [casketref4_hex.l0])
  | succ k1 =>
   have H := HA.out
   clear HA
   simp only [casketref4_hex.l0] at H
   by_cases c2 : x3_1 < 16
   ·rw [if_pos c2] at H
    have c2b0 := decide_eq_true c2
    clear c2
    by_cases c3 : 0 ≤ x3_1
    ·rw [if_pos c3] at H
     have c3b0 := decide_eq_true c3
     clear c3
     by_cases c5 : (bt (⟨#[48, 49, 50, 51, 52, 53, 54, 55, 56, 57, 97, 98, 99, 100, 101, 102]⟩ : ByteArray) x3_1) = a0
     ·rw [if_pos c5] at H
      have c5b0 := beq_iff_eq.mpr c5
      have c5b1 := bne_eq_false_iff_eq.mpr c5
      clear c5
      obtain rfl := Option.some.inj H
      have p4 : 0 ≤ (x3_1 : Int) := of_decide_eq_true x56_11
      have q4 : x3_1 < (16 : Int) := of_decide_eq_true x56_11
      have hx4 := bt_at (⟨#[48, 49, 50, 51, 52, 53, 54, 55, 56, 57, 97, 98, 99, 100, 101, 102]⟩ : ByteArray) x3_1
      replace p4 := eq_true p4
      replace q4 := eq_true q4
      go_wp2
      go_ret
      exact ⟨x56_12, x56_8⟩
     ·rw [if_neg c5] at H
      have c5b0 := beq_eq_false_iff_ne.mpr c5
      have c5b1 := bne_iff_ne.mpr c5
      have H' := Aside0.mk H
      clear H
      have p4 : 0 ≤ (x3_1 : Int) := of_decide_eq_true x56_11
      have q4 : x3_1 < (16 : Int) := of_decide_eq_true x56_11
      have hx4 := bt_at (⟨#[48, 49, 50, 51, 52, 53, 54, 55, 56, 57, 97, 98, 99, 100, 101, 102]⟩ : ByteArray) x3_1
      replace p4 := eq_true p4
      replace q4 := eq_true q4
      go_wp2
      go_roundg k1
      case measure => have := HK1.out; omega
      case rel => exact ⟨(wrap64 (x3_1 + 1)), x56_12, H', ⟨by have := HK1.out; omega⟩, x56_8⟩
    ·rw [if_neg c3] at H
     exact absurd H (by simp)
   ·rw [if_neg c2] at H
    have c2b0 := decide_eq_false c2
    clear c2
    obtain rfl := Option.some.inj H
    go_wp2
    go_ret
    exact ⟨x56_12, x56_8⟩
def casketref4_nibble.f (l0 : List Int) (a1 : Int) : Option (List Int) := (some (([wrap64 (Int.tdiv a1 8), Int.tmod (wrap64 (Int.tdiv a1 4)) 2, Int.tmod (wrap64 (Int.tdiv a1 2)) 2, Int.tmod a1 2] : List Int) : List Int)).bind fun y247 => (if l0.length + y247.length < 17592186044416 then (some (l0 ++ y247)) else (none))
set_option maxHeartbeats 8000000 in
set_option maxRecDepth 100000 in
theorem casketref4_nibble.calls (P0_ : Nat → Prop) (u9000_ : Value) (l0 : List Int) (a1 : Int) (r : List Int) (w0 w : World) (hB : Below w0.heap.size w0 w) (ho0 : Kd.R (Kd.int .i64) 3 w w0.heap.size P0_ u9000_ l0) (h : casketref4_nibble.f l0 a1 = some r) :
  Calls Tryd.prog 71 #[u9000_, .int .i64 a1] w fun e w' => ∃ v0_ : Value, e = .returned (v0_) ∧ Kd.R (Kd.int .i64) 3 w' w0.heap.size (fun k_ => (P0_ k_ ∨ w.heap.size ≤ k_)) v0_ r ∧ Below w0.heap.size w0 w' ∧ Kept w w' (fun k_ => P0_ k_) := by
 have HO0 := Aside0.mk (show Kd.R (Kd.int .i64) 3 w w0.heap.size (fun k_ => (P0_ k_ ∨ w.heap.size ≤ k_)) u9000_ l0 from Kd.R_mono ho0 (fun k_ hk => (.inl hk)))
 have HK := Aside0.mk (Kept.refl w (fun k_ => P0_ k_))
 have HW0 := Aside0.mk hB.size
 have HB := Aside0.mk hB
 clear hB
 have H : ((some (([wrap64 (Int.tdiv a1 8), Int.tmod (wrap64 (Int.tdiv a1 4)) 2, Int.tmod (wrap64 (Int.tdiv a1 2)) 2, Int.tmod a1 2] : List Int) : List Int)).bind fun y247 => (if l0.length + y247.length < 17592186044416 then (some (l0 ++ y247)) else (none))) = some r := h
 clear h
 obtain ⟨y247, hy247⟩ : ∃ y_ : List Int, y_ = (([wrap64 (Int.tdiv a1 8), Int.tmod (wrap64 (Int.tdiv a1 4)) 2, Int.tmod (wrap64 (Int.tdiv a1 2)) 2, Int.tmod a1 2] : List Int)) := ⟨_, rfl⟩
 replace H : (if l0.length + y247.length < 17592186044416 then (some (l0 ++ y247)) else (none)) = some r := by first | (rw [hy247]; with_reducible exact H) | (have H2_ := (Option.bind_some _ _).symm.trans H; rw [hy247]; with_reducible exact H2_) | (have H2_ := (Option.bind_some _ _).symm.trans H; with_reducible exact H2_) | with_reducible exact H | (rw [hy247]; exact H) | exact H
 have Ny247 := Aside0.mk hy247
 clear hy247
 by_cases c3 : l0.length + y247.length < 17592186044416
 ·rw [if_pos c3] at H
  have LMc3 := Aside0.mk c3
  clear c3
  obtain ⟨y250, hy250⟩ : ∃ y_ : List Int, y_ = (l0 ++ y247) := ⟨_, rfl⟩
  replace H : (some y250) = some r := by first | (rw [hy250]; with_reducible exact H) | (have H2_ := (Option.bind_some _ _).symm.trans H; rw [hy250]; with_reducible exact H2_) | (have H2_ := (Option.bind_some _ _).symm.trans H; with_reducible exact H2_) | with_reducible exact H | (rw [hy250]; exact H) | exact H
  have Ny250 := Aside0.mk hy250
  clear hy250
  obtain rfl := Option.some.inj H
  go_enter Tryd.func71, Tryd.ntmps71
  go_wp2_with (first | ((with_reducible refine gate_dst (N := 16) rfl ?_); refine Kd.R_lit (Kd.int .i64) _ 3 ?hg (N := 16) ?hd (xs := ([wrap64 (Int.tdiv a1 8), Int.tmod (wrap64 (Int.tdiv a1 4)) 2, Int.tmod (wrap64 (Int.tdiv a1 2)) 2, Int.tmod a1 2] : List Int)) (inner := [.int .i64 (wrap64 (Int.tdiv a1 8)), .int .i64 (Int.tmod (wrap64 (Int.tdiv a1 4)) 2), .int .i64 (Int.tmod (wrap64 (Int.tdiv a1 2)) 2), .int .i64 (Int.tmod a1 2)]) (ok := fun _ => True) (okp := fun _ => True) ?hr ?hp (fun _ hk => hk) trivial (Below.refl _ _) (Nat.le_refl _) (by simp) ?_; (case hd => rfl); (case hg => rfl); (case hr => first | (go_simp; done) | (go_simp; rfl)); (case hp => exact (Reps.one (show Kd.M (Kd.int .i64) _ _ _ (wrap64 (Int.tdiv a1 8)) [.int .i64 (wrap64 (Int.tdiv a1 8))] from rfl) (Reps.one (show Kd.M (Kd.int .i64) _ _ _ (Int.tmod (wrap64 (Int.tdiv a1 4)) 2) [.int .i64 (Int.tmod (wrap64 (Int.tdiv a1 4)) 2)] from rfl) (Reps.one (show Kd.M (Kd.int .i64) _ _ _ (Int.tmod (wrap64 (Int.tdiv a1 2)) 2) [.int .i64 (Int.tmod (wrap64 (Int.tdiv a1 2)) 2)] from rfl) (Reps.one (show Kd.M (Kd.int .i64) _ _ _ (Int.tmod a1 2) [.int .i64 (Int.tmod a1 2)] from rfl) (Reps.none _ _)))))); intro v248 w4 ho5 hb hg_ hnew_; clear hg_ hnew_; (first | rw [← Ny247.out] at ho5 | (simp only [Int.reduceToNat] at ho5; rw [← Ny247.out] at ho5)); have n0_ := Aside0.mk (Kd.R_elder' x56_5 (Kd.R_base ho5) hb); have n1_ := Aside0.mk (Kd.R_lower (Kd.R_new' (Kd.R_newM (M := fun k_ => (P0_ k_ ∨ w.heap.size ≤ k_)) ho5 x56_0 (fun k_ h_ => .inr h_)) (Kd.R_lt x56_5)) (below_size x56_3)); have n2_ := Aside0.mk (Kept.below (S := (fun k_ => P0_ k_)) x56_4 hb); have n3_ := Aside0.mk (below_step x56_3 hb); clear HO0; clear HK; clear HB; have HO0 := n0_; have HO249 := n1_; have HK := n2_; have HB := n3_; clear n0_ n1_ n2_ n3_; clear hb ho5; obtain ⟨Ao7, co7, eo7⟩ := Kd.R_slice HO249.out; subst eo7) | ((with_reducible refine gate_builtin (b := .append) (xs := #[.tmp 5, .tmp 16]) rfl ?_); at_builtin; refine Kd.R_append_rows (Kd.int .i64) (w0 := w0) w0.heap.size rfl (.tmp 5) (.tmp 16) 38 3 (.int .i64 0) 8 rfl Tryd.underlying38 info3 rfl (by decide) (by omega) u9000_ l0 y247 _ _ _ (fun k_ => (P0_ k_ ∨ w.heap.size ≤ k_) ∧ some k_ ≠ (.slice Ao7 y247.length co7 : Value).ownBlock) (fun _ => False) rfl rfl ?aO ?aR (fun _ _ h => h) (fun _ h => h.elim) ?aF ?aB ?aS ?aL ?_; (case aR => repeat (first | exact (Kd.R_reads' HO249.out).2.2 | (with_reducible refine Kd.C_alloc ?_ _) | (with_reducible refine Kd.C_drewN ?_ _) | (with_reducible refine Kd.C_drew ?_))); (case aB => exact x56_3); (case aF => exact (fun k_ hk => ⟨(.inr (Nat.le_trans x56_0 hk)), Kd.fresh' (Kd.R_lt (by (with_reducible repeat (first | apply Kd.R_alloc | apply Kd.R_drewN | apply Kd.R_drew)); exact HO249.out)) k_ hk⟩)); (case aO => exact x56_5); (case aS => exact (below_size x56_3)); (case aL => have := LMc3.out; omega); intro v251 w6 ho hb hg hat; rw [← Ny250.out] at ho; have n0_ := Aside0.mk (Kd.R_after (ok := (fun k_ => (P0_ k_ ∨ w.heap.size ≤ k_))) (by (with_reducible repeat (first | apply Kd.R_alloc | apply Kd.R_drewN | apply Kd.R_drew)); exact Kd.R_mono HO249.out (fun _ hk => ⟨hk.1.1, hk.2⟩)) hg hat); have n1_ := Aside0.mk (hb); have n2_ := Aside0.mk (Kept.of_grown (S := (fun k_ => P0_ k_)) hg x56_4 (fun k_ e_ => (HO0.out.1 k_ e_).1)); have n3_ := Aside0.mk (ho); clear HO249; clear HB; clear HK; clear HO0; have HO249 := n0_; have HB := n1_; have HK := n2_; have HO252 := n3_; clear n0_ n1_ n2_ n3_; clear ho hb hg hat))
  go_ret
  exact ⟨_, x56_7, by (with_reducible repeat (first | apply Kd.R_alloc | apply Kd.R_drewN | apply Kd.R_drew)); exact Kd.R_mono HO252.out (fun _ hk => hk.1), x56_3, x56_4⟩
 ·rw [if_neg c3] at H
  exact absurd H (by simp)
end Go.Proofs.YtjolkombhdibcaaDoor.Print
end
section
namespace Go.Proofs.YtjolkombhdibcaaDoor.Print
open Go.RowKit Go.Proofs.YtjolkombhdibcaaDoor.Given Go.Proofs.YtjolkombhdibcaaDoorW.PrintWords Go.Proofs.YtjolkombhdibcaaDoorW.PrintLast Go.Proofs.YtjolkombhdibcaaDoorW.PrintMore
attribute [local go_sem] max2_int min2_int max_two min_two max_three min_three max_four min_four
set_option linter.unusedVariables false
set_option linter.unusedSimpArgs false
theorem x57_12 {p : Prop} (h : p := by first | rfl | (simp; done) | (simp [*]; done)) : p := h
theorem x57_11 {p : Prop} (h : p := by first | (with_reducible assumption) | assumption) : p := h
theorem x57_10 {p : Prop} (h : p := by have := HJ5.out; have := HJ9.out; first | omega | exact Nat.le_refl _) : p := h
theorem x57_9 {p : Prop} (h : p := by first | rfl | (simp [errW_none, errW_some] <;> rfl) | (simp [*, errW_none, errW_some] <;> rfl)) : p := h
theorem x57_8 {p : Prop} (h : p := by (with_reducible repeat (first | apply Kd.R_alloc | apply Kd.R_drewN | apply Kd.R_drew)); exact HO_6.out) : p := h
theorem x57_7 {p : Prop} (h : p := by have := HJ5.out; have := HJ9.out; have := HJ12.out; have := HK4.out; first | omega | exact Nat.le_refl _) : p := h
theorem x57_6 {p : Prop} (h : p := by have := HJ5.out; have := HJ9.out; have := HJ12.out; have := HK4.out; have := HJ20.out; first | omega | exact Nat.le_refl _) : p := h
theorem x57_5 {p : Prop} (h : p := by repeat (first | (with_reducible first | exact HB.out | apply below_alloc | apply pw_below_drewN | apply below_drew1) | exact HB.out)) : p := h
theorem x57_4 {p : Prop} (h : p := by (try simp only [List.map_toArray, List.map_cons, List.map_nil]); first | done | rfl | (simp only [List.length_drop, List.length_take]; rfl)) : p := h
theorem x57_3 {p : Prop} (h : p := by have := HJ5.out; have := HJ9.out; have := HJ12.out; have := HK4.out; have := HJ20.out; have := HJ34.out; have := HK7.out; first | omega | exact Nat.le_refl _) : p := h
theorem x57_2 {p : Prop} (h : p := by have := HJ5.out; have := HJ9.out; have := HJ12.out; have := HK4.out; have := HJ20.out; have := HJ34.out; have := HJ38.out; first | omega | exact Nat.le_refl _) : p := h
theorem x57_1 {p : Prop} (h : p := by first | rfl | (simp [errW_none, errW_some] <;> rfl) | (simp only [← hji68]; first | rfl | (simp [errW_none, errW_some] <;> rfl)) | (simp [*, errW_none, errW_some] <;> rfl)) : p := h
theorem x57_0 {p : Prop} (h : p := by have := HJ5.out; have := HJ9.out; have := HJ12.out; have := HK4.out; have := HJ20.out; have := HJ34.out; have := HJ38.out; have := HJ54.out; first | omega | exact Nat.le_refl _) : p := h
mutual
def casketref4_ParseFloat.j0 : Nat → ByteArray → Int → Bool → Option (Int × Int)
 | 0, _, _, _ => none
 | k + 1, x0, x4, x27 => if x27 = true then (if 1 ≤ (x0.size : Int) then (casketref4_ParseFloat.j1 k (x0.extract 1 x0.size) 9223372036854775808) else (none)) else (casketref4_ParseFloat.j1 k x0 x4)
def casketref4_ParseFloat.j1 : Nat → ByteArray → Int → Option (Int × Int)
 | 0, _, _ => none
 | k + 1, x0, x4 => if (x0.size : Int) < 2 then (casketref4_ParseFloat.j2 k x0 x4 true) else (if 0 < (x0.size : Int) then (if (bt x0 0) = 48 then (if 1 < (x0.size : Int) then (casketref4_ParseFloat.j2 k x0 x4 ((bt x0 1) != 120)) else (none)) else (casketref4_ParseFloat.j2 k x0 x4 true)) else (none))
def casketref4_ParseFloat.j2 : Nat → ByteArray → Int → Bool → Option (Int × Int)
 | 0, _, _, _ => none
 | k + 1, x0, x4, x42 => if x42 = true then (some (0, 20)) else (casketref4_ParseFloat.l0 k x0 x4 2 ([] : List Int) 0 0)
def casketref4_ParseFloat.l0 : Nat → ByteArray → Int → Int → List Int → Int → Int → Option (Int × Int)
 | 0, _, _, _, _, _, _ => none
 | k + 1, x0, x4, x5, x6, x7, x8 => if x5 < (x0.size : Int) then (if 0 ≤ x5 then ((casketref4_hex.f k (bt x0 x5)).bind fun t266 => (casketref4_ParseFloat.j4 k x0 x4 x5 x6 x7 x8 (decide (t266 ≥ 0)))) else (none)) else (casketref4_ParseFloat.j4 k x0 x4 x5 x6 x7 x8 false)
def casketref4_ParseFloat.j4 : Nat → ByteArray → Int → Int → List Int → Int → Int → Bool → Option (Int × Int)
 | 0, _, _, _, _, _, _, _ => none
 | k + 1, x0, x4, x5, x6, x7, x8, x53 => if x53 = true then (if 0 ≤ x5 then (if x5 < (x0.size : Int) then ((casketref4_hex.f k (bt x0 x5)).bind fun t267 => ((casketref4_nibble.f x6 t267).bind fun t268 => (casketref4_ParseFloat.l0 k x0 x4 (wrap64 (x5 + 1)) t268 (wrap64 (x7 + 1)) x8))) else (none)) else (none)) else (if x7 = 0 then (some (0, 20)) else (if x5 < (x0.size : Int) then (if 0 ≤ x5 then (casketref4_ParseFloat.j5 k x0 x4 x5 x6 x8 ((bt x0 x5) == 46)) else (none)) else (casketref4_ParseFloat.j5 k x0 x4 x5 x6 x8 false)))
def casketref4_ParseFloat.j5 : Nat → ByteArray → Int → Int → List Int → Int → Bool → Option (Int × Int)
 | 0, _, _, _, _, _, _ => none
 | k + 1, x0, x4, x5, x6, x8, x75 => if x75 = true then (casketref4_ParseFloat.l1 k x0 x4 (wrap64 (x5 + 1)) x6 x8) else (casketref4_ParseFloat.j8 k x0 x4 x5 x6 x8)
def casketref4_ParseFloat.j8 : Nat → ByteArray → Int → Int → List Int → Int → Option (Int × Int)
 | 0, _, _, _, _, _ => none
 | k + 1, x0, x4, x5, x6, x8 => if (wrap64 (x5 + 1)) ≥ (x0.size : Int) then (casketref4_ParseFloat.j9 k x0 x4 x5 x6 x8 true) else (if 0 ≤ x5 then (if x5 < (x0.size : Int) then (if (bt x0 x5) = 112 then (if 0 ≤ (wrap64 (x5 + 1)) then (if (wrap64 (x5 + 1)) < (x0.size : Int) then (if (bt x0 (wrap64 (x5 + 1))) = 43 then (casketref4_ParseFloat.j9 k x0 x4 x5 x6 x8 false) else (casketref4_ParseFloat.j9 k x0 x4 x5 x6 x8 ((bt x0 (wrap64 (x5 + 1))) != 45))) else (none)) else (none)) else (casketref4_ParseFloat.j9 k x0 x4 x5 x6 x8 true)) else (none)) else (none))
def casketref4_ParseFloat.j9 : Nat → ByteArray → Int → Int → List Int → Int → Bool → Option (Int × Int)
 | 0, _, _, _, _, _, _ => none
 | k + 1, x0, x4, x5, x6, x8, x125 => if x125 = true then (some (0, 20)) else (if 0 ≤ (wrap64 (x5 + 1)) then (if (wrap64 (x5 + 1)) < (x0.size : Int) then (if (wrap64 (x5 + 2)) = (x0.size : Int) then (casketref4_ParseFloat.j10 k x0 x4 (wrap64 (x5 + 2)) x6 x8 ((bt x0 (wrap64 (x5 + 1))) == 45) true) else (casketref4_ParseFloat.j10 k x0 x4 (wrap64 (x5 + 2)) x6 x8 ((bt x0 (wrap64 (x5 + 1))) == 45) (decide ((wrap64 ((x0.size : Int) - (wrap64 (x5 + 2)))) > 5)))) else (none)) else (none))
def casketref4_ParseFloat.j10 : Nat → ByteArray → Int → Int → List Int → Int → Bool → Bool → Option (Int × Int)
 | 0, _, _, _, _, _, _, _ => none
 | k + 1, x0, x4, x5, x6, x8, x9, x143 => if x143 = true then (some (0, 20)) else (casketref4_ParseFloat.l2 k x0 x4 x5 x6 x8 x9 0)
def casketref4_ParseFloat.l2 : Nat → ByteArray → Int → Int → List Int → Int → Bool → Int → Option (Int × Int)
 | 0, _, _, _, _, _, _, _ => none
 | k + 1, x0, x4, x5, x6, x8, x9, x10 => if x5 < (x0.size : Int) then (if 0 ≤ x5 then (if (bt x0 x5) < 48 then (some (0, 20)) else (if (bt x0 x5) > 57 then (some (0, 20)) else (casketref4_ParseFloat.l2 k x0 x4 (wrap64 (x5 + 1)) x6 x8 x9 (wrap64 ((wrap64 (10 * x10)) + (((bt x0 x5) - 48) % 256)))))) else (none)) else (if x9 = true then ((casketref4_exact.f k x4 x6 (wrap64 ((wrap64 (-x10)) - (wrap64 (4 * x8))))).bind fun bt276 => (some (bt276.1, bt276.2))) else ((casketref4_exact.f k x4 x6 (wrap64 (x10 - (wrap64 (4 * x8))))).bind fun bt278 => (some (bt278.1, bt278.2))))
def casketref4_ParseFloat.l1 : Nat → ByteArray → Int → Int → List Int → Int → Option (Int × Int)
 | 0, _, _, _, _, _ => none
 | k + 1, x0, x4, x5, x6, x8 => if x5 < (x0.size : Int) then (if 0 ≤ x5 then ((casketref4_hex.f k (bt x0 x5)).bind fun t271 => (casketref4_ParseFloat.j7 k x0 x4 x5 x6 x8 (decide (t271 ≥ 0)))) else (none)) else (casketref4_ParseFloat.j7 k x0 x4 x5 x6 x8 false)
def casketref4_ParseFloat.j7 : Nat → ByteArray → Int → Int → List Int → Int → Bool → Option (Int × Int)
 | 0, _, _, _, _, _, _ => none
 | k + 1, x0, x4, x5, x6, x8, x88 => if x88 = true then (if 0 ≤ x5 then (if x5 < (x0.size : Int) then ((casketref4_hex.f k (bt x0 x5)).bind fun t272 => ((casketref4_nibble.f x6 t272).bind fun t273 => (casketref4_ParseFloat.l1 k x0 x4 (wrap64 (x5 + 1)) t273 (wrap64 (x8 + 1))))) else (none)) else (none)) else (if x8 = 0 then (some (0, 20)) else (casketref4_ParseFloat.j8 k x0 x4 x5 x6 x8))
end
def casketref4_ParseFloat.f (k : Nat) (a0 : ByteArray) : Option (Int × Int) := if (a0.size : Int) > 64 then (some (0, 2)) else (if a0.toList = ([110, 97, 110] : List UInt8) then (some (9221120237041090560, 0)) else (if a0.toList = ([105, 110, 102] : List UInt8) then (some (9218868437227405312, 0)) else (if a0.toList = ([45, 105, 110, 102] : List UInt8) then (some (18442240474082181120, 0)) else (if a0.toList = ([] : List UInt8) then (casketref4_ParseFloat.j0 k a0 0 false) else (if 0 < (a0.size : Int) then (casketref4_ParseFloat.j0 k a0 0 ((bt a0 0) == 45)) else (none))))))
set_option maxHeartbeats 8000000 in
set_option maxRecDepth 100000 in
theorem casketref4_ParseFloat.calls (k : Nat) (a0 : ByteArray) (r1 : Int) (r2 : Int) (w : World) (h : casketref4_ParseFloat.f k a0 = some (r1, r2)) :
  Calls Tryd.prog 51 #[.string a0] w fun e w' => e = .returned (.tuple #[.int .u64 r1, .int .i64 r2]) ∧ Below w.heap.size w w' := by
 have HB := Aside0.mk (Below.refl w.heap.size w)
 have H : (if (a0.size : Int) > 64 then (some (0, 2)) else (if a0.toList = ([110, 97, 110] : List UInt8) then (some (9221120237041090560, 0)) else (if a0.toList = ([105, 110, 102] : List UInt8) then (some (9218868437227405312, 0)) else (if a0.toList = ([45, 105, 110, 102] : List UInt8) then (some (18442240474082181120, 0)) else (if a0.toList = ([] : List UInt8) then (casketref4_ParseFloat.j0 k a0 0 false) else (if 0 < (a0.size : Int) then (casketref4_ParseFloat.j0 k a0 0 ((bt a0 0) == 45)) else (none))))))) = some (r1, r2) := h
 clear h
 by_cases c2 : (a0.size : Int) > 64
 ·rw [if_pos c2] at H
  have c2b0 : decide (64 < (a0.size : Int)) = true := decide_eq_true c2
  have c2b1 : decide (64 < a0.size) = true := decide_eq_true (by omega)
  clear c2
  simp only [Option.some.injEq, Prod.mk.injEq] at H
  obtain ⟨rfl, rfl⟩ := H
  go_enter Tryd.func51, Tryd.ntmps51
  go_wp2
  go_ret2
  exact ⟨x57_9, x57_5⟩
 ·rw [if_neg c2] at H
  have c2b0 : decide (64 < (a0.size : Int)) = false := decide_eq_false c2
  have c2b1 : decide (64 < a0.size) = false := decide_eq_false (by omega)
  clear c2
  by_cases c3 : a0.toList = ([110, 97, 110] : List UInt8)
  ·rw [if_pos c3] at H
   have c3b0 := beq_iff_eq.mpr c3
   have c3b1 := bne_eq_false_iff_eq.mpr c3
   clear c3
   simp only [Option.some.injEq, Prod.mk.injEq] at H
   obtain ⟨rfl, rfl⟩ := H
   go_enter Tryd.func51, Tryd.ntmps51
   go_wp2
   go_ret2
   exact ⟨x57_9, x57_5⟩
  ·rw [if_neg c3] at H
   have c3b0 := beq_eq_false_iff_ne.mpr c3
   have c3b1 := bne_iff_ne.mpr c3
   by_cases c4 : a0.toList = ([105, 110, 102] : List UInt8)
   ·rw [if_pos c4] at H
    have c4b0 := beq_iff_eq.mpr c4
    have c4b1 := bne_eq_false_iff_eq.mpr c4
    clear c4
    simp only [Option.some.injEq, Prod.mk.injEq] at H
    obtain ⟨rfl, rfl⟩ := H
    go_enter Tryd.func51, Tryd.ntmps51
    go_wp2
    go_ret2
    exact ⟨x57_9, x57_5⟩
   ·rw [if_neg c4] at H
    have c4b0 := beq_eq_false_iff_ne.mpr c4
    have c4b1 := bne_iff_ne.mpr c4
    by_cases c5 : a0.toList = ([45, 105, 110, 102] : List UInt8)
    ·rw [if_pos c5] at H
     have c5b0 := beq_iff_eq.mpr c5
     have c5b1 := bne_eq_false_iff_eq.mpr c5
     clear c5
     simp only [Option.some.injEq, Prod.mk.injEq] at H
     obtain ⟨rfl, rfl⟩ := H
     go_enter Tryd.func51, Tryd.ntmps51
     go_wp2
     go_ret2
     exact ⟨x57_9, x57_5⟩
    ·rw [if_neg c5] at H
     have c5b0 := beq_eq_false_iff_ne.mpr c5
     have c5b1 := bne_iff_ne.mpr c5
     have HC6 := Aside0.mk H
     clear H
     go_enter Tryd.func51, Tryd.ntmps51
     go_upto_region 11 with (fail)
     go_cut [27] (fun v27 wc => ∃ (kq : Nat) (x27_5 : Bool), v27 = .bool x27_5 ∧ Aside0 (casketref4_ParseFloat.j0 kq a0 0 x27_5 = some (r1, r2)) ∧ Aside0 (kq ≤ k) ∧ Aside0 (Below w.heap.size w wc))
     case first => as_aux_lemma =>
      have H := HC6.out
      clear HC6
      by_cases c7 : a0.toList = ([] : List UInt8)
      ·rw [if_pos c7] at H
       have c7b0 := beq_iff_eq.mpr c7
       have c7b1 := bne_eq_false_iff_eq.mpr c7
       clear c7
       (first | rw [c7b0] | (simp only [i64_w, i32_w]; rw [c7b0]) | skip)
       have H' := Aside0.mk H
       clear H
       go_wp2
       go_meet
       case rel => exact ⟨_, (false), x57_12, H', ⟨by first | omega | exact Nat.le_refl _⟩, ⟨x57_5⟩⟩
      ·rw [if_neg c7] at H
       have c7b0 := beq_eq_false_iff_ne.mpr c7
       have c7b1 := bne_iff_ne.mpr c7
       (first | rw [c7b0] | (simp only [i64_w, i32_w]; rw [c7b0]) | skip)
       by_cases c8 : 0 < (a0.size : Int)
       ·rw [if_pos c8] at H
        have c8b0 := decide_eq_true c8
        have c8b1 : decide (0 < a0.size) = true := decide_eq_true (by omega)
        clear c8
        have H' := Aside0.mk H
        clear H
        have p9 : 0 ≤ (0 : Int) := (by omega)
        have q9 : 0 < a0.size := (by have : (0 : Int) < (a0.size : Int) := of_decide_eq_true x57_11; omega)
        have hx9 : ∀ h : 0 < a0.size, ((a0[0]'h).toNat : Int) = bt a0 0 := bt_at a0 0
        clear p9
        have qi9 : (0 < (a0.size : Int)) = True := eq_true (of_decide_eq_true x57_11)
        replace q9 := eq_true q9
        go_wp2
        go_meet
        case rel => exact ⟨_, (((bt a0 0) == 45)), x57_12, H', ⟨by first | omega | exact Nat.le_refl _⟩, ⟨x57_5⟩⟩
       ·rw [if_neg c8] at H
        exact absurd H (by simp)
     case rest => as_aux_lemma =>
      clear HC6
      obtain ⟨kq, x27_5, rfl, HA, HJ5, HB⟩ := hcut
      cases kq with
      | zero => exact absurd HA.out (by simp [casketref4_ParseFloat.j0])
      | succ kj5 =>
       have H := HA.out
       clear HA
       simp only [casketref4_ParseFloat.j0] at H
       have HC10 := Aside0.mk H
       clear H
       go_upto_if 27 with (fail)
       go_cut [0, 4] (fun v0 v4 wc => ∃ (kq : Nat) (x0_9 : ByteArray) (x4_9 : Int), v0 = .string x0_9 ∧ v4 = .int .u64 x4_9 ∧ Aside0 (casketref4_ParseFloat.j1 kq x0_9 x4_9 = some (r1, r2)) ∧ Aside0 (kq ≤ kj5) ∧ Aside0 (Below w.heap.size w wc))
       case first => as_aux_lemma =>
        have H := HC10.out
        clear HC10
        by_cases c11 : x27_5 = true
        ·subst c11
         rw [if_pos rfl] at H
         by_cases c12 : 1 ≤ (a0.size : Int)
         ·rw [if_pos c12] at H
          have c12b0 := eq_true c12
          have c12b1 := decide_eq_true c12
          clear c12
          have H' := Aside0.mk H
          clear H
          go_wp2
          go_meet
          case rel => exact ⟨_, (a0.extract 1 a0.size), (9223372036854775808), x57_12, x57_12, H', ⟨by have := HJ5.out; first | omega | exact Nat.le_refl _⟩, ⟨x57_5⟩⟩
         ·rw [if_neg c12] at H
          exact absurd H (by simp)
        ·replace c11 := Bool.eq_false_iff.mpr c11
         subst c11
         rw [if_neg (show ¬ (false = true) by decide)] at H
         have H' := Aside0.mk H
         clear H
         go_wp2
         go_meet
         case rel => exact ⟨_, (a0), (0), x57_12, x57_12, H', ⟨by have := HJ5.out; first | omega | exact Nat.le_refl _⟩, ⟨x57_5⟩⟩
       case rest => as_aux_lemma =>
        clear HC10
        obtain ⟨kq, x0_9, x4_9, rfl, rfl, HA, HJ9, HB⟩ := hcut
        cases kq with
        | zero => exact absurd HA.out (by simp [casketref4_ParseFloat.j1])
        | succ kj9 =>
         have H := HA.out
         clear HA
         simp only [casketref4_ParseFloat.j1] at H
         have HC13 := Aside0.mk H
         clear H
         go_upto_region 14 with (fail)
         go_cut [42] (fun v42 wc => ∃ (kq : Nat) (x42_12 : Bool), v42 = .bool x42_12 ∧ Aside0 (casketref4_ParseFloat.j2 kq x0_9 x4_9 x42_12 = some (r1, r2)) ∧ Aside0 (kq ≤ kj9) ∧ Aside0 (Below w.heap.size w wc))
         case first => as_aux_lemma =>
          have H := HC13.out
          clear HC13
          by_cases c14 : (x0_9.size : Int) < 2
          ·rw [if_pos c14] at H
           have c14b0 := decide_eq_true c14
           have c14b1 : decide (x0_9.size < 2) = true := decide_eq_true (by omega)
           clear c14
           (first | rw [c14b0] | (simp only [i64_w, i32_w]; rw [c14b0]) | skip)
           have H' := Aside0.mk H
           clear H
           go_wp2
           go_meet
           case rel => exact ⟨_, (true), x57_12, H', ⟨x57_10⟩, ⟨x57_5⟩⟩
          ·rw [if_neg c14] at H
           have c14b0 := decide_eq_false c14
           have c14b1 : decide (x0_9.size < 2) = false := decide_eq_false (by omega)
           clear c14
           (first | rw [c14b0] | (simp only [i64_w, i32_w]; rw [c14b0]) | skip)
           by_cases c15 : 0 < (x0_9.size : Int)
           ·rw [if_pos c15] at H
            have c15b0 := decide_eq_true c15
            have c15b1 : decide (0 < x0_9.size) = true := decide_eq_true (by omega)
            clear c15
            by_cases c17 : (bt x0_9 0) = 48
            ·rw [if_pos c17] at H
             have c17b0 := beq_iff_eq.mpr c17
             have c17b1 := bne_eq_false_iff_eq.mpr c17
             clear c17
             by_cases c18 : 1 < (x0_9.size : Int)
             ·rw [if_pos c18] at H
              have c18b0 := decide_eq_true c18
              have c18b1 : decide (1 < x0_9.size) = true := decide_eq_true (by omega)
              clear c18
              have H' := Aside0.mk H
              clear H
              have p16 : 0 ≤ (0 : Int) := (by omega)
              have q16 : 0 < x0_9.size := (by have : (0 : Int) < (x0_9.size : Int) := of_decide_eq_true x57_11; omega)
              have hx16 : ∀ h : 0 < x0_9.size, ((x0_9[0]'h).toNat : Int) = bt x0_9 0 := bt_at x0_9 0
              clear p16
              have qi16 : (0 < (x0_9.size : Int)) = True := eq_true (of_decide_eq_true x57_11)
              replace q16 := eq_true q16
              have p19 : 0 ≤ (1 : Int) := (by omega)
              have q19 : 1 < x0_9.size := (by have : (1 : Int) < (x0_9.size : Int) := of_decide_eq_true x57_11; omega)
              have hx19 : ∀ h : 1 < x0_9.size, ((x0_9[1]'h).toNat : Int) = bt x0_9 1 := bt_at x0_9 1
              clear p19
              have qi19 : (1 < (x0_9.size : Int)) = True := eq_true (of_decide_eq_true x57_11)
              replace q19 := eq_true q19
              go_wp2
              go_meet
              case rel => exact ⟨_, (((bt x0_9 1) != 120)), x57_12, H', ⟨x57_10⟩, ⟨x57_5⟩⟩
             ·rw [if_neg c18] at H
              exact absurd H (by simp)
            ·rw [if_neg c17] at H
             have c17b0 := beq_eq_false_iff_ne.mpr c17
             have c17b1 := bne_iff_ne.mpr c17
             have H' := Aside0.mk H
             clear H
             have p16 : 0 ≤ (0 : Int) := (by omega)
             have q16 : 0 < x0_9.size := (by have : (0 : Int) < (x0_9.size : Int) := of_decide_eq_true x57_11; omega)
             have hx16 : ∀ h : 0 < x0_9.size, ((x0_9[0]'h).toNat : Int) = bt x0_9 0 := bt_at x0_9 0
             clear p16
             have qi16 : (0 < (x0_9.size : Int)) = True := eq_true (of_decide_eq_true x57_11)
             replace q16 := eq_true q16
             go_wp2
             go_meet
             case rel => exact ⟨_, (true), x57_12, H', ⟨x57_10⟩, ⟨x57_5⟩⟩
           ·rw [if_neg c15] at H
            exact absurd H (by simp)
         case rest => as_aux_lemma =>
          clear HC13
          obtain ⟨kq, x42_12, rfl, HA, HJ12, HB⟩ := hcut
          cases kq with
          | zero => exact absurd HA.out (by simp [casketref4_ParseFloat.j2])
          | succ kj12 =>
           have H := HA.out
           clear HA
           simp only [casketref4_ParseFloat.j2] at H
           by_cases c20 : x42_12 = true
           ·subst c20
            rw [if_pos rfl] at H
            simp only [Option.some.injEq, Prod.mk.injEq] at H
            obtain ⟨rfl, rfl⟩ := H
            go_wp2
            go_ret2
            exact ⟨x57_9, x57_5⟩
           ·replace c20 := Bool.eq_false_iff.mpr c20
            subst c20
            rw [if_neg (show ¬ (false = true) by decide)] at H
            have H' := Aside0.mk H
            clear H
            go_wp2
            go_loopg [5, 6, 7] kj12 (fun kq v5 v6 v7 w' => ∃ (x5_4 : Int) (x6_4 : List Int) (x7_4 : Int), v5 = .int .i64 x5_4 ∧ v7 = .int .i64 x7_4 ∧ Aside0 (casketref4_ParseFloat.l0 kq x0_9 x4_9 x5_4 x6_4 x7_4 0 = some (r1, r2)) ∧ Aside0 (kq ≤ kj12) ∧ Aside0 (Kd.R (Kd.int .i64) 3 w' w.heap.size (fun _ => True) v6 x6_4) ∧ Aside0 (Below w.heap.size w w'))
            case atStart => exact ⟨(2), (([] : List Int)), (0), x57_12, x57_12, H', ⟨Nat.le_refl _⟩, ⟨by first | exact Kd.R_nil _ _ _ _ _ | exact Kd.N_nil _ _ _ _ _ | exact Kd.V_nil _ _ _ _ _ | exact Kd.Q_nil _ _ _ _ _ | exact Kd.S_nil _ _ _ _ _⟩, ⟨x57_5⟩⟩
            case round => as_aux_lemma =>
             clear H'
             obtain ⟨x5_4, x6_4, x7_4, rfl, rfl, HA, HK4, HO_6, HB⟩ := hrel
             cases gk with
             | zero => exact absurd HA.out (by simp [casketref4_ParseFloat.l0])
             | succ k4 =>
              have H := HA.out
              clear HA
              simp only [casketref4_ParseFloat.l0] at H
              have HC21 := Aside0.mk H
              clear H
              go_upto_region 19 with (fail)
              go_cut [53] (fun v53 wc => ∃ (kq : Nat) (x53_20 : Bool), v53 = .bool x53_20 ∧ Aside0 (casketref4_ParseFloat.j4 kq x0_9 x4_9 x5_4 x6_4 x7_4 0 x53_20 = some (r1, r2)) ∧ Aside0 (kq ≤ k4) ∧ Aside0 (Kd.R (Kd.int .i64) 3 wc w.heap.size (fun _ => True) u6 x6_4) ∧ Aside0 (Below w.heap.size w wc))
              case first => as_aux_lemma =>
               have H := HC21.out
               clear HC21
               by_cases c22 : x5_4 < (x0_9.size : Int)
               ·rw [if_pos c22] at H
                have c22b0 := decide_eq_true c22
                clear c22
                (first | rw [c22b0] | (simp only [i64_w, i32_w]; rw [c22b0]) | skip)
                by_cases c23 : 0 ≤ x5_4
                ·rw [if_pos c23] at H
                 have c23b0 := decide_eq_true c23
                 clear c23
                 obtain ⟨t266, A250, H⟩ := Option.bind_eq_some_iff.mp H
                 have A25 := Aside0.mk A250
                 clear A250
                 have H' := Aside0.mk H
                 clear H
                 have p24 : 0 ≤ (x5_4 : Int) := of_decide_eq_true x57_11
                 have q24 : x5_4 < (x0_9.size : Int) := of_decide_eq_true x57_11
                 have hx24 := bt_at x0_9 x5_4
                 replace p24 := eq_true p24
                 replace q24 := eq_true q24
                 go_wp2_with (first | (go_at_call 70; (with_reducible refine (casketref4_hex.calls k4 (bt x0_9 x5_4) t266 _ A25.out).mono ?_); rintro e w' ⟨rfl, ⟨nd, rfl⟩⟩))
                 go_meet
                 case rel => exact ⟨_, (decide (t266 ≥ 0)), x57_12, H', ⟨x57_7⟩, ⟨x57_8⟩, ⟨x57_5⟩⟩
                ·rw [if_neg c23] at H
                 exact absurd H (by simp)
               ·rw [if_neg c22] at H
                have c22b0 := decide_eq_false c22
                clear c22
                (first | rw [c22b0] | (simp only [i64_w, i32_w]; rw [c22b0]) | skip)
                have H' := Aside0.mk H
                clear H
                go_wp2
                go_meet
                case rel => exact ⟨_, (false), x57_12, H', ⟨x57_7⟩, ⟨x57_8⟩, ⟨x57_5⟩⟩
              case rest => as_aux_lemma =>
               clear HC21
               obtain ⟨kq, x53_20, rfl, HA, HJ20, HO_6, HB⟩ := hcut
               cases kq with
               | zero => exact absurd HA.out (by simp [casketref4_ParseFloat.j4])
               | succ kj20 =>
                have H := HA.out
                clear HA
                simp only [casketref4_ParseFloat.j4] at H
                by_cases c26 : x53_20 = true
                ·subst c26
                 rw [if_pos rfl] at H
                 by_cases c27 : 0 ≤ x5_4
                 ·rw [if_pos c27] at H
                  have c27b0 := decide_eq_true c27
                  clear c27
                  by_cases c28 : x5_4 < (x0_9.size : Int)
                  ·rw [if_pos c28] at H
                   have c28b0 := decide_eq_true c28
                   clear c28
                   obtain ⟨t267, A300, H⟩ := Option.bind_eq_some_iff.mp H
                   have A30 := Aside0.mk A300
                   clear A300
                   obtain ⟨t268, A310, H⟩ := Option.bind_eq_some_iff.mp H
                   have A31 := Aside0.mk A310
                   clear A310
                   have H' := Aside0.mk H
                   clear H
                   have p29 : 0 ≤ (x5_4 : Int) := of_decide_eq_true x57_11
                   have q29 : x5_4 < (x0_9.size : Int) := of_decide_eq_true x57_11
                   have hx29 := bt_at x0_9 x5_4
                   replace p29 := eq_true p29
                   replace q29 := eq_true q29
                   go_wp2_with (first | ((with_reducible refine gate_callee (f := 70) rfl ?_); refine goesL_ (some 58) rfl rfl Tryd.func70 (by kernel_rfl) rfl #[.int .u8 (bt x0_9 x5_4)] rfl x57_4 ?_; (with_reducible refine (casketref4_hex.calls kj20 (bt x0_9 x5_4) t267 _ A30.out).mono ?_); rintro e w' ⟨rfl, ⟨nd, rfl⟩⟩; refine ⟨_, rfl, ?_⟩; obtain ⟨Ao32, co32, eo32⟩ := Kd.R_slice HO_6.out; subst eo32) | ((with_reducible refine gate_callee (f := 71) rfl ?_); refine goesL_ (some 59) rfl rfl Tryd.func71 (by kernel_rfl) rfl #[.slice Ao32 x6_4.length co32, .int .i64 t267] rfl x57_4 ?_; (with_reducible refine (casketref4_nibble.calls (fun k_ => some k_ = (.slice Ao32 x6_4.length co32 : Value).ownBlock) (.slice Ao32 x6_4.length co32) x6_4 t267 t268 w _ ?side1 ?side2 A31.out).mono ?_); (case side1 => repeat (first | (with_reducible first | exact HB.out | apply below_alloc | apply pw_below_drewN | apply below_drew1) | exact HB.out)); (case side2 => exact Kd.R_tight rfl HO_6.out); rintro e w33 ⟨v269, rfl, ho0, hb, hkp⟩; refine ⟨_, rfl, ?_⟩; have n0_ := Aside0.mk (Kd.R_mono (ok' := fun k_ => True) ho0 (fun k_ hk_ => trivial)); have n1_ := Aside0.mk (hb); clear HB; clear HO_6; have HO270 := n0_; have HB := n1_; clear n0_ n1_))
                   go_roundg kj20
                   case measure => have := HJ5.out; have := HJ9.out; have := HJ12.out; have := HK4.out; have := HJ20.out; omega
                   case rel => exact ⟨(wrap64 (x5_4 + 1)), (t268), (wrap64 (x7_4 + 1)), x57_12, x57_12, H', ⟨by have := HJ5.out; have := HJ9.out; have := HJ12.out; have := HK4.out; have := HJ20.out; omega⟩, ⟨by (with_reducible repeat (first | apply Kd.R_alloc | apply Kd.R_drewN | apply Kd.R_drew)); exact HO270.out⟩, ⟨x57_5⟩⟩
                  ·rw [if_neg c28] at H
                   exact absurd H (by simp)
                 ·rw [if_neg c27] at H
                  exact absurd H (by simp)
                ·replace c26 := Bool.eq_false_iff.mpr c26
                 subst c26
                 rw [if_neg (show ¬ (false = true) by decide)] at H
                 by_cases c34 : x7_4 = 0
                 ·rw [if_pos c34] at H
                  have c34b0 := beq_iff_eq.mpr c34
                  have c34b1 := bne_eq_false_iff_eq.mpr c34
                  clear c34
                  simp only [Option.some.injEq, Prod.mk.injEq] at H
                  obtain ⟨rfl, rfl⟩ := H
                  go_wp2
                  go_ret2
                  exact ⟨x57_9, x57_5⟩
                 ·rw [if_neg c34] at H
                  have c34b0 := beq_eq_false_iff_ne.mpr c34
                  have c34b1 := bne_iff_ne.mpr c34
                  have HC35 := Aside0.mk H
                  clear H
                  go_upto_region 25 with (fail)
                  go_cut [75] (fun v75 wc => ∃ (kq : Nat) (x75_34 : Bool), v75 = .bool x75_34 ∧ Aside0 (casketref4_ParseFloat.j5 kq x0_9 x4_9 x5_4 x6_4 0 x75_34 = some (r1, r2)) ∧ Aside0 (kq ≤ kj20) ∧ Aside0 (Kd.R (Kd.int .i64) 3 wc w.heap.size (fun _ => True) u6 x6_4) ∧ Aside0 (Below w.heap.size w wc))
                  case first => as_aux_lemma =>
                   have H := HC35.out
                   clear HC35
                   by_cases c36 : x5_4 < (x0_9.size : Int)
                   ·rw [if_pos c36] at H
                    have c36b0 := decide_eq_true c36
                    clear c36
                    (first | rw [c36b0] | (simp only [i64_w, i32_w]; rw [c36b0]) | skip)
                    by_cases c37 : 0 ≤ x5_4
                    ·rw [if_pos c37] at H
                     have c37b0 := decide_eq_true c37
                     clear c37
                     have H' := Aside0.mk H
                     clear H
                     have p38 : 0 ≤ (x5_4 : Int) := of_decide_eq_true x57_11
                     have q38 : x5_4 < (x0_9.size : Int) := of_decide_eq_true x57_11
                     have hx38 := bt_at x0_9 x5_4
                     replace p38 := eq_true p38
                     replace q38 := eq_true q38
                     go_wp2
                     go_meet
                     case rel => exact ⟨_, (((bt x0_9 x5_4) == 46)), x57_12, H', ⟨x57_6⟩, ⟨x57_8⟩, ⟨x57_5⟩⟩
                    ·rw [if_neg c37] at H
                     exact absurd H (by simp)
                   ·rw [if_neg c36] at H
                    have c36b0 := decide_eq_false c36
                    clear c36
                    (first | rw [c36b0] | (simp only [i64_w, i32_w]; rw [c36b0]) | skip)
                    have H' := Aside0.mk H
                    clear H
                    go_wp2
                    go_meet
                    case rel => exact ⟨_, (false), x57_12, H', ⟨x57_6⟩, ⟨x57_8⟩, ⟨x57_5⟩⟩
                  case rest => as_aux_lemma =>
                   clear HC35
                   obtain ⟨kq, x75_34, rfl, HA, HJ34, HO_6, HB⟩ := hcut
                   cases kq with
                   | zero => exact absurd HA.out (by simp [casketref4_ParseFloat.j5])
                   | succ kj34 =>
                    have H := HA.out
                    clear HA
                    simp only [casketref4_ParseFloat.j5] at H
                    have HC39 := Aside0.mk H
                    clear H
                    go_upto_if 75 with (fail)
                    go_cut [5, 6, 8] (fun v5 v6 v8 wc => ∃ (kq : Nat) (x5_38 : Int) (x6_38 : List Int) (x8_38 : Int), v5 = .int .i64 x5_38 ∧ v8 = .int .i64 x8_38 ∧ Aside0 (casketref4_ParseFloat.j8 kq x0_9 x4_9 x5_38 x6_38 x8_38 = some (r1, r2)) ∧ Aside0 (kq ≤ kj34) ∧ Aside0 (Kd.R (Kd.int .i64) 3 wc w.heap.size (fun _ => True) v6 x6_38) ∧ Aside0 (Below w.heap.size w wc))
                    case first => as_aux_lemma =>
                     have H := HC39.out
                     clear HC39
                     by_cases c40 : x75_34 = true
                     ·subst c40
                      rw [if_pos rfl] at H
                      have H' := Aside0.mk H
                      clear H
                      go_wp2
                      go_loopg [5, 6, 8] kj34 (fun kq v5 v6 v8 w' => ∃ (x5_7 : Int) (x6_7 : List Int) (x8_7 : Int), v5 = .int .i64 x5_7 ∧ v8 = .int .i64 x8_7 ∧ Aside0 (casketref4_ParseFloat.l1 kq x0_9 x4_9 x5_7 x6_7 x8_7 = some (r1, r2)) ∧ Aside0 (kq ≤ kj34) ∧ Aside0 (Kd.R (Kd.int .i64) 3 w' w.heap.size (fun _ => True) v6 x6_7) ∧ Aside0 (Below w.heap.size w w'))
                      case atStart => exact ⟨(wrap64 (x5_4 + 1)), (x6_4), (0), x57_12, x57_12, H', ⟨Nat.le_refl _⟩, ⟨x57_8⟩, ⟨x57_5⟩⟩
                      case round => as_aux_lemma =>
                       clear H'
                       obtain ⟨x5_7, x6_7, x8_7, rfl, rfl, HA, HK7, HO_6, HB⟩ := hrel
                       cases gk with
                       | zero => exact absurd HA.out (by simp [casketref4_ParseFloat.l1])
                       | succ k7 =>
                        have H := HA.out
                        clear HA
                        simp only [casketref4_ParseFloat.l1] at H
                        have HC41 := Aside0.mk H
                        clear H
                        go_upto_region 27 with (fail)
                        go_cut [88] (fun v88 wc => ∃ (kq : Nat) (x88_40 : Bool), v88 = .bool x88_40 ∧ Aside0 (casketref4_ParseFloat.j7 kq x0_9 x4_9 x5_7 x6_7 x8_7 x88_40 = some (r1, r2)) ∧ Aside0 (kq ≤ k7) ∧ Aside0 (Kd.R (Kd.int .i64) 3 wc w.heap.size (fun _ => True) u6 x6_7) ∧ Aside0 (Below w.heap.size w wc))
                        case first => as_aux_lemma =>
                         have H := HC41.out
                         clear HC41
                         by_cases c42 : x5_7 < (x0_9.size : Int)
                         ·rw [if_pos c42] at H
                          have c42b0 := decide_eq_true c42
                          clear c42
                          (first | rw [c42b0] | (simp only [i64_w, i32_w]; rw [c42b0]) | skip)
                          by_cases c43 : 0 ≤ x5_7
                          ·rw [if_pos c43] at H
                           have c43b0 := decide_eq_true c43
                           clear c43
                           obtain ⟨t271, A450, H⟩ := Option.bind_eq_some_iff.mp H
                           have A45 := Aside0.mk A450
                           clear A450
                           have H' := Aside0.mk H
                           clear H
                           have p44 : 0 ≤ (x5_7 : Int) := of_decide_eq_true x57_11
                           have q44 : x5_7 < (x0_9.size : Int) := of_decide_eq_true x57_11
                           have hx44 := bt_at x0_9 x5_7
                           replace p44 := eq_true p44
                           replace q44 := eq_true q44
                           go_wp2_with (first | (go_at_call 70; (with_reducible refine (casketref4_hex.calls k7 (bt x0_9 x5_7) t271 _ A45.out).mono ?_); rintro e w' ⟨rfl, ⟨nd, rfl⟩⟩))
                           go_meet
                           case rel => exact ⟨_, (decide (t271 ≥ 0)), x57_12, H', ⟨x57_3⟩, ⟨x57_8⟩, ⟨x57_5⟩⟩
                          ·rw [if_neg c43] at H
                           exact absurd H (by simp)
                         ·rw [if_neg c42] at H
                          have c42b0 := decide_eq_false c42
                          clear c42
                          (first | rw [c42b0] | (simp only [i64_w, i32_w]; rw [c42b0]) | skip)
                          have H' := Aside0.mk H
                          clear H
                          go_wp2
                          go_meet
                          case rel => exact ⟨_, (false), x57_12, H', ⟨x57_3⟩, ⟨x57_8⟩, ⟨x57_5⟩⟩
                        case rest => as_aux_lemma =>
                         clear HC41
                         obtain ⟨kq, x88_40, rfl, HA, HJ40, HO_6, HB⟩ := hcut
                         cases kq with
                         | zero => exact absurd HA.out (by simp [casketref4_ParseFloat.j7])
                         | succ kj40 =>
                          have H := HA.out
                          clear HA
                          simp only [casketref4_ParseFloat.j7] at H
                          by_cases c46 : x88_40 = true
                          ·subst c46
                           rw [if_pos rfl] at H
                           by_cases c47 : 0 ≤ x5_7
                           ·rw [if_pos c47] at H
                            have c47b0 := decide_eq_true c47
                            clear c47
                            by_cases c48 : x5_7 < (x0_9.size : Int)
                            ·rw [if_pos c48] at H
                             have c48b0 := decide_eq_true c48
                             clear c48
                             obtain ⟨t272, A500, H⟩ := Option.bind_eq_some_iff.mp H
                             have A50 := Aside0.mk A500
                             clear A500
                             obtain ⟨t273, A510, H⟩ := Option.bind_eq_some_iff.mp H
                             have A51 := Aside0.mk A510
                             clear A510
                             have H' := Aside0.mk H
                             clear H
                             have p49 : 0 ≤ (x5_7 : Int) := of_decide_eq_true x57_11
                             have q49 : x5_7 < (x0_9.size : Int) := of_decide_eq_true x57_11
                             have hx49 := bt_at x0_9 x5_7
                             replace p49 := eq_true p49
                             replace q49 := eq_true q49
                             go_wp2_with (first | ((with_reducible refine gate_callee (f := 70) rfl ?_); refine goesL_ (some 93) rfl rfl Tryd.func70 (by kernel_rfl) rfl #[.int .u8 (bt x0_9 x5_7)] rfl x57_4 ?_; (with_reducible refine (casketref4_hex.calls kj40 (bt x0_9 x5_7) t272 _ A50.out).mono ?_); rintro e w' ⟨rfl, ⟨nd, rfl⟩⟩; refine ⟨_, rfl, ?_⟩; obtain ⟨Ao52, co52, eo52⟩ := Kd.R_slice HO_6.out; subst eo52) | ((with_reducible refine gate_callee (f := 71) rfl ?_); refine goesL_ (some 94) rfl rfl Tryd.func71 (by kernel_rfl) rfl #[.slice Ao52 x6_7.length co52, .int .i64 t272] rfl x57_4 ?_; (with_reducible refine (casketref4_nibble.calls (fun k_ => some k_ = (.slice Ao52 x6_7.length co52 : Value).ownBlock) (.slice Ao52 x6_7.length co52) x6_7 t272 t273 w _ ?side1 ?side2 A51.out).mono ?_); (case side1 => repeat (first | (with_reducible first | exact HB.out | apply below_alloc | apply pw_below_drewN | apply below_drew1) | exact HB.out)); (case side2 => exact Kd.R_tight rfl HO_6.out); rintro e w53 ⟨v274, rfl, ho0, hb, hkp⟩; refine ⟨_, rfl, ?_⟩; have n0_ := Aside0.mk (Kd.R_mono (ok' := fun k_ => True) ho0 (fun k_ hk_ => trivial)); have n1_ := Aside0.mk (hb); clear HB; clear HO_6; have HO275 := n0_; have HB := n1_; clear n0_ n1_))
                             go_roundg kj40
                             case measure => have := HJ5.out; have := HJ9.out; have := HJ12.out; have := HK4.out; have := HJ20.out; have := HJ34.out; have := HK7.out; have := HJ40.out; omega
                             case rel => exact ⟨(wrap64 (x5_7 + 1)), (t273), (wrap64 (x8_7 + 1)), x57_12, x57_12, H', ⟨by have := HJ5.out; have := HJ9.out; have := HJ12.out; have := HK4.out; have := HJ20.out; have := HJ34.out; have := HK7.out; have := HJ40.out; omega⟩, ⟨by (with_reducible repeat (first | apply Kd.R_alloc | apply Kd.R_drewN | apply Kd.R_drew)); exact HO275.out⟩, ⟨x57_5⟩⟩
                            ·rw [if_neg c48] at H
                             exact absurd H (by simp)
                           ·rw [if_neg c47] at H
                            exact absurd H (by simp)
                          ·replace c46 := Bool.eq_false_iff.mpr c46
                           subst c46
                           rw [if_neg (show ¬ (false = true) by decide)] at H
                           by_cases c54 : x8_7 = 0
                           ·rw [if_pos c54] at H
                            have c54b0 := beq_iff_eq.mpr c54
                            have c54b1 := bne_eq_false_iff_eq.mpr c54
                            clear c54
                            simp only [Option.some.injEq, Prod.mk.injEq] at H
                            obtain ⟨rfl, rfl⟩ := H
                            go_wp2
                            go_ret2
                            exact ⟨x57_9, x57_5⟩
                           ·rw [if_neg c54] at H
                            have c54b0 := beq_eq_false_iff_ne.mpr c54
                            have c54b1 := bne_iff_ne.mpr c54
                            have H' := Aside0.mk H
                            clear H
                            go_wp2
                            go_meet
                            case rel => exact ⟨_, (x5_7), (x6_7), (x8_7), x57_12, x57_12, H', ⟨by have := HJ5.out; have := HJ9.out; have := HJ12.out; have := HK4.out; have := HJ20.out; have := HJ34.out; have := HK7.out; have := HJ40.out; first | omega | exact Nat.le_refl _⟩, ⟨x57_8⟩, ⟨x57_5⟩⟩
                     ·replace c40 := Bool.eq_false_iff.mpr c40
                      subst c40
                      rw [if_neg (show ¬ (false = true) by decide)] at H
                      have H' := Aside0.mk H
                      clear H
                      go_wp2
                      go_meet
                      case rel => exact ⟨_, (x5_4), (x6_4), (0), x57_12, x57_12, H', ⟨by have := HJ5.out; have := HJ9.out; have := HJ12.out; have := HK4.out; have := HJ20.out; have := HJ34.out; first | omega | exact Nat.le_refl _⟩, ⟨x57_8⟩, ⟨x57_5⟩⟩
                    case rest => as_aux_lemma =>
                     clear HC39
                     obtain ⟨kq, x5_38, x6_38, x8_38, rfl, rfl, HA, HJ38, HO_6, HB⟩ := hcut
                     cases kq with
                     | zero => exact absurd HA.out (by simp [casketref4_ParseFloat.j8])
                     | succ kj38 =>
                      have H := HA.out
                      clear HA
                      simp only [casketref4_ParseFloat.j8] at H
                      have HC55 := Aside0.mk H
                      clear H
                      go_upto_region 33 with (fail)
                      go_cut [125] (fun v125 wc => ∃ (kq : Nat) (x125_54 : Bool), v125 = .bool x125_54 ∧ Aside0 (casketref4_ParseFloat.j9 kq x0_9 x4_9 x5_38 x6_38 x8_38 x125_54 = some (r1, r2)) ∧ Aside0 (kq ≤ kj38) ∧ Aside0 (Kd.R (Kd.int .i64) 3 wc w.heap.size (fun _ => True) u6 x6_38) ∧ Aside0 (Below w.heap.size w wc))
                      case first => as_aux_lemma =>
                       have H := HC55.out
                       clear HC55
                       by_cases c56 : (wrap64 (x5_38 + 1)) ≥ (x0_9.size : Int)
                       ·rw [if_pos c56] at H
                        have c56b0 : decide ((x0_9.size : Int) ≤ (wrap64 (x5_38 + 1))) = true := decide_eq_true c56
                        clear c56
                        (first | rw [c56b0] | (simp only [i64_w, i32_w]; rw [c56b0]) | skip)
                        have H' := Aside0.mk H
                        clear H
                        go_wp2
                        go_meet
                        case rel => exact ⟨_, (true), x57_12, H', ⟨x57_2⟩, ⟨x57_8⟩, ⟨x57_5⟩⟩
                       ·rw [if_neg c56] at H
                        have c56b0 : decide ((x0_9.size : Int) ≤ (wrap64 (x5_38 + 1))) = false := decide_eq_false c56
                        clear c56
                        (first | rw [c56b0] | (simp only [i64_w, i32_w]; rw [c56b0]) | skip)
                        by_cases c57 : 0 ≤ x5_38
                        ·rw [if_pos c57] at H
                         have c57b0 := decide_eq_true c57
                         clear c57
                         by_cases c58 : x5_38 < (x0_9.size : Int)
                         ·rw [if_pos c58] at H
                          have c58b0 := decide_eq_true c58
                          clear c58
                          by_cases c60 : (bt x0_9 x5_38) = 112
                          ·rw [if_pos c60] at H
                           have c60b0 := beq_iff_eq.mpr c60
                           have c60b1 := bne_eq_false_iff_eq.mpr c60
                           clear c60
                           obtain ⟨ji61, hji61⟩ : ∃ j_ : Int, (wrap64 (x5_38 + 1)) = j_ := ⟨_, rfl⟩
                           replace H : (if 0 ≤ (ji61) then (if (ji61) < (x0_9.size : Int) then (if (bt x0_9 (ji61)) = 43 then (casketref4_ParseFloat.j9 kj38 x0_9 x4_9 x5_38 x6_38 x8_38 false) else (casketref4_ParseFloat.j9 kj38 x0_9 x4_9 x5_38 x6_38 x8_38 ((bt x0_9 (ji61)) != 45))) else (none)) else (none)) = some (r1, r2) := by first | (rw [hji61] at H; exact H) | (simp only [hji61] at H ⊢; exact H)
                           (try rw [hji61] at c56b0)
                           have hji61w : (IntKind.i64.wrap (x5_38 + 1)) = ji61 := (i64_w _).trans hji61
                           by_cases c62 : 0 ≤ (ji61)
                           ·rw [if_pos c62] at H
                            have c62b0 := decide_eq_true c62
                            clear c62
                            by_cases c63 : (ji61) < (x0_9.size : Int)
                            ·rw [if_pos c63] at H
                             have c63b0 := decide_eq_true c63
                             clear c63
                             by_cases c65 : (bt x0_9 (ji61)) = 43
                             ·rw [if_pos c65] at H
                              have c65b0 := beq_iff_eq.mpr c65
                              have c65b1 := bne_eq_false_iff_eq.mpr c65
                              clear c65
                              have H' := Aside0.mk H
                              clear H
                              have p59 : 0 ≤ (x5_38 : Int) := of_decide_eq_true x57_11
                              have q59 : x5_38 < (x0_9.size : Int) := of_decide_eq_true x57_11
                              have hx59 := bt_at x0_9 x5_38
                              replace p59 := eq_true p59
                              replace q59 := eq_true q59
                              have p64 : 0 ≤ ((ji61) : Int) := of_decide_eq_true x57_11
                              have q64 : (ji61) < (x0_9.size : Int) := of_decide_eq_true x57_11
                              have hx64 := bt_at x0_9 (ji61)
                              replace p64 := eq_true p64
                              replace q64 := eq_true q64
                              go_wp2
                              go_meet
                              case rel => exact ⟨_, (false), x57_12, H', ⟨x57_2⟩, ⟨x57_8⟩, ⟨x57_5⟩⟩
                             ·rw [if_neg c65] at H
                              have c65b0 := beq_eq_false_iff_ne.mpr c65
                              have c65b1 := bne_iff_ne.mpr c65
                              have H' := Aside0.mk H
                              clear H
                              have p59 : 0 ≤ (x5_38 : Int) := of_decide_eq_true x57_11
                              have q59 : x5_38 < (x0_9.size : Int) := of_decide_eq_true x57_11
                              have hx59 := bt_at x0_9 x5_38
                              replace p59 := eq_true p59
                              replace q59 := eq_true q59
                              have p64 : 0 ≤ ((ji61) : Int) := of_decide_eq_true x57_11
                              have q64 : (ji61) < (x0_9.size : Int) := of_decide_eq_true x57_11
                              have hx64 := bt_at x0_9 (ji61)
                              replace p64 := eq_true p64
                              replace q64 := eq_true q64
                              have p66 : 0 ≤ ((ji61) : Int) := of_decide_eq_true x57_11
                              have q66 : (ji61) < (x0_9.size : Int) := of_decide_eq_true x57_11
                              have hx66 := bt_at x0_9 (ji61)
                              replace p66 := eq_true p66
                              replace q66 := eq_true q66
                              go_wp2
                              go_meet
                              case rel => exact ⟨_, (((bt x0_9 (ji61)) != 45)), (by first | rfl | (simp; done) | (simp only [← hji61] <;> (first | rfl | simp)) | (simp [*]; done)), H', ⟨x57_2⟩, ⟨x57_8⟩, ⟨x57_5⟩⟩
                            ·rw [if_neg c63] at H
                             exact absurd H (by simp)
                           ·rw [if_neg c62] at H
                            exact absurd H (by simp)
                          ·rw [if_neg c60] at H
                           have c60b0 := beq_eq_false_iff_ne.mpr c60
                           have c60b1 := bne_iff_ne.mpr c60
                           have H' := Aside0.mk H
                           clear H
                           have p59 : 0 ≤ (x5_38 : Int) := of_decide_eq_true x57_11
                           have q59 : x5_38 < (x0_9.size : Int) := of_decide_eq_true x57_11
                           have hx59 := bt_at x0_9 x5_38
                           replace p59 := eq_true p59
                           replace q59 := eq_true q59
                           go_wp2
                           go_meet
                           case rel => exact ⟨_, (true), x57_12, H', ⟨x57_2⟩, ⟨x57_8⟩, ⟨x57_5⟩⟩
                         ·rw [if_neg c58] at H
                          exact absurd H (by simp)
                        ·rw [if_neg c57] at H
                         exact absurd H (by simp)
                      case rest => as_aux_lemma =>
                       clear HC55
                       obtain ⟨kq, x125_54, rfl, HA, HJ54, HO_6, HB⟩ := hcut
                       cases kq with
                       | zero => exact absurd HA.out (by simp [casketref4_ParseFloat.j9])
                       | succ kj54 =>
                        have H := HA.out
                        clear HA
                        simp only [casketref4_ParseFloat.j9] at H
                        by_cases c67 : x125_54 = true
                        ·subst c67
                         rw [if_pos rfl] at H
                         simp only [Option.some.injEq, Prod.mk.injEq] at H
                         obtain ⟨rfl, rfl⟩ := H
                         go_wp2
                         go_ret2
                         exact ⟨x57_9, x57_5⟩
                        ·replace c67 := Bool.eq_false_iff.mpr c67
                         subst c67
                         rw [if_neg (show ¬ (false = true) by decide)] at H
                         obtain ⟨ji68, hji68⟩ : ∃ j_ : Int, (wrap64 (x5_38 + 1)) = j_ := ⟨_, rfl⟩
                         replace H : (if 0 ≤ (ji68) then (if (ji68) < (x0_9.size : Int) then (if (wrap64 (x5_38 + 2)) = (x0_9.size : Int) then (casketref4_ParseFloat.j10 kj54 x0_9 x4_9 (wrap64 (x5_38 + 2)) x6_38 x8_38 ((bt x0_9 (ji68)) == 45) true) else (casketref4_ParseFloat.j10 kj54 x0_9 x4_9 (wrap64 (x5_38 + 2)) x6_38 x8_38 ((bt x0_9 (ji68)) == 45) (decide ((wrap64 ((x0_9.size : Int) - (wrap64 (x5_38 + 2)))) > 5)))) else (none)) else (none)) = some (r1, r2) := by first | (rw [hji68] at H; exact H) | (simp only [hji68] at H ⊢; exact H)
                         have hji68w : (IntKind.i64.wrap (x5_38 + 1)) = ji68 := (i64_w _).trans hji68
                         by_cases c69 : 0 ≤ (ji68)
                         ·rw [if_pos c69] at H
                          have c69b0 := decide_eq_true c69
                          clear c69
                          by_cases c70 : (ji68) < (x0_9.size : Int)
                          ·rw [if_pos c70] at H
                           have c70b0 := decide_eq_true c70
                           clear c70
                           have HC72 := Aside0.mk H
                           clear H
                           have p71 : 0 ≤ ((ji68) : Int) := of_decide_eq_true x57_11
                           have q71 : (ji68) < (x0_9.size : Int) := of_decide_eq_true x57_11
                           have hx71 := bt_at x0_9 (ji68)
                           replace p71 := eq_true p71
                           replace q71 := eq_true q71
                           go_upto_region 37 with (fail)
                           go_cut [143] (fun v143 wc => ∃ (kq : Nat) (x143_71 : Bool), v143 = .bool x143_71 ∧ Aside0 (casketref4_ParseFloat.j10 kq x0_9 x4_9 (wrap64 (x5_38 + 2)) x6_38 x8_38 ((bt x0_9 (ji68)) == 45) x143_71 = some (r1, r2)) ∧ Aside0 (kq ≤ kj54) ∧ Aside0 (Kd.R (Kd.int .i64) 3 wc w.heap.size (fun _ => True) u6 x6_38) ∧ Aside0 (Below w.heap.size w wc))
                           case first => as_aux_lemma =>
                            have H := HC72.out
                            clear HC72
                            by_cases c73 : (wrap64 (x5_38 + 2)) = (x0_9.size : Int)
                            ·rw [if_pos c73] at H
                             have c73b0 := beq_iff_eq.mpr c73
                             have c73b1 := bne_eq_false_iff_eq.mpr c73
                             clear c73
                             (first | rw [c73b0] | (simp only [i64_w, i32_w]; rw [c73b0]) | skip)
                             have H' := Aside0.mk H
                             clear H
                             go_wp2
                             go_meet
                             case rel => exact ⟨_, (true), x57_12, H', ⟨x57_0⟩, ⟨x57_8⟩, ⟨x57_5⟩⟩
                            ·rw [if_neg c73] at H
                             have c73b0 := beq_eq_false_iff_ne.mpr c73
                             have c73b1 := bne_iff_ne.mpr c73
                             (first | rw [c73b0] | (simp only [i64_w, i32_w]; rw [c73b0]) | skip)
                             have H' := Aside0.mk H
                             clear H
                             go_wp2
                             go_meet
                             case rel => exact ⟨_, (decide ((wrap64 ((x0_9.size : Int) - (wrap64 (x5_38 + 2)))) > 5)), x57_12, H', ⟨x57_0⟩, ⟨x57_8⟩, ⟨x57_5⟩⟩
                           case rest => as_aux_lemma =>
                            clear HC72
                            obtain ⟨kq, x143_71, rfl, HA, HJ71, HO_6, HB⟩ := hcut
                            cases kq with
                            | zero => exact absurd HA.out (by simp [casketref4_ParseFloat.j10])
                            | succ kj71 =>
                             have H := HA.out
                             clear HA
                             simp only [casketref4_ParseFloat.j10] at H
                             by_cases c74 : x143_71 = true
                             ·subst c74
                              rw [if_pos rfl] at H
                              simp only [Option.some.injEq, Prod.mk.injEq] at H
                              obtain ⟨rfl, rfl⟩ := H
                              go_wp2
                              go_ret2
                              exact ⟨x57_1, x57_5⟩
                             ·replace c74 := Bool.eq_false_iff.mpr c74
                              subst c74
                              rw [if_neg (show ¬ (false = true) by decide)] at H
                              have H' := Aside0.mk H
                              clear H
                              go_wp2
                              go_loopg [5, 10] kj71 (fun kq v5 v10 w' => ∃ (x5_10 : Int) (x10_10 : Int), v5 = .int .i64 x5_10 ∧ v10 = .int .i64 x10_10 ∧ Aside0 (casketref4_ParseFloat.l2 kq x0_9 x4_9 x5_10 x6_38 x8_38 ((bt x0_9 (ji68)) == 45) x10_10 = some (r1, r2)) ∧ Aside0 (kq ≤ kj71) ∧ Aside0 (Kd.R (Kd.int .i64) 3 w' w.heap.size (fun _ => True) u6 x6_38) ∧ Aside0 (Below w.heap.size w w'))
                              case atStart => exact ⟨((wrap64 (x5_38 + 2))), (0), x57_12, x57_12, H', ⟨Nat.le_refl _⟩, ⟨x57_8⟩, ⟨x57_5⟩⟩
                              case round => as_aux_lemma =>
                               clear H'
                               obtain ⟨x5_10, x10_10, rfl, rfl, HA, HK10, HO_6, HB⟩ := hrel
                               cases gk with
                               | zero => exact absurd HA.out (by simp [casketref4_ParseFloat.l2])
                               | succ k10 =>
                                have H := HA.out
                                clear HA
                                simp only [casketref4_ParseFloat.l2] at H
                                by_cases c75 : x5_10 < (x0_9.size : Int)
                                ·rw [if_pos c75] at H
                                 have c75b0 := decide_eq_true c75
                                 clear c75
                                 by_cases c76 : 0 ≤ x5_10
                                 ·rw [if_pos c76] at H
                                  have c76b0 := decide_eq_true c76
                                  clear c76
                                  by_cases c78 : (bt x0_9 x5_10) < 48
                                  ·rw [if_pos c78] at H
                                   have c78b0 := decide_eq_true c78
                                   clear c78
                                   simp only [Option.some.injEq, Prod.mk.injEq] at H
                                   obtain ⟨rfl, rfl⟩ := H
                                   have p77 : 0 ≤ (x5_10 : Int) := of_decide_eq_true x57_11
                                   have q77 : x5_10 < (x0_9.size : Int) := of_decide_eq_true x57_11
                                   have hx77 := bt_at x0_9 x5_10
                                   replace p77 := eq_true p77
                                   replace q77 := eq_true q77
                                   go_wp2
                                   go_ret2
                                   exact ⟨x57_1, x57_5⟩
                                  ·rw [if_neg c78] at H
                                   have c78b0 := decide_eq_false c78
                                   clear c78
                                   by_cases c80 : (bt x0_9 x5_10) > 57
                                   ·rw [if_pos c80] at H
                                    have c80b0 : decide (57 < (bt x0_9 x5_10)) = true := decide_eq_true c80
                                    clear c80
                                    simp only [Option.some.injEq, Prod.mk.injEq] at H
                                    obtain ⟨rfl, rfl⟩ := H
                                    have p77 : 0 ≤ (x5_10 : Int) := of_decide_eq_true x57_11
                                    have q77 : x5_10 < (x0_9.size : Int) := of_decide_eq_true x57_11
                                    have hx77 := bt_at x0_9 x5_10
                                    replace p77 := eq_true p77
                                    replace q77 := eq_true q77
                                    have p79 : 0 ≤ (x5_10 : Int) := of_decide_eq_true x57_11
                                    have q79 : x5_10 < (x0_9.size : Int) := of_decide_eq_true x57_11
                                    have hx79 := bt_at x0_9 x5_10
                                    replace p79 := eq_true p79
                                    replace q79 := eq_true q79
                                    go_wp2
                                    go_ret2
                                    exact ⟨x57_1, x57_5⟩
                                   ·rw [if_neg c80] at H
                                    have c80b0 : decide (57 < (bt x0_9 x5_10)) = false := decide_eq_false c80
                                    clear c80
                                    have H' := Aside0.mk H
                                    clear H
                                    have p77 : 0 ≤ (x5_10 : Int) := of_decide_eq_true x57_11
                                    have q77 : x5_10 < (x0_9.size : Int) := of_decide_eq_true x57_11
                                    have hx77 := bt_at x0_9 x5_10
                                    replace p77 := eq_true p77
                                    replace q77 := eq_true q77
                                    have p79 : 0 ≤ (x5_10 : Int) := of_decide_eq_true x57_11
                                    have q79 : x5_10 < (x0_9.size : Int) := of_decide_eq_true x57_11
                                    have hx79 := bt_at x0_9 x5_10
                                    replace p79 := eq_true p79
                                    replace q79 := eq_true q79
                                    have p81 : 0 ≤ (x5_10 : Int) := of_decide_eq_true x57_11
                                    have q81 : x5_10 < (x0_9.size : Int) := of_decide_eq_true x57_11
                                    have hx81 := bt_at x0_9 x5_10
                                    replace p81 := eq_true p81
                                    replace q81 := eq_true q81
                                    go_wp2
                                    go_roundg k10
                                    case measure => have := HJ5.out; have := HJ9.out; have := HJ12.out; have := HK4.out; have := HJ20.out; have := HJ34.out; have := HJ38.out; have := HJ54.out; have := HJ71.out; have := HK10.out; omega
                                    case rel => exact ⟨(wrap64 (x5_10 + 1)), (wrap64 ((wrap64 (10 * x10_10)) + (((bt x0_9 x5_10) - 48) % 256))), x57_12, x57_12, H', ⟨by have := HJ5.out; have := HJ9.out; have := HJ12.out; have := HK4.out; have := HJ20.out; have := HJ34.out; have := HJ38.out; have := HJ54.out; have := HJ71.out; have := HK10.out; omega⟩, ⟨x57_8⟩, ⟨x57_5⟩⟩
                                 ·rw [if_neg c76] at H
                                  exact absurd H (by simp)
                                ·rw [if_neg c75] at H
                                 have c75b0 := decide_eq_false c75
                                 clear c75
                                 by_cases c82 : ((bt x0_9 (ji68)) == 45) = true
                                 ·rw [if_pos c82] at H
                                  have c82b0 : ((bt x0_9 (ji68)) == 45) = true := c82
                                  (try (have c82b1 : decide ((bt x0_9 (ji68)) = 45) = true := by simpa using c82))
                                  (try (have c82b2 : ((bt x0_9 (ji68)) == 45) = true := by simpa using c82))
                                  clear c82
                                  replace H := Option.bind_eq_some_iff.mp H
                                  obtain ⟨⟨t276, t277⟩, A830, H⟩ := H
                                  replace H : (some (t276, t277)) = some (r1, r2) := H
                                  have A83 := Aside0.mk A830
                                  clear A830
                                  simp only [Option.some.injEq, Prod.mk.injEq] at H
                                  obtain ⟨rfl, rfl⟩ := H
                                  obtain ⟨Ao84, co84, eo84⟩ := Kd.R_slice HO_6.out
                                  subst eo84
                                  go_wp2_with (first | ((with_reducible refine gate_callee (f := 72) rfl ?_); refine goesL_ (some 177) rfl rfl Tryd.func72 (by kernel_rfl) rfl #[.int .u64 x4_9, .slice Ao84 x6_38.length co84, .int .i64 (wrap64 ((wrap64 (-x10_10)) - (wrap64 (4 * x8_38))))] rfl x57_4 ?_; (with_reducible refine (casketref4_exact.calls k10 x4_9 (fun k_ => some k_ = (.slice Ao84 x6_38.length co84 : Value).ownBlock) _ _ x6_38 (wrap64 ((wrap64 (-x10_10)) - (wrap64 (4 * x8_38)))) t276 t277 _ ?side1 A83.out).mono ?_); (case side1 => exact Kd.R_V (Kd.R_tight rfl (HO_6.out))); rintro e w85 ⟨rfl, hb⟩; refine ⟨_, rfl, ?_⟩; have n0_ := Aside0.mk (Kd.R_below x57_8 hb); have n1_ := Aside0.mk (below_step x57_5 hb); clear HO_6; clear HB; have HO_6 := n0_; have HB := n1_; clear n0_ n1_))
                                  go_ret2
                                  exact ⟨x57_1, x57_5⟩
                                 ·rw [if_neg c82] at H
                                  have c82b0 : ((bt x0_9 (ji68)) == 45) = false := by simpa using c82
                                  (try (have c82b1 : decide ((bt x0_9 (ji68)) = 45) = false := by simpa using c82))
                                  (try (have c82b2 : ((bt x0_9 (ji68)) == 45) = false := by simpa using c82))
                                  (try (have c82b3 : ¬ ((bt x0_9 (ji68)) = 45) := by simpa using c82))
                                  clear c82
                                  replace H := Option.bind_eq_some_iff.mp H
                                  obtain ⟨⟨t278, t279⟩, A860, H⟩ := H
                                  replace H : (some (t278, t279)) = some (r1, r2) := H
                                  have A86 := Aside0.mk A860
                                  clear A860
                                  simp only [Option.some.injEq, Prod.mk.injEq] at H
                                  obtain ⟨rfl, rfl⟩ := H
                                  obtain ⟨Ao87, co87, eo87⟩ := Kd.R_slice HO_6.out
                                  subst eo87
                                  go_wp2_with (first | ((with_reducible refine gate_callee (f := 72) rfl ?_); refine goesL_ (some 177) rfl rfl Tryd.func72 (by kernel_rfl) rfl #[.int .u64 x4_9, .slice Ao87 x6_38.length co87, .int .i64 (wrap64 (x10_10 - (wrap64 (4 * x8_38))))] rfl x57_4 ?_; (with_reducible refine (casketref4_exact.calls k10 x4_9 (fun k_ => some k_ = (.slice Ao87 x6_38.length co87 : Value).ownBlock) _ _ x6_38 (wrap64 (x10_10 - (wrap64 (4 * x8_38)))) t278 t279 _ ?side1 A86.out).mono ?_); (case side1 => exact Kd.R_V (Kd.R_tight rfl (HO_6.out))); rintro e w88 ⟨rfl, hb⟩; refine ⟨_, rfl, ?_⟩; have n0_ := Aside0.mk (Kd.R_below x57_8 hb); have n1_ := Aside0.mk (below_step x57_5 hb); clear HO_6; clear HB; have HO_6 := n0_; have HB := n1_; clear n0_ n1_))
                                  go_ret2
                                  exact ⟨x57_1, x57_5⟩
                          ·rw [if_neg c70] at H
                           exact absurd H (by simp)
                         ·rw [if_neg c69] at H
                          exact absurd H (by simp)
end Go.Proofs.YtjolkombhdibcaaDoor.Print
end
section
namespace Go.Proofs.YtjolkombhdibcaaDoor.Sp
open Go.RowKit Go.Proofs.YtjolkombhdibcaaDoorW.PrintWords Go.Proofs.YtjolkombhdibcaaDoorW.PrintMore Go.Proofs.YtjolkombhdibcaaDoor.Given Go.Proofs.YtjolkombhdibcaaDoor.Print
set_option linter.unusedVariables false
set_option linter.unusedSimpArgs false
def hexI (c : UInt8) : Int := match hexV c with
  | some v => (v : Int)
  | none => -1
theorem hexB' (n : Nat) : bt (⟨#[48, 49, 50, 51, 52, 53, 54, 55, 56, 57, 97, 98, 99, 100, 101, 102]⟩ : ByteArray) (n : Int) = (hexL.getD n 0).toNat := bt_bs hexL n
theorem hex_l0 (c : UInt8) : ∀ (d j : Nat), j + d = 16 → (∀ j' : Nat, j' < j → hexL.getD j' 0 ≠ c) → Ev (fun k => casketref4_hex.l0 k (c.toNat : Int) (j : Int)) (hexI c)
  | 0, j, h, hn => by
    obtain rfl : j = 16 := by omega
    refine Ev.step (fun k => by rw [casketref4_hex.l0]) ?_
    refine Ev.no (by omega) (Ev.ret ?_)
    unfold hexI
    rw [hex_none hn]
  | d + 1, j, h, hn => by
    refine Ev.step (fun k => by rw [casketref4_hex.l0]) ?_
    refine Ev.yes (by omega) (Ev.yes (by omega) ?_)
    rw [hexB']
    by_cases he : hexL.getD j 0 = c
    · refine Ev.yes (by rw [he]) (Ev.ret ?_)
      unfold hexI
      rw [hex_some (by omega) he]
    · refine Ev.no (fun e => he (UInt8.toNat_inj.1 (by omega))) ?_
      rw [w64 (by omega) (by omega)]
      exact hex_l0 c d (j + 1) (by omega) (no_more hn he)
theorem hex_ev (c : UInt8) : Ev (fun k => casketref4_hex.f k (c.toNat : Int)) (hexI c) := hex_l0 c 16 0 rfl (fun j' h => absurd h (by omega))
theorem nibble_f (l : List Nat) (v : Nat) (hv : v < 16) (hl : l.length ≤ 1000000) : casketref4_nibble.f (ints l) (v : Int) = some (ints (l ++ nib v)) := by
  unfold casketref4_nibble.f
  simp only [Option.bind_some, ints_len, List.length_cons, List.length_nil]
  rw [if_pos (by omega), ints_app]
  congr 2
  rw [tdiv_nn (by omega), tdiv_nn (by omega), tdiv_nn (by omega), w64 (x := (v : Int) / 8) (by omega) (by omega), w64 (x := (v : Int) / 4) (by omega) (by omega), w64 (x := (v : Int) / 2) (by omega) (by omega), tmod_nn (by omega), tmod_nn (by omega), tmod_nn (by omega)]
  simp [ints, nib]
def rowOf (ds : List Nat) : List Int := ints (ds.flatMap nib)
theorem rowOf_snoc (ds : List Nat) (v : Nat) : rowOf (ds ++ [v]) = ints (ds.flatMap nib ++ nib v) := by simp [rowOf]
theorem rp_exact (neg : Bool) (ds : List Nat) (e : Int) (hd : ∀ d ∈ ds, d < 16) (hl : ds.length ≤ 200) (he : -700000 ≤ e ∧ e ≤ 700000) :
    Ev (fun k => (casketref4_exact.f k (signN neg : Int) (rowOf ds) e).bind fun b => some (b.1, b.2)) (resR (signN neg) (exactS (val 16 0 ds) e)) := by
  have h := refExact_ev (signN neg) (by cases neg <;> simp [signN]) (ds.flatMap nib) e (nibs_lt hd) (by rw [nibs_len]; omega) (by omega)
  rw [val_nibs ds 0 hd] at h
  exact Ev.bind h (Ev.ret rfl)
theorem rp_l2 (m : List UInt8) (hm : m.length ≤ 64) (neg : Bool) (ds : List Nat) (b : Nat) (minus : Bool) (hd : ∀ d ∈ ds, d < 16) (hl : ds.length ≤ 200) (hb : b ≤ 200) :
    ∀ (r : List UInt8) (i v q : Nat), m.drop i = r → i ≤ m.length → v < 10 ^ q → q + r.length ≤ 5 →
    Ev (fun k => casketref4_ParseFloat.l2 k (bs m) (signN neg : Int) (i : Int) (rowOf ds) (b : Int) minus (v : Int))
      (if r.all isDig = true then resR (signN neg) (exactS (val 16 0 ds) ((if minus = true then -(decVal v r : Int) else (decVal v r : Int)) - 4 * b)) else (0, 20))
  | [], i, v, q, h, hi, hv, hq => by
    have hv5 : v < 100000 := Nat.lt_of_lt_of_le hv (Nat.pow_le_pow_right (n := 10) (by decide) (show q ≤ 5 by simpa using hq))
    have := drop_nil h hi
    refine Ev.step (fun k => by rw [casketref4_ParseFloat.l2]) ?_
    rw [bs_size]
    refine Ev.no (by omega) ?_
    rw [if_pos (show ([] : List UInt8).all isDig = true from rfl), show decVal v [] = v from rfl]
    cases minus with
    | true =>
      refine Ev.yes rfl ?_
      rw [w64 (x := -(v : Int)) (by omega) (by omega), w64 (x := 4 * (b : Int)) (by omega) (by omega), w64 (by omega) (by omega), if_pos rfl]
      exact rp_exact neg ds _ hd hl (by omega)
    | false =>
      refine Ev.no (by simp) ?_
      rw [w64 (x := 4 * (b : Int)) (by omega) (by omega), w64 (by omega) (by omega), if_neg (by simp)]
      exact rp_exact neg ds _ hd hl (by omega)
  | c :: r, i, v, q, h, hi, hv, hr => by
    obtain ⟨h1, h2, h3⟩ := drop_cons h
    refine Ev.step (fun k => by rw [casketref4_ParseFloat.l2]) ?_
    rw [bs_size]
    refine Ev.yes (by omega) (Ev.yes (by omega) ?_)
    rw [bt_bs, h1]
    by_cases hc : isDig c = true
    · have hcc : 48 ≤ c.toNat ∧ c.toNat ≤ 57 := by simpa [isDig] using hc
      obtain ⟨hs1, hs2⟩ := dig_sub hc
      refine Ev.no (by omega) (Ev.no (by omega) ?_)
      rw [hs1]
      have hq4 : q ≤ 4 := by simp at hr; omega
      have hv5 : v < 10000 := Nat.lt_of_lt_of_le hv (Nat.pow_le_pow_right (n := 10) (by decide) hq4)
      have hv2 : v * 10 + (c.toNat - 48) < 10 ^ (q + 1) := by rw [Nat.pow_succ]; omega
      have ih := rp_l2 m hm neg ds b minus hd hl hb r (i + 1) (v * 10 + (c.toNat - 48)) (q + 1) h3 (by omega) hv2 (by simp at hr; omega)
      rw [w64 (x := 10 * (v : Int)) (by omega) (by omega), w64 (x := 10 * (v : Int) + _) (by omega) (by omega), w64 (x := (i : Int) + 1) (by omega) (by omega)]
      rw [show 10 * (v : Int) + ((c.toNat - 48 : Nat) : Int) = ((v * 10 + (c.toNat - 48) : Nat) : Int) by omega]
      have e2 : (c :: r).all isDig = r.all isDig := by simp [hc]
      rw [e2]
      exact ih
    · have hc' : isDig c = false := by simpa using hc
      rw [if_neg (by simp [hc'])]
      by_cases h48 : (c.toNat : Int) < 48
      · exact Ev.yes h48 (Ev.ret rfl)
      · refine Ev.no h48 (Ev.yes ?_ (Ev.ret rfl))
        unfold isDig at hc'
        simp at hc'
        omega
theorem getD_of_drop {m : List UInt8} {i : Nat} {l : List UInt8} (h : m.drop i = l) (j : Nat) : m.getD (i + j) 0 = l.getD j 0 := by
  rw [← h, List.getD_eq_getElem?_getD, List.getD_eq_getElem?_getD, List.getElem?_drop]
theorem rp_j8 (m : List UInt8) (hm : m.length ≤ 64) (neg : Bool) (ds : List Nat) (b : Nat) (hd : ∀ d ∈ ds, d < 16) (hl : ds.length ≤ 200) (hb : b ≤ 200) (l : List UInt8) (i : Nat) (h : m.drop i = l) (hi : i ≤ m.length) :
    Ev (fun k => casketref4_ParseFloat.j8 k (bs m) (signN neg : Int) (i : Int) (rowOf ds) (b : Int)) (tailS neg ds b l) := by
  have hlen : l.length = m.length - i := by rw [← h]; simp
  have bad : ∀ i : Int, Ev (fun k => casketref4_ParseFloat.j9 k (bs m) (signN neg : Int) i (rowOf ds) (b : Int) true) (0, 20) := fun i => by
    refine Ev.step (fun k => by rw [casketref4_ParseFloat.j9]) ?_
    exact Ev.yes rfl (Ev.ret rfl)
  have bad2 : ∀ (i : Int) (x : Bool), Ev (fun k => casketref4_ParseFloat.j10 k (bs m) (signN neg : Int) i (rowOf ds) (b : Int) x true) (0, 20) := fun i x => by
    refine Ev.step (fun k => by rw [casketref4_ParseFloat.j10]) ?_
    exact Ev.yes rfl (Ev.ret rfl)
  refine Ev.step (fun k => by rw [casketref4_ParseFloat.j8]) ?_
  simp only [bs_size]
  rw [w64 (x := (i : Int) + 1) (by omega) (by omega)]
  cases l with
  | nil => exact Ev.yes (by simp at hlen; omega) (bad _)
  | cons c0 l1 =>
    cases l1 with
    | nil =>
      refine Ev.yes (by simp at hlen; omega) ?_
      rw [show tailS neg ds b [c0] = (0, 20) by unfold tailS; split <;> simp_all]
      exact bad _
    | cons c r =>
      refine Ev.no (by simp at hlen; omega) (Ev.yes (by omega) (Ev.yes (by simp at hlen; omega) ?_))
      have g0 := getD_of_drop h 0
      have g1 := getD_of_drop h 1
      rw [Nat.add_zero] at g0
      have e1 : bt (bs m) ((i : Int) + 1) = (c.toNat : Int) := by
        rw [show (i : Int) + 1 = ((i + 1 : Nat) : Int) by omega, bt_bs, g1]; rfl
      rw [bt_bs, g0, e1]
      by_cases hp : c0 = 112
      · subst hp
        refine Ev.yes rfl (Ev.yes (by omega) (Ev.yes (by simp at hlen; omega) ?_))
        rw [tailS_p]
        have go : (c = 43 ∨ c = 45) → Ev (fun k => casketref4_ParseFloat.j9 k (bs m) (signN neg : Int) (i : Int) (rowOf ds) (b : Int) false) (if (c = 43 ∨ c = 45) ∧ r ≠ [] ∧ r.length ≤ 5 ∧ r.all isDig = true then resR (signN neg) (exactS (val 16 0 ds) (expo c r - 4 * b)) else (0, 20)) := by
          intro hc
          refine Ev.step (fun k => by rw [casketref4_ParseFloat.j9]) ?_
          simp only [bs_size]
          rw [w64 (x := (i : Int) + 1) (by omega) (by omega), w64 (x := (i : Int) + 2) (by omega) (by omega), e1]
          refine Ev.no (by simp) (Ev.yes (by omega) (Ev.yes (by simp at hlen; omega) ?_))
          cases r with
          | nil =>
            refine Ev.yes (by simp at hlen; omega) ?_
            rw [if_neg (fun h => h.2.1 rfl)]
            exact bad2 _ _
          | cons d r =>
            refine Ev.no (by simp at hlen; omega) ?_
            rw [w64 (x := (m.length : Int) - ((i : Int) + 2)) (by omega) (by omega)]
            by_cases h5 : (d :: r).length ≤ 5
            · rw [decide_eq_false (by simp at hlen h5; omega)]
              refine Ev.step (fun k => by rw [casketref4_ParseFloat.j10]) ?_
              refine Ev.no (by simp) ?_
              have h2 := rp_l2 m hm neg ds b ((c.toNat : Int) == 45) hd hl hb (d :: r) (i + 2) 0 0 (by rw [← List.drop_drop, h]; rfl) (by simp at hlen; omega) (by simp) (by simpa using h5)
              have e3 : (if ((c.toNat : Int) == 45) = true then -(decVal 0 (d :: r) : Int) else (decVal 0 (d :: r) : Int)) = expo c (d :: r) := by
                unfold expo
                rcases hc with rfl | rfl
                · rfl
                · rfl
              rw [e3] at h2
              have e4 : (if (c = 43 ∨ c = 45) ∧ (d :: r) ≠ [] ∧ (d :: r).length ≤ 5 ∧ (d :: r).all isDig = true then resR (signN neg) (exactS (val 16 0 ds) (expo c (d :: r) - 4 * b)) else (0, 20)) = (if (d :: r).all isDig = true then resR (signN neg) (exactS (val 16 0 ds) (expo c (d :: r) - 4 * b)) else (0, 20)) := by
                by_cases ha : (d :: r).all isDig = true
                · rw [if_pos ⟨hc, by simp, h5, ha⟩, if_pos ha]
                · rw [if_neg (fun h => ha h.2.2.2), if_neg ha]
              rw [e4]
              exact h2
            · rw [decide_eq_true (by simp at hlen h5 ⊢; omega), if_neg (fun h => h5 h.2.2.1)]
              exact bad2 _ _
        by_cases c43 : c = 43
        · refine Ev.yes (by subst c43; rfl) ?_
          exact go (.inl c43)
        · refine Ev.no (fun h => c43 (u8_eq (n := 43) h (by decide))) ?_
          by_cases c45 : c = 45
          · have : ((c.toNat : Int) != 45) = false := by subst c45; rfl
            rw [this]
            exact go (.inr c45)
          · have : ((c.toNat : Int) != 45) = true := bne_iff_ne.2 (fun h => c45 (u8_eq (n := 45) h (by decide)))
            rw [this, if_neg (fun h => h.1.elim c43 c45)]
            exact bad _
      · refine Ev.no (fun h => hp (u8_eq (n := 112) h (by decide))) ?_
        rw [show tailS neg ds b (c0 :: c :: r) = (0, 20) by unfold tailS; split <;> simp_all]
        exact bad _
theorem dotS_no (neg : Bool) (ds : List Nat) (l : List UInt8) (h : ∀ r, l ≠ 46 :: r) : dotS neg ds l = tailS neg ds 0 l := by
  unfold dotS
  split
  · rename_i r; exact absurd rfl (h r)
  · rfl
theorem rp_stop1 (m : List UInt8) (hm : m.length ≤ 64) (neg : Bool) (l : List UInt8) (ds : List Nat) (b i : Nat) (h : m.drop i = l) (hi : i ≤ m.length) (hd : ∀ d ∈ ds, d < 16) (h1 : ds.length + l.length ≤ 200) (h2 : b + l.length ≤ 200) :
    (cutN l).1 = [] → (cutN l).2 = l → Ev (fun k => casketref4_ParseFloat.j7 k (bs m) (signN neg : Int) (i : Int) (rowOf ds) (b : Int) false) (if b + (cutN l).1.length = 0 then (0, 20) else tailS neg (ds ++ (cutN l).1) (b + (cutN l).1.length) (cutN l).2) := by
  intro e1 e2
  rw [e1, e2]
  refine Ev.step (fun k => by rw [casketref4_ParseFloat.j7]) ?_
  refine Ev.no (by simp) ?_
  simp only [List.length_nil, Nat.add_zero, List.append_nil]
  by_cases hb : b = 0
  · rw [if_pos hb]; exact Ev.yes (by omega) (Ev.ret rfl)
  · rw [if_neg hb]
    refine Ev.no (by omega) ?_
    exact rp_j8 m hm neg ds b hd (by omega) (by omega) l i h hi
theorem rp_l1 (m : List UInt8) (hm : m.length ≤ 64) (neg : Bool) : ∀ (l : List UInt8) (ds : List Nat) (b i : Nat), m.drop i = l → i ≤ m.length → (∀ d ∈ ds, d < 16) → ds.length + l.length ≤ 200 → b + l.length ≤ 200 →
    Ev (fun k => casketref4_ParseFloat.l1 k (bs m) (signN neg : Int) (i : Int) (rowOf ds) (b : Int)) (if b + (cutN l).1.length = 0 then (0, 20) else tailS neg (ds ++ (cutN l).1) (b + (cutN l).1.length) (cutN l).2)
  | [], ds, b, i, h, hi, hd, h1, h2 => by
    have := drop_nil h hi
    refine Ev.step (fun k => by rw [casketref4_ParseFloat.l1]) ?_
    rw [bs_size]
    refine Ev.no (by omega) ?_
    exact rp_stop1 m hm neg [] ds b i h hi hd h1 h2 rfl rfl
  | c :: r, ds, b, i, h, hi, hd, h1, h2 => by
    obtain ⟨g1, g2, g3⟩ := drop_cons h
    refine Ev.step (fun k => by rw [casketref4_ParseFloat.l1]) ?_
    rw [bs_size]
    refine Ev.yes (by omega) (Ev.yes (by omega) ?_)
    rw [bt_bs, g1]
    refine Ev.bind (hex_ev c) ?_
    cases hv : hexV c with
    | none =>
      have e : decide (hexI c ≥ 0) = false := by unfold hexI; rw [hv]; rfl
      rw [e]
      exact rp_stop1 m hm neg (c :: r) ds b i h hi hd h1 h2 (by unfold cutN; rw [hv]) (by unfold cutN; rw [hv])
    | some v =>
      have hlt := hexV_lt hv
      have ei : hexI c = (v : Int) := by unfold hexI; rw [hv]
      have e : decide (hexI c ≥ 0) = true := by rw [ei]; exact decide_eq_true (by omega)
      rw [e]
      refine Ev.step (fun k => by rw [casketref4_ParseFloat.j7]) ?_
      rw [bs_size]
      refine Ev.yes rfl (Ev.yes (by omega) (Ev.yes (by omega) ?_))
      rw [bt_bs, g1]
      refine Ev.bind (hex_ev c) ?_
      rw [ei]
      refine Ev.bind0 (nibble_f _ v hlt (by rw [nibs_len]; simp at h1; omega)) ?_
      rw [← rowOf_snoc, w64 (x := (i : Int) + 1) (by omega) (by omega), w64 (x := (b : Int) + 1) (by omega) (by omega)]
      have ih := rp_l1 m hm neg r (ds ++ [v]) (b + 1) (i + 1) g3 (by omega) (fun d hx => by
        rcases List.mem_append.1 hx with hx | hx
        · exact hd d hx
        · rw [List.mem_singleton.1 hx]; exact hlt) (by simp at h1 ⊢; omega) (by simp at h2; omega)
      have ec : cutN (c :: r) = (v :: (cutN r).1, (cutN r).2) := by rw [cutN, hv]
      rw [ec]
      simp only [List.length_cons, List.append_assoc, List.singleton_append] at ih ⊢
      rw [show b + ((cutN r).1.length + 1) = b + 1 + (cutN r).1.length by omega]
      exact ih
theorem rp_stop0 (m : List UInt8) (hm : m.length ≤ 64) (neg : Bool) (l : List UInt8) (ds : List Nat) (i : Nat) (h : m.drop i = l) (hi : i ≤ m.length) (hd : ∀ d ∈ ds, d < 16) (h1 : ds.length + l.length ≤ 200) :
    (cutN l).1 = [] → (cutN l).2 = l → (∀ r, l = 46 :: r → m.drop (i + 1) = r ∧ i + 1 ≤ m.length ∧ bt (bs m) (i : Int) = 46) → (∀ c r, l = c :: r → bt (bs m) (i : Int) = (c.toNat : Int)) → Ev (fun k => casketref4_ParseFloat.j4 k (bs m) (signN neg : Int) (i : Int) (rowOf ds) (ds.length : Int) 0 false) (if (ds ++ (cutN l).1) = [] then (0, 20) else dotS neg (ds ++ (cutN l).1) (cutN l).2) := by
  intro e1 e2 hdot hb
  rw [e1, e2]
  refine Ev.step (fun k => by rw [casketref4_ParseFloat.j4]) ?_
  refine Ev.no (by simp) ?_
  simp only [List.append_nil, bs_size]
  by_cases hds : ds = []
  · rw [if_pos hds]; subst hds; exact Ev.yes rfl (Ev.ret rfl)
  · rw [if_neg hds]
    have := List.length_pos_iff.2 hds
    refine Ev.no (by omega) ?_
    have last : (∀ r, l ≠ 46 :: r) → Ev (fun k => casketref4_ParseFloat.j5 k (bs m) (signN neg : Int) (i : Int) (rowOf ds) 0 false) (dotS neg ds l) := by
      intro hno
      refine Ev.step (fun k => by rw [casketref4_ParseFloat.j5]) ?_
      refine Ev.no (by simp) ?_
      rw [dotS_no neg ds l hno]
      exact rp_j8 m hm neg ds 0 hd (by omega) (by omega) l i h hi
    cases l with
    | nil =>
      have := drop_nil h hi
      refine Ev.no (by omega) ?_
      exact last (by simp)
    | cons c r =>
      obtain ⟨g1, g2, g3⟩ := drop_cons h
      refine Ev.yes (by omega) (Ev.yes (by omega) ?_)
      rw [hb c r rfl]
      by_cases h46 : c = 46
      · subst h46
        refine Ev.step (fun k => by rw [casketref4_ParseFloat.j5]) ?_
        refine Ev.yes rfl ?_
        rw [w64 (by omega) (by omega)]
        have h2 := rp_l1 m hm neg r ds 0 (i + 1) g3 (by omega) hd (by simp at h1; omega) (by simp at h1; omega)
        show Ev _ (if (cutN r).1 = [] then (0, 20) else tailS neg (ds ++ (cutN r).1) (cutN r).1.length (cutN r).2)
        simp only [Nat.zero_add, List.length_eq_zero_iff] at h2
        exact h2
      · have : ((c.toNat : Int) == 46) = false := beq_eq_false_iff_ne.2 (fun h => h46 (u8_eq (n := 46) h (by decide)))
        rw [this]
        exact last (fun r' e => h46 (List.cons.inj e).1)
theorem rp_l0 (m : List UInt8) (hm : m.length ≤ 64) (neg : Bool) : ∀ (l : List UInt8) (ds : List Nat) (i : Nat), m.drop i = l → i ≤ m.length → (∀ d ∈ ds, d < 16) → ds.length + l.length ≤ 200 →
    Ev (fun k => casketref4_ParseFloat.l0 k (bs m) (signN neg : Int) (i : Int) (rowOf ds) (ds.length : Int) 0) (if (ds ++ (cutN l).1) = [] then (0, 20) else dotS neg (ds ++ (cutN l).1) (cutN l).2)
  | [], ds, i, h, hi, hd, h1 => by
    have := drop_nil h hi
    refine Ev.step (fun k => by rw [casketref4_ParseFloat.l0]) ?_
    rw [bs_size]
    refine Ev.no (by omega) ?_
    exact rp_stop0 m hm neg [] ds i h hi hd h1 rfl rfl (by simp) (by simp)
  | c :: r, ds, i, h, hi, hd, h1 => by
    obtain ⟨g1, g2, g3⟩ := drop_cons h
    have hb : bt (bs m) (i : Int) = (c.toNat : Int) := by rw [bt_bs, g1]
    refine Ev.step (fun k => by rw [casketref4_ParseFloat.l0]) ?_
    rw [bs_size]
    refine Ev.yes (by omega) (Ev.yes (by omega) ?_)
    rw [hb]
    refine Ev.bind (hex_ev c) ?_
    cases hv : hexV c with
    | none =>
      have e : decide (hexI c ≥ 0) = false := by unfold hexI; rw [hv]; rfl
      rw [e]
      exact rp_stop0 m hm neg (c :: r) ds i h hi hd h1 (by unfold cutN; rw [hv]) (by unfold cutN; rw [hv]) (fun r' e' => by
        obtain ⟨rfl, rfl⟩ := List.cons.inj e'
        exact ⟨g3, by omega, hb⟩) (fun c' r' e' => by
        obtain ⟨rfl, rfl⟩ := List.cons.inj e'
        exact hb)
    | some v =>
      have hlt := hexV_lt hv
      have ei : hexI c = (v : Int) := by unfold hexI; rw [hv]
      have e : decide (hexI c ≥ 0) = true := by rw [ei]; exact decide_eq_true (by omega)
      rw [e]
      refine Ev.step (fun k => by rw [casketref4_ParseFloat.j4]) ?_
      rw [bs_size]
      refine Ev.yes rfl (Ev.yes (by omega) (Ev.yes (by omega) ?_))
      rw [hb]
      refine Ev.bind (hex_ev c) ?_
      rw [ei]
      refine Ev.bind0 (nibble_f _ v hlt (by rw [nibs_len]; simp at h1; omega)) ?_
      rw [← rowOf_snoc, w64 (x := (i : Int) + 1) (by omega) (by omega), w64 (x := (ds.length : Int) + 1) (by simp at h1; omega) (by simp at h1; omega)]
      have ih := rp_l0 m hm neg r (ds ++ [v]) (i + 1) g3 (by omega) (fun d hx => by
        rcases List.mem_append.1 hx with hx | hx
        · exact hd d hx
        · rw [List.mem_singleton.1 hx]; exact hlt) (by simp at h1 ⊢; omega)
      have ec : cutN (c :: r) = (v :: (cutN r).1, (cutN r).2) := by rw [cutN, hv]
      rw [ec]
      simp only [List.length_append, List.length_cons, List.length_nil, List.append_assoc, List.singleton_append] at ih ⊢
      exact ih
theorem rp_j1 (m : List UInt8) (hm : m.length ≤ 64) (neg : Bool) : Ev (fun k => casketref4_ParseFloat.j1 k (bs m) (signN neg : Int)) (hexS neg m) := by
  have bad : Ev (fun k => casketref4_ParseFloat.j2 k (bs m) (signN neg : Int) true) (0, 20) := by
    refine Ev.step (fun k => by rw [casketref4_ParseFloat.j2]) ?_
    exact Ev.yes rfl (Ev.ret rfl)
  have no : (∀ r, m ≠ 48 :: 120 :: r) → hexS neg m = (0, 20) := by
    intro h
    unfold hexS
    split
    · rename_i r; exact absurd rfl (h r)
    · rfl
  refine Ev.step (fun k => by rw [casketref4_ParseFloat.j1]) ?_
  simp only [bs_size]
  match m, hm, bad, no with
  | [], hm, bad, no => rw [no (by simp)]; exact Ev.yes (by simp) bad
  | [c], hm, bad, no => rw [no (by simp)]; exact Ev.yes (by simp) bad
  | c :: d :: r, hm, bad, no =>
    refine Ev.no (by simp; omega) (Ev.yes (by simp; omega) ?_)
    rw [bt0, bt1]
    by_cases h48 : c = 48
    · subst h48
      refine Ev.yes rfl (Ev.yes (by simp; omega) ?_)
      by_cases h120 : d = 120
      · subst h120
        have : ((UInt8.toNat 120 : Int) != 120) = false := rfl
        rw [this]
        refine Ev.step (fun k => by rw [casketref4_ParseFloat.j2]) ?_
        refine Ev.no (by simp) ?_
        have h := rp_l0 (48 :: 120 :: r) hm neg r [] 2 rfl (by simp) (fun d hd => by simp at hd) (by simp at hm ⊢; omega)
        show Ev _ (bodyS neg r)
        unfold bodyS
        simp only [List.nil_append] at h
        exact h
      · have : ((d.toNat : Int) != 120) = true := bne_iff_ne.2 (fun h => h120 (u8_eq (n := 120) h (by decide)))
        rw [this, no (fun r' e => by simp at e; exact h120 e.1)]
        exact bad
    · refine Ev.no (fun h => h48 (u8_eq (n := 48) h (by decide))) ?_
      rw [no (fun r' e => by simp at e; exact h48 e.1)]
      exact bad
theorem refParseFloat_ev (l : List UInt8) (hl : l.length ≤ 1000000) : Ev (fun k => casketref4_ParseFloat.f k (bs l)) (pfS l) := by
  unfold casketref4_ParseFloat.f pfS
  simp only [bs_size, bs_toList]
  by_cases h0 : 64 < l.length
  · rw [if_pos h0]; exact Ev.yes (by omega) (Ev.ret rfl)
  · rw [if_neg h0]
    refine Ev.no (by omega) ?_
    by_cases h1 : l = [110, 97, 110]
    · rw [if_pos h1]; exact Ev.yes h1 (Ev.ret rfl)
    · rw [if_neg h1]
      refine Ev.no h1 ?_
      by_cases h2 : l = [105, 110, 102]
      · rw [if_pos h2]; exact Ev.yes h2 (Ev.ret rfl)
      · rw [if_neg h2]
        refine Ev.no h2 ?_
        by_cases h3 : l = [45, 105, 110, 102]
        · rw [if_pos h3]; exact Ev.yes h3 (Ev.ret rfl)
        · rw [if_neg h3]
          refine Ev.no h3 ?_
          have j0no : minusB l = false → Ev (fun k => casketref4_ParseFloat.j0 k (bs l) 0 false) (hexS (minusB l) (magB l)) := by
            intro hm
            have hg : magB l = l := by unfold magB; rw [hm]; simp
            rw [hm, hg]
            refine Ev.step (fun k => by rw [casketref4_ParseFloat.j0]) ?_
            refine Ev.no (by simp) ?_
            exact rp_j1 l (by omega) false
          cases l with
          | nil => exact Ev.yes rfl (j0no rfl)
          | cons c r =>
            refine Ev.no (by simp) (Ev.yes (by simp <;> omega) ?_)
            rw [bt0]
            by_cases hm : c = 45
            · subst hm
              have e : ((UInt8.toNat 45 : Int) == 45) = true := rfl
              rw [e]
              have hg : magB (45 :: r) = r := rfl
              have hb : minusB (45 :: r) = true := rfl
              rw [hg, hb]
              refine Ev.step (fun k => by rw [casketref4_ParseFloat.j0]) ?_
              refine Ev.yes rfl (Ev.yes (by rw [bs_size]; simp <;> omega) ?_)
              rw [bs_from]
              exact rp_j1 r (by simp at h0; omega) true
            · have e : ((c.toNat : Int) == 45) = false := by
                rw [beq_eq_false_iff_ne]
                intro h
                exact hm (u8_eq (n := 45) h (by decide))
              rw [e]
              exact j0no (by unfold minusB; simpa using hm)
end Go.Proofs.YtjolkombhdibcaaDoor.Sp
end
section
namespace Go.Proofs.YtjolkombhdibcaaDoor.Print
open Go.RowKit Go.Proofs.YtjolkombhdibcaaDoor.Given Go.Proofs.YtjolkombhdibcaaDoorW.PrintWords Go.Proofs.YtjolkombhdibcaaDoorW.PrintLast Go.Proofs.YtjolkombhdibcaaDoorW.PrintMore
attribute [local go_sem] max2_int min2_int max_two min_two max_three min_three max_four min_four
set_option linter.unusedVariables false
set_option linter.unusedSimpArgs false
theorem x59_13 {p : Prop} (h : p := by first | rfl | (simp; done) | (simp [*]; done)) : p := h
theorem x59_12 {p : Prop} (h : p := by first | (with_reducible assumption) | assumption) : p := h
theorem x59_11 {p : Prop} (h : p := by repeat (first | exact Drawn0.refl _ | apply Drawn0.step)) : p := h
theorem x59_10 {p : Prop} (h : p := by first | rfl | (simp [errW_none, errW_some] <;> rfl) | (simp [*, errW_none, errW_some] <;> rfl)) : p := h
theorem x59_9 {p : Prop} (h : p := by (with_reducible repeat first | apply blk_drewN | apply blk_drew | apply blk_alloc); exact BK281.out) : p := h
theorem x59_8 {p : Prop} (h : p := by (with_reducible repeat first | apply blk_drewN | apply blk_drew | apply blk_alloc); exact BK280.out) : p := h
theorem x59_7 {p : Prop} (h : p := by rw [← hq_]; exact x59_9) : p := h
theorem x59_6 {p : Prop} (h : p := by rw [← hq_]; exact x59_8) : p := h
theorem x59_5 {p : Prop} (h : p := by repeat (first | (with_reducible first | exact HB.out | apply below_alloc | apply pw_below_drewN | apply below_drew1) | exact HB.out)) : p := h
theorem x59_4 {p : Prop} (h : p := by (try simp only [List.map_toArray, List.map_cons, List.map_nil]); first | done | rfl | (simp only [List.length_drop, List.length_take]; rfl)) : p := h
theorem x59_3 {p : Prop} (h : p := by repeat (first | (with_reducible first | exact HB.out | apply below_alloc | apply pw_below_drewN | apply below_drew1 | refine below_set ?_ GE280.out) | exact HB.out)) : p := h
theorem x59_2 {p : Prop} (h : p := by repeat (first | (with_reducible first | exact HB.out | apply below_alloc | apply pw_below_drewN | apply below_drew1 | refine below_set ?_ GE280.out | refine below_set ?_ GE281.out) | exact HB.out)) : p := h
theorem x59_1 {p : Prop} (h : p := by rw [← hq_]; exact x59_2) : p := h
theorem x59_0 {p : Prop} (h : p := by (with_reducible repeat first | apply blk_drewN | apply blk_drew | apply blk_alloc); refine blk_put (cs := #[.int .i64 0, .int .i64 0]) ?_ 1 _ rfl; (with_reducible repeat first | apply blk_drewN | apply blk_drew | apply blk_alloc); refine blk_put (cs := #[.int .i64 0, .int .i64 0]) ?_ 0 _ rfl; (with_reducible repeat first | apply blk_drewN | apply blk_drew | apply blk_alloc); refine blk_far ?_ NB281_280.out _; (with_reducible repeat first | apply blk_drewN | apply blk_drew | apply blk_alloc); refine blk_far ?_ NB281_280.out _; (with_reducible repeat first | apply blk_drewN | apply blk_drew | apply blk_alloc); refine blk_far ?_ NB281_280.out _; (with_reducible repeat first | apply blk_drewN | apply blk_drew | apply blk_alloc); refine blk_far ?_ NB281_280.out _; (with_reducible repeat first | apply blk_drewN | apply blk_drew | apply blk_alloc); refine blk_far ?_ NB281_280.out _; (with_reducible repeat first | apply blk_drewN | apply blk_drew | apply blk_alloc); exact BK281.out) : p := h
def casketref11_Reserved.f (a0 : ByteArray) : Option (Bool) := if a0.toList = ([102, 110] : List UInt8) then (some true) else (if a0.toList = ([108, 101, 116] : List UInt8) then (some true) else (if a0.toList = ([105, 102] : List UInt8) then (some true) else (if a0.toList = ([101, 108, 115, 101] : List UInt8) then (some true) else (if a0.toList = ([119, 104, 105, 108, 101] : List UInt8) then (some true) else (if a0.toList = ([102, 111, 114] : List UInt8) then (some true) else (if a0.toList = ([105, 110] : List UInt8) then (some true) else (if a0.toList = ([98, 114, 101, 97, 107] : List UInt8) then (some true) else (if a0.toList = ([99, 111, 110, 116, 105, 110, 117, 101] : List UInt8) then (some true) else (if a0.toList = ([114, 101, 116, 117, 114, 110] : List UInt8) then (some true) else (if a0.toList = ([111, 117, 116] : List UInt8) then (some true) else (if a0.toList = ([97, 110, 100] : List UInt8) then (some true) else (if a0.toList = ([111, 114] : List UInt8) then (some true) else (if a0.toList = ([110, 111, 116] : List UInt8) then (some true) else (if a0.toList = ([116, 114, 117, 101] : List UInt8) then (some true) else (if a0.toList = ([102, 97, 108, 115, 101] : List UInt8) then (some true) else (if a0.toList = ([110, 105, 108] : List UInt8) then (some true) else (some false)))))))))))))))))
set_option maxHeartbeats 8000000 in
set_option maxRecDepth 100000 in
theorem casketref11_Reserved.calls (a0 : ByteArray) (r : Bool) (w : World) (h : casketref11_Reserved.f a0 = some r) :
  Calls Tryd.prog 52 #[.string a0] w fun e w' => e = .returned (.bool r) ∧ Drawn0 w w' := by
 have H : (if a0.toList = ([102, 110] : List UInt8) then (some true) else (if a0.toList = ([108, 101, 116] : List UInt8) then (some true) else (if a0.toList = ([105, 102] : List UInt8) then (some true) else (if a0.toList = ([101, 108, 115, 101] : List UInt8) then (some true) else (if a0.toList = ([119, 104, 105, 108, 101] : List UInt8) then (some true) else (if a0.toList = ([102, 111, 114] : List UInt8) then (some true) else (if a0.toList = ([105, 110] : List UInt8) then (some true) else (if a0.toList = ([98, 114, 101, 97, 107] : List UInt8) then (some true) else (if a0.toList = ([99, 111, 110, 116, 105, 110, 117, 101] : List UInt8) then (some true) else (if a0.toList = ([114, 101, 116, 117, 114, 110] : List UInt8) then (some true) else (if a0.toList = ([111, 117, 116] : List UInt8) then (some true) else (if a0.toList = ([97, 110, 100] : List UInt8) then (some true) else (if a0.toList = ([111, 114] : List UInt8) then (some true) else (if a0.toList = ([110, 111, 116] : List UInt8) then (some true) else (if a0.toList = ([116, 114, 117, 101] : List UInt8) then (some true) else (if a0.toList = ([102, 97, 108, 115, 101] : List UInt8) then (some true) else (if a0.toList = ([110, 105, 108] : List UInt8) then (some true) else (some false)))))))))))))))))) = some r := h
 clear h
 by_cases c2 : a0.toList = ([102, 110] : List UInt8)
 ·rw [if_pos c2] at H
  have c2b0 := beq_iff_eq.mpr c2
  have c2b1 := bne_eq_false_iff_eq.mpr c2
  clear c2
  obtain rfl := Option.some.inj H
  go_enter Tryd.func52, Tryd.ntmps52
  go_wp2
  go_ret
  exact ⟨x59_13, x59_11⟩
 ·rw [if_neg c2] at H
  have c2b0 := beq_eq_false_iff_ne.mpr c2
  have c2b1 := bne_iff_ne.mpr c2
  by_cases c3 : a0.toList = ([108, 101, 116] : List UInt8)
  ·rw [if_pos c3] at H
   have c3b0 := beq_iff_eq.mpr c3
   have c3b1 := bne_eq_false_iff_eq.mpr c3
   clear c3
   obtain rfl := Option.some.inj H
   go_enter Tryd.func52, Tryd.ntmps52
   go_wp2
   go_ret
   exact ⟨x59_13, x59_11⟩
  ·rw [if_neg c3] at H
   have c3b0 := beq_eq_false_iff_ne.mpr c3
   have c3b1 := bne_iff_ne.mpr c3
   by_cases c4 : a0.toList = ([105, 102] : List UInt8)
   ·rw [if_pos c4] at H
    have c4b0 := beq_iff_eq.mpr c4
    have c4b1 := bne_eq_false_iff_eq.mpr c4
    clear c4
    obtain rfl := Option.some.inj H
    go_enter Tryd.func52, Tryd.ntmps52
    go_wp2
    go_ret
    exact ⟨x59_13, x59_11⟩
   ·rw [if_neg c4] at H
    have c4b0 := beq_eq_false_iff_ne.mpr c4
    have c4b1 := bne_iff_ne.mpr c4
    by_cases c5 : a0.toList = ([101, 108, 115, 101] : List UInt8)
    ·rw [if_pos c5] at H
     have c5b0 := beq_iff_eq.mpr c5
     have c5b1 := bne_eq_false_iff_eq.mpr c5
     clear c5
     obtain rfl := Option.some.inj H
     go_enter Tryd.func52, Tryd.ntmps52
     go_wp2
     go_ret
     exact ⟨x59_13, x59_11⟩
    ·rw [if_neg c5] at H
     have c5b0 := beq_eq_false_iff_ne.mpr c5
     have c5b1 := bne_iff_ne.mpr c5
     by_cases c6 : a0.toList = ([119, 104, 105, 108, 101] : List UInt8)
     ·rw [if_pos c6] at H
      have c6b0 := beq_iff_eq.mpr c6
      have c6b1 := bne_eq_false_iff_eq.mpr c6
      clear c6
      obtain rfl := Option.some.inj H
      go_enter Tryd.func52, Tryd.ntmps52
      go_wp2
      go_ret
      exact ⟨x59_13, x59_11⟩
     ·rw [if_neg c6] at H
      have c6b0 := beq_eq_false_iff_ne.mpr c6
      have c6b1 := bne_iff_ne.mpr c6
      by_cases c7 : a0.toList = ([102, 111, 114] : List UInt8)
      ·rw [if_pos c7] at H
       have c7b0 := beq_iff_eq.mpr c7
       have c7b1 := bne_eq_false_iff_eq.mpr c7
       clear c7
       obtain rfl := Option.some.inj H
       go_enter Tryd.func52, Tryd.ntmps52
       go_wp2
       go_ret
       exact ⟨x59_13, x59_11⟩
      ·rw [if_neg c7] at H
       have c7b0 := beq_eq_false_iff_ne.mpr c7
       have c7b1 := bne_iff_ne.mpr c7
       by_cases c8 : a0.toList = ([105, 110] : List UInt8)
       ·rw [if_pos c8] at H
        have c8b0 := beq_iff_eq.mpr c8
        have c8b1 := bne_eq_false_iff_eq.mpr c8
        clear c8
        obtain rfl := Option.some.inj H
        go_enter Tryd.func52, Tryd.ntmps52
        go_wp2
        go_ret
        exact ⟨x59_13, x59_11⟩
       ·rw [if_neg c8] at H
        have c8b0 := beq_eq_false_iff_ne.mpr c8
        have c8b1 := bne_iff_ne.mpr c8
        by_cases c9 : a0.toList = ([98, 114, 101, 97, 107] : List UInt8)
        ·rw [if_pos c9] at H
         have c9b0 := beq_iff_eq.mpr c9
         have c9b1 := bne_eq_false_iff_eq.mpr c9
         clear c9
         obtain rfl := Option.some.inj H
         go_enter Tryd.func52, Tryd.ntmps52
         go_wp2
         go_ret
         exact ⟨x59_13, x59_11⟩
        ·rw [if_neg c9] at H
         have c9b0 := beq_eq_false_iff_ne.mpr c9
         have c9b1 := bne_iff_ne.mpr c9
         by_cases c10 : a0.toList = ([99, 111, 110, 116, 105, 110, 117, 101] : List UInt8)
         ·rw [if_pos c10] at H
          have c10b0 := beq_iff_eq.mpr c10
          have c10b1 := bne_eq_false_iff_eq.mpr c10
          clear c10
          obtain rfl := Option.some.inj H
          go_enter Tryd.func52, Tryd.ntmps52
          go_wp2
          go_ret
          exact ⟨x59_13, x59_11⟩
         ·rw [if_neg c10] at H
          have c10b0 := beq_eq_false_iff_ne.mpr c10
          have c10b1 := bne_iff_ne.mpr c10
          by_cases c11 : a0.toList = ([114, 101, 116, 117, 114, 110] : List UInt8)
          ·rw [if_pos c11] at H
           have c11b0 := beq_iff_eq.mpr c11
           have c11b1 := bne_eq_false_iff_eq.mpr c11
           clear c11
           obtain rfl := Option.some.inj H
           go_enter Tryd.func52, Tryd.ntmps52
           go_wp2
           go_ret
           exact ⟨x59_13, x59_11⟩
          ·rw [if_neg c11] at H
           have c11b0 := beq_eq_false_iff_ne.mpr c11
           have c11b1 := bne_iff_ne.mpr c11
           by_cases c12 : a0.toList = ([111, 117, 116] : List UInt8)
           ·rw [if_pos c12] at H
            have c12b0 := beq_iff_eq.mpr c12
            have c12b1 := bne_eq_false_iff_eq.mpr c12
            clear c12
            obtain rfl := Option.some.inj H
            go_enter Tryd.func52, Tryd.ntmps52
            go_wp2
            go_ret
            exact ⟨x59_13, x59_11⟩
           ·rw [if_neg c12] at H
            have c12b0 := beq_eq_false_iff_ne.mpr c12
            have c12b1 := bne_iff_ne.mpr c12
            by_cases c13 : a0.toList = ([97, 110, 100] : List UInt8)
            ·rw [if_pos c13] at H
             have c13b0 := beq_iff_eq.mpr c13
             have c13b1 := bne_eq_false_iff_eq.mpr c13
             clear c13
             obtain rfl := Option.some.inj H
             go_enter Tryd.func52, Tryd.ntmps52
             go_wp2
             go_ret
             exact ⟨x59_13, x59_11⟩
            ·rw [if_neg c13] at H
             have c13b0 := beq_eq_false_iff_ne.mpr c13
             have c13b1 := bne_iff_ne.mpr c13
             by_cases c14 : a0.toList = ([111, 114] : List UInt8)
             ·rw [if_pos c14] at H
              have c14b0 := beq_iff_eq.mpr c14
              have c14b1 := bne_eq_false_iff_eq.mpr c14
              clear c14
              obtain rfl := Option.some.inj H
              go_enter Tryd.func52, Tryd.ntmps52
              go_wp2
              go_ret
              exact ⟨x59_13, x59_11⟩
             ·rw [if_neg c14] at H
              have c14b0 := beq_eq_false_iff_ne.mpr c14
              have c14b1 := bne_iff_ne.mpr c14
              by_cases c15 : a0.toList = ([110, 111, 116] : List UInt8)
              ·rw [if_pos c15] at H
               have c15b0 := beq_iff_eq.mpr c15
               have c15b1 := bne_eq_false_iff_eq.mpr c15
               clear c15
               obtain rfl := Option.some.inj H
               go_enter Tryd.func52, Tryd.ntmps52
               go_wp2
               go_ret
               exact ⟨x59_13, x59_11⟩
              ·rw [if_neg c15] at H
               have c15b0 := beq_eq_false_iff_ne.mpr c15
               have c15b1 := bne_iff_ne.mpr c15
               by_cases c16 : a0.toList = ([116, 114, 117, 101] : List UInt8)
               ·rw [if_pos c16] at H
                have c16b0 := beq_iff_eq.mpr c16
                have c16b1 := bne_eq_false_iff_eq.mpr c16
                clear c16
                obtain rfl := Option.some.inj H
                go_enter Tryd.func52, Tryd.ntmps52
                go_wp2
                go_ret
                exact ⟨x59_13, x59_11⟩
               ·rw [if_neg c16] at H
                have c16b0 := beq_eq_false_iff_ne.mpr c16
                have c16b1 := bne_iff_ne.mpr c16
                by_cases c17 : a0.toList = ([102, 97, 108, 115, 101] : List UInt8)
                ·rw [if_pos c17] at H
                 have c17b0 := beq_iff_eq.mpr c17
                 have c17b1 := bne_eq_false_iff_eq.mpr c17
                 clear c17
                 obtain rfl := Option.some.inj H
                 go_enter Tryd.func52, Tryd.ntmps52
                 go_wp2
                 go_ret
                 exact ⟨x59_13, x59_11⟩
                ·rw [if_neg c17] at H
                 have c17b0 := beq_eq_false_iff_ne.mpr c17
                 have c17b1 := bne_iff_ne.mpr c17
                 by_cases c18 : a0.toList = ([110, 105, 108] : List UInt8)
                 ·rw [if_pos c18] at H
                  have c18b0 := beq_iff_eq.mpr c18
                  have c18b1 := bne_eq_false_iff_eq.mpr c18
                  clear c18
                  obtain rfl := Option.some.inj H
                  go_enter Tryd.func52, Tryd.ntmps52
                  go_wp2
                  go_ret
                  exact ⟨x59_13, x59_11⟩
                 ·rw [if_neg c18] at H
                  have c18b0 := beq_eq_false_iff_ne.mpr c18
                  have c18b1 := bne_iff_ne.mpr c18
                  obtain rfl := Option.some.inj H
                  go_enter Tryd.func52, Tryd.ntmps52
                  go_wp2
                  go_ret
                  exact ⟨x59_13, x59_11⟩
mutual
def casketref11_name.j1 : Nat → ByteArray → Int → Int → Option (Int × Int × ByteArray × Int × Int × Int × Int × Int)
 | 0, _, _, _ => none
 | k + 1, x0, x1, x7 => if 0 ≤ x1 then (if x1 ≤ x7 then (if x7 ≤ (x0.size : Int) then (if ((x0.extract (x1 : Int).toNat (x7 : Int).toNat).size : Int) > 31 then ((casketref11_fault.f 63 x1).bind fun bt283 => (some (bt283.1, bt283.2.1, bt283.2.2.1, bt283.2.2.2.1, bt283.2.2.2.2.1, bt283.2.2.2.2.2.1, bt283.2.2.2.2.2.2.1, bt283.2.2.2.2.2.2.2))) else (if (x0.extract (x1 : Int).toNat (x7 : Int).toNat).toList = ([105, 110, 102] : List UInt8) then (casketref11_name.j2 k x1 x7 (x0.extract (x1 : Int).toNat (x7 : Int).toNat) true) else (casketref11_name.j2 k x1 x7 (x0.extract (x1 : Int).toNat (x7 : Int).toNat) ((x0.extract (x1 : Int).toNat (x7 : Int).toNat).toList == ([110, 97, 110] : List UInt8))))) else (none)) else (none)) else (none)
def casketref11_name.j2 : Nat → Int → Int → ByteArray → Bool → Option (Int × Int × ByteArray × Int × Int × Int × Int × Int)
 | 0, _, _, _, _ => none
 | k + 1, x1, x7, x8, x42 => if x42 = true then ((casketref4_ParseFloat.f k x8).bind fun bt291 => (some (5, x1, (⟨#[]⟩ : ByteArray), 0, bt291.1, x7, 0, 0))) else ((casketref11_Reserved.f x8).bind fun t293 => (if t293 = true then (some (2, x1, x8, 0, 0, x7, 0, 0)) else (some (1, x1, x8, 0, 0, x7, 0, 0))))
def casketref11_name.l0 : Nat → ByteArray → Int → Int → Option (Int × Int × ByteArray × Int × Int × Int × Int × Int)
 | 0, _, _, _ => none
 | k + 1, x0, x1, x7 => if x7 < (x0.size : Int) then (if 0 ≤ x7 then ((casketref11_goesOn.f (bt x0 x7)).bind fun t282 => (if t282 = true then (casketref11_name.l0 k x0 x1 (wrap64 (x7 + 1))) else (casketref11_name.j1 k x0 x1 x7))) else (none)) else (casketref11_name.j1 k x0 x1 x7)
end
def casketref11_name.f (k : Nat) (a0 : ByteArray) (a1 : Int) : Option (Int × Int × ByteArray × Int × Int × Int × Int × Int) := casketref11_name.l0 k a0 a1 a1
set_option maxHeartbeats 8000000 in
set_option maxRecDepth 100000 in
theorem casketref11_name.calls (k : Nat) (a0 : ByteArray) (a1 : Int) (r1 : Int) (r2 : Int) (r3 : ByteArray) (r4 : Int) (r5 : Int) (r6 : Int) (r7 : Int) (r8 : Int) (w : World) (h : casketref11_name.f k a0 a1 = some (r1, r2, r3, r4, r5, r6, r7, r8)) :
  Calls Tryd.prog 29 #[.string a0, .int .i64 a1] w fun e w' => e = .returned (.tuple #[.agg #[.int .i64 r1, .int .i64 r2, .string r3, .int .i64 r4, .int .u64 r5], .int .i64 r6, .agg #[.int .i64 r7, .int .i64 r8]]) ∧ Below w.heap.size w w' := by
 have hu30 := Tryd.underlying30
 have hu25 := Tryd.underlying25
 have HB := Aside0.mk (Below.refl w.heap.size w)
 have H : (casketref11_name.l0 k a0 a1 a1) = some (r1, r2, r3, r4, r5, r6, r7, r8) := h
 clear h
 have HC3 := Aside0.mk H
 clear H
 go_enter Tryd.func29, Tryd.ntmps29
 go_upto_block 0 with (first | ((with_reducible refine gate_dst (N := 4) rfl ?_); refine box_event ?hg (N := 4) ?hd (cs := #[.int .i64 0, .int .i64 0, .string (⟨#[]⟩ : ByteArray), .int .i64 0, .int .u64 0]) (t := 30) ?hr ?_; (case hd => rfl); (case hg => rfl); (case hr => first | (go_simp; done) | (go_simp; rfl)); intro gb280 hg w4 hbox hb; have n0_ := Aside0.mk (below_step x59_5 hb); have n1_ := Aside0.mk (hbox); have n2_ := Aside0.mk ((by rw [hg]; exact (below_size x59_5) : w.heap.size ≤ gb280)); have n3_ := Aside0.mk ((by rw [hg]; exact (below_size x59_5) : w.heap.size ≤ gb280)); clear HB; have HB := n0_; have BK280 := n1_; have GW280 := n2_; have GE280 := n3_; clear n0_ n1_ n2_ n3_; clear hb hbox hg) | ((with_reducible refine gate_dst (N := 6) rfl ?_); refine box_event ?hg (N := 6) ?hd (cs := #[.int .i64 0, .int .i64 0]) (t := 25) ?hr ?_; (case hd => rfl); (case hg => rfl); (case hr => first | (go_simp; done) | (go_simp; rfl)); intro gb281 hg w5 hbox hb; have n0_ := Aside0.mk (blk_below (g := gb280) (o := .cells #[.int .i64 0, .int .i64 0, .string (⟨#[]⟩ : ByteArray), .int .i64 0, .int .u64 0] 30 (0, 0)) x59_8 hb); have n1_ := Aside0.mk (below_step x59_3 hb); have n2_ := Aside0.mk (hbox); have n3_ := Aside0.mk ((by rw [hg]; exact (below_size x59_3) : w.heap.size ≤ gb281)); have n4_ := Aside0.mk ((by rw [hg]; exact (below_size x59_3) : w.heap.size ≤ gb281)); have n5_ := Aside0.mk ((by rw [hg]; exact Nat.ne_of_lt (blk_lt (g := gb280) (o := .cells #[.int .i64 0, .int .i64 0, .string (⟨#[]⟩ : ByteArray), .int .i64 0, .int .u64 0] 30 (0, 0)) x59_8) : gb280 ≠ gb281)); have n6_ := Aside0.mk ((by rw [hg]; exact Nat.ne_of_gt (blk_lt (g := gb280) (o := .cells #[.int .i64 0, .int .i64 0, .string (⟨#[]⟩ : ByteArray), .int .i64 0, .int .u64 0] 30 (0, 0)) x59_8) : gb281 ≠ gb280)); clear BK280; clear HB; have BK280 := n0_; have HB := n1_; have BK281 := n2_; have GW281 := n3_; have GE281 := n4_; have NB280_281 := n5_; have NB281_280 := n6_; clear n0_ n1_ n2_ n3_ n4_ n5_ n6_; clear hb hbox hg))
 (try simp only [Act.put, List.setIfInBounds_toArray, List.set_cons_zero, List.set_cons_succ])
 go_cut [7] (fun v7 wc => ∃ (kq : Nat) (x7_2 : Int), v7 = .int .i64 x7_2 ∧ Aside0 (casketref11_name.j1 kq a0 a1 x7_2 = some (r1, r2, r3, r4, r5, r6, r7, r8)) ∧ Aside0 (kq ≤ k) ∧ Aside0 (wc.heap[gb280]? = some (.cells #[.int .i64 0, .int .i64 0, .string (⟨#[]⟩ : ByteArray), .int .i64 0, .int .u64 0] 30 (0, 0))) ∧ Aside0 (wc.heap[gb281]? = some (.cells #[.int .i64 0, .int .i64 0] 25 (0, 0))) ∧ Aside0 (Below w.heap.size w wc))
 case first =>
  have H := HC3.out
  clear HC3
  have H' := Aside0.mk H
  clear H
  go_wp2
  go_loopg [7] k (fun kq v7 w' => ∃ (x7_1 : Int), v7 = .int .i64 x7_1 ∧ Aside0 (casketref11_name.l0 kq a0 a1 x7_1 = some (r1, r2, r3, r4, r5, r6, r7, r8)) ∧ Aside0 (kq ≤ k) ∧ Aside0 (w'.heap[gb280]? = some (.cells #[.int .i64 0, .int .i64 0, .string (⟨#[]⟩ : ByteArray), .int .i64 0, .int .u64 0] 30 (0, 0))) ∧ Aside0 (w'.heap[gb281]? = some (.cells #[.int .i64 0, .int .i64 0] 25 (0, 0))) ∧ Aside0 (Below w.heap.size w w'))
  case atStart => exact ⟨(a1), x59_13, H', ⟨Nat.le_refl _⟩, ⟨x59_8⟩, ⟨x59_9⟩, ⟨x59_2⟩⟩
  case round =>
   clear H'
   obtain ⟨x7_1, rfl, HA, HK1, BK280, BK281, HB⟩ := hrel
   cases gk with
   | zero => exact absurd HA.out (by simp [casketref11_name.l0])
   | succ k1 =>
    have H := HA.out
    clear HA
    simp only [casketref11_name.l0] at H
    by_cases c6 : x7_1 < (a0.size : Int)
    ·rw [if_pos c6] at H
     have c6b0 := decide_eq_true c6
     clear c6
     (first | rw [c6b0] | (simp only [i64_w, i32_w]; rw [c6b0]) | skip)
     by_cases c7 : 0 ≤ x7_1
     ·rw [if_pos c7] at H
      have c7b0 := decide_eq_true c7
      clear c7
      obtain ⟨t282, A90, H⟩ := Option.bind_eq_some_iff.mp H
      have A9 := Aside0.mk A90
      clear A90
      by_cases c10 : t282 = true
      ·subst c10
       rw [if_pos rfl] at H
       have H' := Aside0.mk H
       clear H
       have p8 : 0 ≤ (x7_1 : Int) := of_decide_eq_true x59_12
       have q8 : x7_1 < (a0.size : Int) := of_decide_eq_true x59_12
       have hx8 := bt_at a0 x7_1
       replace p8 := eq_true p8
       replace q8 := eq_true q8
       go_wp2_with (first | (go_at_call 50; (with_reducible refine (casketref11_goesOn.calls (bt a0 x7_1) true _ A9.out).mono ?_); rintro e w' ⟨rfl, ⟨nd, rfl⟩⟩))
       go_roundg k1
       case measure => have := HK1.out; omega
       case rel => exact ⟨(wrap64 (x7_1 + 1)), x59_13, H', ⟨by have := HK1.out; omega⟩, ⟨x59_8⟩, ⟨x59_9⟩, ⟨x59_2⟩⟩
      ·replace c10 := Bool.eq_false_iff.mpr c10
       subst c10
       rw [if_neg (show ¬ (false = true) by decide)] at H
       have H' := Aside0.mk H
       clear H
       have p8 : 0 ≤ (x7_1 : Int) := of_decide_eq_true x59_12
       have q8 : x7_1 < (a0.size : Int) := of_decide_eq_true x59_12
       have hx8 := bt_at a0 x7_1
       replace p8 := eq_true p8
       replace q8 := eq_true q8
       go_wp2_with (first | (go_at_call 50; (with_reducible refine (casketref11_goesOn.calls (bt a0 x7_1) false _ A9.out).mono ?_); rintro e w' ⟨rfl, ⟨nd, rfl⟩⟩))
       go_meet
       case rel => exact ⟨_, (x7_1), x59_13, H', ⟨by have := HK1.out; first | omega | exact Nat.le_refl _⟩, ⟨x59_8⟩, ⟨x59_9⟩, ⟨x59_2⟩⟩
     ·rw [if_neg c7] at H
      exact absurd H (by simp)
    ·rw [if_neg c6] at H
     have c6b0 := decide_eq_false c6
     clear c6
     (first | rw [c6b0] | (simp only [i64_w, i32_w]; rw [c6b0]) | skip)
     have H' := Aside0.mk H
     clear H
     go_wp2
     go_meet
     case rel => exact ⟨_, (x7_1), x59_13, H', ⟨by have := HK1.out; first | omega | exact Nat.le_refl _⟩, ⟨x59_8⟩, ⟨x59_9⟩, ⟨x59_2⟩⟩
 case rest =>
  clear HC3
  obtain ⟨kq, x7_2, rfl, HA, HJ2, BK280, BK281, HB⟩ := hcut
  cases kq with
  | zero => exact absurd HA.out (by simp [casketref11_name.j1])
  | succ kj2 =>
   have H := HA.out
   clear HA
   simp only [casketref11_name.j1] at H
   by_cases c11 : 0 ≤ a1
   ·rw [if_pos c11] at H
    have c11b0 := eq_true c11
    have c11b1 := decide_eq_true c11
    clear c11
    by_cases c12 : a1 ≤ x7_2
    ·rw [if_pos c12] at H
     have c12b0 := eq_true c12
     have c12b1 := decide_eq_true c12
     clear c12
     by_cases c13 : x7_2 ≤ (a0.size : Int)
     ·rw [if_pos c13] at H
      have c13b0 := eq_true c13
      have c13b1 := decide_eq_true c13
      clear c13
      by_cases c14 : ((a0.extract (a1 : Int).toNat (x7_2 : Int).toNat).size : Int) > 31
      ·rw [if_pos c14] at H
       have c14b0 : decide (31 < ((a0.extract (a1 : Int).toNat (x7_2 : Int).toNat).size : Int)) = true := decide_eq_true c14
       try have c14b0w : decide (31 < (((x7_2 : Int).toNat - (a1 : Int).toNat : Nat) : Int)) = true := by (have h_ := c14b0; rw [show (a0.extract (a1 : Int).toNat (x7_2 : Int).toNat).size = ((x7_2 : Int).toNat - (a1 : Int).toNat : Nat) from by (have hq_ := of_eq_true (show (x7_2 ≤ (a0.size : Int)) = True by assumption); simp only [ByteArray.size_extract]; omega)] at h_; exact h_)
       try (have c14b0v := c14b0; simp only [ByteArray.size_extract, Nat.min_self] at c14b0v)
       have c14b1 : decide (31 < (a0.extract (a1 : Int).toNat (x7_2 : Int).toNat).size) = true := decide_eq_true (by omega)
       try have c14b1w : decide (31 < ((x7_2 : Int).toNat - (a1 : Int).toNat : Nat)) = true := by (have h_ := c14b1; rw [show (a0.extract (a1 : Int).toNat (x7_2 : Int).toNat).size = ((x7_2 : Int).toNat - (a1 : Int).toNat : Nat) from by (have hq_ := of_eq_true (show (x7_2 ≤ (a0.size : Int)) = True by assumption); simp only [ByteArray.size_extract]; omega)] at h_; exact h_)
       try (have c14b1v := c14b1; simp only [ByteArray.size_extract, Nat.min_self] at c14b1v)
       clear c14
       replace H := Option.bind_eq_some_iff.mp H
       obtain ⟨⟨t283, t284, t285, t286, t287, t288, t289, t290⟩, A150, H⟩ := H
       replace H : (some (t283, t284, t285, t286, t287, t288, t289, t290)) = some (r1, r2, r3, r4, r5, r6, r7, r8) := H
       have A15 := Aside0.mk A150
       clear A150
       simp only [Option.some.injEq, Prod.mk.injEq] at H
       obtain ⟨rfl, rfl, rfl, rfl, rfl, rfl, rfl, rfl⟩ := H
       go_wp2_with (first | ((with_reducible refine gate_callee (f := 34) rfl ?_); refine goesL_ (some 33) rfl rfl Tryd.func34 (by kernel_rfl) rfl #[.int .i64 63, .int .i64 a1] rfl x59_4 ?_; (with_reducible refine (casketref11_fault.calls 63 a1 t283 t284 t285 t286 t287 t288 t289 t290 _ A15.out).mono ?_); rintro e w16 ⟨rfl, hb⟩; refine ⟨_, rfl, ?_⟩; have n0_ := Aside0.mk (blk_below (g := gb280) (o := .cells #[.int .i64 0, .int .i64 0, .string (⟨#[]⟩ : ByteArray), .int .i64 0, .int .u64 0] 30 (0, 0)) x59_8 hb); have n1_ := Aside0.mk (blk_below (g := gb281) (o := .cells #[.int .i64 0, .int .i64 0] 25 (0, 0)) x59_9 hb); have n2_ := Aside0.mk (below_step x59_2 hb); clear BK280; clear BK281; clear HB; have BK280 := n0_; have BK281 := n1_; have HB := n2_; clear n0_ n1_ n2_; have hnb17 := NB280_281.out; have hnc17 := NB281_280.out; have hcz18_0 : w16.cell? ⟨gb280, 0, none⟩ = some (.int .i64 0) := (blk_cell BK280.out 0).trans rfl; have hcz18_1 : w16.cell? ⟨gb280, 1, none⟩ = some (.int .i64 0) := (blk_cell BK280.out 1).trans rfl; have hcz18_2 : w16.cell? ⟨gb280, 2, none⟩ = some (.string (⟨#[]⟩ : ByteArray)) := (blk_cell BK280.out 2).trans rfl; have hcz18_3 : w16.cell? ⟨gb280, 3, none⟩ = some (.int .i64 0) := (blk_cell BK280.out 3).trans rfl; have hcz18_4 : w16.cell? ⟨gb280, 4, none⟩ = some (.int .u64 0) := (blk_cell BK280.out 4).trans rfl; have hfz18_0 := blk_frozen BK280.out 0; have hfz18_1 := blk_frozen BK280.out 1; have hfz18_2 := blk_frozen BK280.out 2; have hfz18_3 := blk_frozen BK280.out 3; have hfz18_4 := blk_frozen BK280.out 4; have hcz19_0 : w16.cell? ⟨gb281, 0, none⟩ = some (.int .i64 0) := (blk_cell BK281.out 0).trans rfl; have hcz19_1 : w16.cell? ⟨gb281, 1, none⟩ = some (.int .i64 0) := (blk_cell BK281.out 1).trans rfl; have hfz19_0 := blk_frozen BK281.out 0; have hfz19_1 := blk_frozen BK281.out 1))
       refine bodyPost_ret (results_list (rs := [.cell 4 30, .tmp 5, .cell 6 25]) rfl (by simp) (.cell gb280 30 #[.int .i64 t283, .int .i64 t284, .string t285, .int .i64 t286, .int .u64 t287] (0, 0) _ rfl (by (with_reducible repeat first | apply blk_drewN | apply blk_drew | apply blk_alloc); refine blk_far ?_ NB280_281.out _; (with_reducible repeat first | apply blk_drewN | apply blk_drew | apply blk_alloc); refine blk_far ?_ NB280_281.out _; (with_reducible repeat first | apply blk_drewN | apply blk_drew | apply blk_alloc); refine blk_put (cs := #[.int .i64 t283, .int .i64 t284, .string t285, .int .i64 t286, .int .u64 0]) ?_ 4 _ rfl; (with_reducible repeat first | apply blk_drewN | apply blk_drew | apply blk_alloc); refine blk_put (cs := #[.int .i64 t283, .int .i64 t284, .string t285, .int .i64 0, .int .u64 0]) ?_ 3 _ rfl; (with_reducible repeat first | apply blk_drewN | apply blk_drew | apply blk_alloc); refine blk_put (cs := #[.int .i64 t283, .int .i64 t284, .string (⟨#[]⟩ : ByteArray), .int .i64 0, .int .u64 0]) ?_ 2 _ rfl; (with_reducible repeat first | apply blk_drewN | apply blk_drew | apply blk_alloc); refine blk_put (cs := #[.int .i64 t283, .int .i64 0, .string (⟨#[]⟩ : ByteArray), .int .i64 0, .int .u64 0]) ?_ 1 _ rfl; (with_reducible repeat first | apply blk_drewN | apply blk_drew | apply blk_alloc); refine blk_put (cs := #[.int .i64 0, .int .i64 0, .string (⟨#[]⟩ : ByteArray), .int .i64 0, .int .u64 0]) ?_ 0 _ rfl; (with_reducible repeat first | apply blk_drewN | apply blk_drew | apply blk_alloc); exact BK280.out) Tryd.underlying30 rfl (by kernel_rfl) (.tmp (.cell gb281 25 #[.int .i64 t289, .int .i64 t290] (0, 0) _ rfl (by (with_reducible repeat first | apply blk_drewN | apply blk_drew | apply blk_alloc); refine blk_put (cs := #[.int .i64 t289, .int .i64 0]) ?_ 1 _ rfl; (with_reducible repeat first | apply blk_drewN | apply blk_drew | apply blk_alloc); refine blk_put (cs := #[.int .i64 0, .int .i64 0]) ?_ 0 _ rfl; (with_reducible repeat first | apply blk_drewN | apply blk_drew | apply blk_alloc); refine blk_far ?_ NB281_280.out _; (with_reducible repeat first | apply blk_drewN | apply blk_drew | apply blk_alloc); refine blk_far ?_ NB281_280.out _; (with_reducible repeat first | apply blk_drewN | apply blk_drew | apply blk_alloc); refine blk_far ?_ NB281_280.out _; (with_reducible repeat first | apply blk_drewN | apply blk_drew | apply blk_alloc); refine blk_far ?_ NB281_280.out _; (with_reducible repeat first | apply blk_drewN | apply blk_drew | apply blk_alloc); refine blk_far ?_ NB281_280.out _; (with_reducible repeat first | apply blk_drewN | apply blk_drew | apply blk_alloc); exact BK281.out) Tryd.underlying25 rfl (by kernel_rfl) .nil)))) rfl ?_
       exact ⟨x59_10, x59_2⟩
      ·rw [if_neg c14] at H
       have c14b0 : decide (31 < ((a0.extract (a1 : Int).toNat (x7_2 : Int).toNat).size : Int)) = false := decide_eq_false c14
       try have c14b0w : decide (31 < (((x7_2 : Int).toNat - (a1 : Int).toNat : Nat) : Int)) = false := by (have h_ := c14b0; rw [show (a0.extract (a1 : Int).toNat (x7_2 : Int).toNat).size = ((x7_2 : Int).toNat - (a1 : Int).toNat : Nat) from by (have hq_ := of_eq_true (show (x7_2 ≤ (a0.size : Int)) = True by assumption); simp only [ByteArray.size_extract]; omega)] at h_; exact h_)
       try (have c14b0v := c14b0; simp only [ByteArray.size_extract, Nat.min_self] at c14b0v)
       have c14b1 : decide (31 < (a0.extract (a1 : Int).toNat (x7_2 : Int).toNat).size) = false := decide_eq_false (by omega)
       try have c14b1w : decide (31 < ((x7_2 : Int).toNat - (a1 : Int).toNat : Nat)) = false := by (have h_ := c14b1; rw [show (a0.extract (a1 : Int).toNat (x7_2 : Int).toNat).size = ((x7_2 : Int).toNat - (a1 : Int).toNat : Nat) from by (have hq_ := of_eq_true (show (x7_2 ≤ (a0.size : Int)) = True by assumption); simp only [ByteArray.size_extract]; omega)] at h_; exact h_)
       try (have c14b1v := c14b1; simp only [ByteArray.size_extract, Nat.min_self] at c14b1v)
       clear c14
       have HC20 := Aside0.mk H
       clear H
       go_upto_region 7 with (fail)
       go_cut [42] (fun v42 wc => ∃ (kq : Nat) (x42_19 : Bool), v42 = .bool x42_19 ∧ Aside0 (casketref11_name.j2 kq a1 x7_2 (a0.extract (a1 : Int).toNat (x7_2 : Int).toNat) x42_19 = some (r1, r2, r3, r4, r5, r6, r7, r8)) ∧ Aside0 (kq ≤ kj2) ∧ Aside0 (wc.heap[gb280]? = some (.cells #[.int .i64 0, .int .i64 0, .string (⟨#[]⟩ : ByteArray), .int .i64 0, .int .u64 0] 30 (0, 0))) ∧ Aside0 (wc.heap[gb281]? = some (.cells #[.int .i64 0, .int .i64 0] 25 (0, 0))) ∧ Aside0 (Below w.heap.size w wc))
       case first =>
        have H := HC20.out
        clear HC20
        by_cases c21 : (a0.extract (a1 : Int).toNat (x7_2 : Int).toNat).toList = ([105, 110, 102] : List UInt8)
        ·rw [if_pos c21] at H
         have c21b0 := beq_iff_eq.mpr c21
         have c21b1 := bne_eq_false_iff_eq.mpr c21
         clear c21
         (first | rw [c21b0] | (simp only [i64_w, i32_w]; rw [c21b0]) | skip)
         have H' := Aside0.mk H
         clear H
         go_wp2
         go_meet
         case rel => exact ⟨_, (true), x59_13, H', ⟨by have := HJ2.out; first | omega | exact Nat.le_refl _⟩, ⟨x59_8⟩, ⟨x59_9⟩, ⟨x59_2⟩⟩
        ·rw [if_neg c21] at H
         have c21b0 := beq_eq_false_iff_ne.mpr c21
         have c21b1 := bne_iff_ne.mpr c21
         (first | rw [c21b0] | (simp only [i64_w, i32_w]; rw [c21b0]) | skip)
         have H' := Aside0.mk H
         clear H
         go_wp2
         go_meet
         case rel => exact ⟨_, (((a0.extract (a1 : Int).toNat (x7_2 : Int).toNat).toList == ([110, 97, 110] : List UInt8))), x59_13, H', ⟨by have := HJ2.out; first | omega | exact Nat.le_refl _⟩, ⟨x59_8⟩, ⟨x59_9⟩, ⟨x59_2⟩⟩
       case rest =>
        clear HC20
        obtain ⟨kq, x42_19, rfl, HA, HJ19, BK280, BK281, HB⟩ := hcut
        cases kq with
        | zero => exact absurd HA.out (by simp [casketref11_name.j2])
        | succ kj19 =>
         have H := HA.out
         clear HA
         simp only [casketref11_name.j2] at H
         by_cases c22 : x42_19 = true
         ·subst c22
          rw [if_pos rfl] at H
          replace H := Option.bind_eq_some_iff.mp H
          obtain ⟨⟨t291, t292⟩, A230, H⟩ := H
          replace H : (some (5, a1, (⟨#[]⟩ : ByteArray), 0, t291, x7_2, 0, 0)) = some (r1, r2, r3, r4, r5, r6, r7, r8) := H
          have A23 := Aside0.mk A230
          clear A230
          simp only [Option.some.injEq, Prod.mk.injEq] at H
          obtain ⟨rfl, rfl, rfl, rfl, rfl, rfl, rfl, rfl⟩ := H
          go_wp2_with (first | ((with_reducible refine gate_callee (f := 51) rfl ?_); refine goesL_ (some 45) rfl rfl Tryd.func51 (by kernel_rfl) rfl #[.string (a0.extract (a1 : Int).toNat (x7_2 : Int).toNat)] rfl x59_4 ?_; (with_reducible refine (casketref4_ParseFloat.calls kj19 (a0.extract (a1 : Int).toNat (x7_2 : Int).toNat) t291 t292 _ A23.out).mono ?_); rintro e w24 ⟨rfl, hb⟩; refine ⟨_, rfl, ?_⟩; have n0_ := Aside0.mk (blk_below (g := gb280) (o := .cells #[.int .i64 0, .int .i64 0, .string (⟨#[]⟩ : ByteArray), .int .i64 0, .int .u64 0] 30 (0, 0)) x59_8 hb); have n1_ := Aside0.mk (blk_below (g := gb281) (o := .cells #[.int .i64 0, .int .i64 0] 25 (0, 0)) x59_9 hb); have n2_ := Aside0.mk (below_step x59_2 hb); clear BK280; clear BK281; clear HB; have BK280 := n0_; have BK281 := n1_; have HB := n2_; clear n0_ n1_ n2_; have hnb25 := NB280_281.out; have hnc25 := NB281_280.out; have hcz26_0 : w24.cell? ⟨gb280, 0, none⟩ = some (.int .i64 0) := (blk_cell BK280.out 0).trans rfl; have hcz26_1 : w24.cell? ⟨gb280, 1, none⟩ = some (.int .i64 0) := (blk_cell BK280.out 1).trans rfl; have hcz26_2 : w24.cell? ⟨gb280, 2, none⟩ = some (.string (⟨#[]⟩ : ByteArray)) := (blk_cell BK280.out 2).trans rfl; have hcz26_3 : w24.cell? ⟨gb280, 3, none⟩ = some (.int .i64 0) := (blk_cell BK280.out 3).trans rfl; have hcz26_4 : w24.cell? ⟨gb280, 4, none⟩ = some (.int .u64 0) := (blk_cell BK280.out 4).trans rfl; have hfz26_0 := blk_frozen BK280.out 0; have hfz26_1 := blk_frozen BK280.out 1; have hfz26_2 := blk_frozen BK280.out 2; have hfz26_3 := blk_frozen BK280.out 3; have hfz26_4 := blk_frozen BK280.out 4; have hcz27_0 : w24.cell? ⟨gb281, 0, none⟩ = some (.int .i64 0) := (blk_cell BK281.out 0).trans rfl; have hcz27_1 : w24.cell? ⟨gb281, 1, none⟩ = some (.int .i64 0) := (blk_cell BK281.out 1).trans rfl; have hfz27_0 := blk_frozen BK281.out 0; have hfz27_1 := blk_frozen BK281.out 1))
          refine bodyPost_ret (results_list (rs := [.cell 4 30, .tmp 5, .cell 6 25]) rfl (by simp) (.cell gb280 30 #[.int .i64 5, .int .i64 a1, .string (⟨#[]⟩ : ByteArray), .int .i64 0, .int .u64 t291] (0, 0) _ rfl (by (with_reducible repeat first | apply blk_drewN | apply blk_drew | apply blk_alloc); refine blk_far ?_ NB280_281.out _; (with_reducible repeat first | apply blk_drewN | apply blk_drew | apply blk_alloc); refine blk_far ?_ NB280_281.out _; (with_reducible repeat first | apply blk_drewN | apply blk_drew | apply blk_alloc); refine blk_put (cs := #[.int .i64 5, .int .i64 a1, .string (⟨#[]⟩ : ByteArray), .int .i64 0, .int .u64 0]) ?_ 4 _ rfl; (with_reducible repeat first | apply blk_drewN | apply blk_drew | apply blk_alloc); refine blk_put (cs := #[.int .i64 5, .int .i64 a1, .string (⟨#[]⟩ : ByteArray), .int .i64 0, .int .u64 0]) ?_ 3 _ rfl; (with_reducible repeat first | apply blk_drewN | apply blk_drew | apply blk_alloc); refine blk_put (cs := #[.int .i64 5, .int .i64 a1, .string (⟨#[]⟩ : ByteArray), .int .i64 0, .int .u64 0]) ?_ 2 _ rfl; (with_reducible repeat first | apply blk_drewN | apply blk_drew | apply blk_alloc); refine blk_put (cs := #[.int .i64 5, .int .i64 0, .string (⟨#[]⟩ : ByteArray), .int .i64 0, .int .u64 0]) ?_ 1 _ rfl; (with_reducible repeat first | apply blk_drewN | apply blk_drew | apply blk_alloc); refine blk_put (cs := #[.int .i64 0, .int .i64 0, .string (⟨#[]⟩ : ByteArray), .int .i64 0, .int .u64 0]) ?_ 0 _ rfl; (with_reducible repeat first | apply blk_drewN | apply blk_drew | apply blk_alloc); exact BK280.out) Tryd.underlying30 rfl (by kernel_rfl) (.tmp (.cell gb281 25 #[.int .i64 0, .int .i64 0] (0, 0) _ rfl x59_0 Tryd.underlying25 rfl (by kernel_rfl) .nil)))) rfl ?_
          exact ⟨x59_10, x59_2⟩
         ·replace c22 := Bool.eq_false_iff.mpr c22
          subst c22
          rw [if_neg (show ¬ (false = true) by decide)] at H
          obtain ⟨t293, A280, H⟩ := Option.bind_eq_some_iff.mp H
          have A28 := Aside0.mk A280
          clear A280
          by_cases c29 : t293 = true
          ·subst c29
           rw [if_pos rfl] at H
           simp only [Option.some.injEq, Prod.mk.injEq] at H
           obtain ⟨rfl, rfl, rfl, rfl, rfl, rfl, rfl, rfl⟩ := H
           go_wp2_with (first | ((with_reducible refine gate_callee (f := 52) rfl ?_); refine goesL_ (some 54) rfl rfl Tryd.func52 (by kernel_rfl) rfl #[.string (a0.extract (a1 : Int).toNat (x7_2 : Int).toNat)] rfl x59_4 ?_; (with_reducible refine (casketref11_Reserved.calls (a0.extract (a1 : Int).toNat (x7_2 : Int).toNat) true _ A28.out).mono ?_); rintro e w' ⟨rfl, ⟨nd, rfl⟩⟩; refine ⟨_, rfl, ?_⟩; (try (rw [drewN_self wc]; generalize hq_ : World.drewN wc _ = wc; have n0_ : Aside0 (wc.heap[gb280]? = some (.cells #[.int .i64 0, .int .i64 0, .string (⟨#[]⟩ : ByteArray), .int .i64 0, .int .u64 0] 30 (0, 0))) := ⟨x59_6⟩; have n1_ : Aside0 (wc.heap[gb281]? = some (.cells #[.int .i64 0, .int .i64 0] 25 (0, 0))) := ⟨x59_7⟩; have n2_ : Aside0 (Below w.heap.size w wc) := ⟨x59_1⟩; clear BK280 BK281 HB hq_; have BK280 := n0_; have BK281 := n1_; have HB := n2_; clear n0_ n1_ n2_)); have hnb30 := NB280_281.out; have hnc30 := NB281_280.out; have hcz31_0 : wc.cell? ⟨gb280, 0, none⟩ = some (.int .i64 0) := (blk_cell BK280.out 0).trans rfl; have hcz31_1 : wc.cell? ⟨gb280, 1, none⟩ = some (.int .i64 0) := (blk_cell BK280.out 1).trans rfl; have hcz31_2 : wc.cell? ⟨gb280, 2, none⟩ = some (.string (⟨#[]⟩ : ByteArray)) := (blk_cell BK280.out 2).trans rfl; have hcz31_3 : wc.cell? ⟨gb280, 3, none⟩ = some (.int .i64 0) := (blk_cell BK280.out 3).trans rfl; have hcz31_4 : wc.cell? ⟨gb280, 4, none⟩ = some (.int .u64 0) := (blk_cell BK280.out 4).trans rfl; have hfz31_0 := blk_frozen BK280.out 0; have hfz31_1 := blk_frozen BK280.out 1; have hfz31_2 := blk_frozen BK280.out 2; have hfz31_3 := blk_frozen BK280.out 3; have hfz31_4 := blk_frozen BK280.out 4; have hcz32_0 : wc.cell? ⟨gb281, 0, none⟩ = some (.int .i64 0) := (blk_cell BK281.out 0).trans rfl; have hcz32_1 : wc.cell? ⟨gb281, 1, none⟩ = some (.int .i64 0) := (blk_cell BK281.out 1).trans rfl; have hfz32_0 := blk_frozen BK281.out 0; have hfz32_1 := blk_frozen BK281.out 1))
           refine bodyPost_ret (results_list (rs := [.cell 4 30, .tmp 5, .cell 6 25]) rfl (by simp) (.cell gb280 30 #[.int .i64 2, .int .i64 a1, .string (a0.extract (a1 : Int).toNat (x7_2 : Int).toNat), .int .i64 0, .int .u64 0] (0, 0) _ rfl (by (with_reducible repeat first | apply blk_drewN | apply blk_drew | apply blk_alloc); refine blk_far ?_ NB280_281.out _; (with_reducible repeat first | apply blk_drewN | apply blk_drew | apply blk_alloc); refine blk_far ?_ NB280_281.out _; (with_reducible repeat first | apply blk_drewN | apply blk_drew | apply blk_alloc); refine blk_put (cs := #[.int .i64 2, .int .i64 a1, .string (a0.extract (a1 : Int).toNat (x7_2 : Int).toNat), .int .i64 0, .int .u64 0]) ?_ 4 _ rfl; (with_reducible repeat first | apply blk_drewN | apply blk_drew | apply blk_alloc); refine blk_put (cs := #[.int .i64 2, .int .i64 a1, .string (a0.extract (a1 : Int).toNat (x7_2 : Int).toNat), .int .i64 0, .int .u64 0]) ?_ 3 _ rfl; (with_reducible repeat first | apply blk_drewN | apply blk_drew | apply blk_alloc); refine blk_put (cs := #[.int .i64 2, .int .i64 a1, .string (⟨#[]⟩ : ByteArray), .int .i64 0, .int .u64 0]) ?_ 2 _ rfl; (with_reducible repeat first | apply blk_drewN | apply blk_drew | apply blk_alloc); refine blk_put (cs := #[.int .i64 2, .int .i64 0, .string (⟨#[]⟩ : ByteArray), .int .i64 0, .int .u64 0]) ?_ 1 _ rfl; (with_reducible repeat first | apply blk_drewN | apply blk_drew | apply blk_alloc); refine blk_put (cs := #[.int .i64 0, .int .i64 0, .string (⟨#[]⟩ : ByteArray), .int .i64 0, .int .u64 0]) ?_ 0 _ rfl; (with_reducible repeat first | apply blk_drewN | apply blk_drew | apply blk_alloc); exact BK280.out) Tryd.underlying30 rfl (by kernel_rfl) (.tmp (.cell gb281 25 #[.int .i64 0, .int .i64 0] (0, 0) _ rfl x59_0 Tryd.underlying25 rfl (by kernel_rfl) .nil)))) rfl ?_
           exact ⟨x59_10, x59_2⟩
          ·replace c29 := Bool.eq_false_iff.mpr c29
           subst c29
           rw [if_neg (show ¬ (false = true) by decide)] at H
           simp only [Option.some.injEq, Prod.mk.injEq] at H
           obtain ⟨rfl, rfl, rfl, rfl, rfl, rfl, rfl, rfl⟩ := H
           go_wp2_with (first | ((with_reducible refine gate_callee (f := 52) rfl ?_); refine goesL_ (some 54) rfl rfl Tryd.func52 (by kernel_rfl) rfl #[.string (a0.extract (a1 : Int).toNat (x7_2 : Int).toNat)] rfl x59_4 ?_; (with_reducible refine (casketref11_Reserved.calls (a0.extract (a1 : Int).toNat (x7_2 : Int).toNat) false _ A28.out).mono ?_); rintro e w' ⟨rfl, ⟨nd, rfl⟩⟩; refine ⟨_, rfl, ?_⟩; (try (rw [drewN_self wc]; generalize hq_ : World.drewN wc _ = wc; have n0_ : Aside0 (wc.heap[gb280]? = some (.cells #[.int .i64 0, .int .i64 0, .string (⟨#[]⟩ : ByteArray), .int .i64 0, .int .u64 0] 30 (0, 0))) := ⟨x59_6⟩; have n1_ : Aside0 (wc.heap[gb281]? = some (.cells #[.int .i64 0, .int .i64 0] 25 (0, 0))) := ⟨x59_7⟩; have n2_ : Aside0 (Below w.heap.size w wc) := ⟨x59_1⟩; clear BK280 BK281 HB hq_; have BK280 := n0_; have BK281 := n1_; have HB := n2_; clear n0_ n1_ n2_)); have hnb33 := NB280_281.out; have hnc33 := NB281_280.out; have hcz34_0 : wc.cell? ⟨gb280, 0, none⟩ = some (.int .i64 0) := (blk_cell BK280.out 0).trans rfl; have hcz34_1 : wc.cell? ⟨gb280, 1, none⟩ = some (.int .i64 0) := (blk_cell BK280.out 1).trans rfl; have hcz34_2 : wc.cell? ⟨gb280, 2, none⟩ = some (.string (⟨#[]⟩ : ByteArray)) := (blk_cell BK280.out 2).trans rfl; have hcz34_3 : wc.cell? ⟨gb280, 3, none⟩ = some (.int .i64 0) := (blk_cell BK280.out 3).trans rfl; have hcz34_4 : wc.cell? ⟨gb280, 4, none⟩ = some (.int .u64 0) := (blk_cell BK280.out 4).trans rfl; have hfz34_0 := blk_frozen BK280.out 0; have hfz34_1 := blk_frozen BK280.out 1; have hfz34_2 := blk_frozen BK280.out 2; have hfz34_3 := blk_frozen BK280.out 3; have hfz34_4 := blk_frozen BK280.out 4; have hcz35_0 : wc.cell? ⟨gb281, 0, none⟩ = some (.int .i64 0) := (blk_cell BK281.out 0).trans rfl; have hcz35_1 : wc.cell? ⟨gb281, 1, none⟩ = some (.int .i64 0) := (blk_cell BK281.out 1).trans rfl; have hfz35_0 := blk_frozen BK281.out 0; have hfz35_1 := blk_frozen BK281.out 1))
           refine bodyPost_ret (results_list (rs := [.cell 4 30, .tmp 5, .cell 6 25]) rfl (by simp) (.cell gb280 30 #[.int .i64 1, .int .i64 a1, .string (a0.extract (a1 : Int).toNat (x7_2 : Int).toNat), .int .i64 0, .int .u64 0] (0, 0) _ rfl (by (with_reducible repeat first | apply blk_drewN | apply blk_drew | apply blk_alloc); refine blk_far ?_ NB280_281.out _; (with_reducible repeat first | apply blk_drewN | apply blk_drew | apply blk_alloc); refine blk_far ?_ NB280_281.out _; (with_reducible repeat first | apply blk_drewN | apply blk_drew | apply blk_alloc); refine blk_put (cs := #[.int .i64 1, .int .i64 a1, .string (a0.extract (a1 : Int).toNat (x7_2 : Int).toNat), .int .i64 0, .int .u64 0]) ?_ 4 _ rfl; (with_reducible repeat first | apply blk_drewN | apply blk_drew | apply blk_alloc); refine blk_put (cs := #[.int .i64 1, .int .i64 a1, .string (a0.extract (a1 : Int).toNat (x7_2 : Int).toNat), .int .i64 0, .int .u64 0]) ?_ 3 _ rfl; (with_reducible repeat first | apply blk_drewN | apply blk_drew | apply blk_alloc); refine blk_put (cs := #[.int .i64 1, .int .i64 a1, .string (⟨#[]⟩ : ByteArray), .int .i64 0, .int .u64 0]) ?_ 2 _ rfl; (with_reducible repeat first | apply blk_drewN | apply blk_drew | apply blk_alloc); refine blk_put (cs := #[.int .i64 1, .int .i64 0, .string (⟨#[]⟩ : ByteArray), .int .i64 0, .int .u64 0]) ?_ 1 _ rfl; (with_reducible repeat first | apply blk_drewN | apply blk_drew | apply blk_alloc); refine blk_put (cs := #[.int .i64 0, .int .i64 0, .string (⟨#[]⟩ : ByteArray), .int .i64 0, .int .u64 0]) ?_ 0 _ rfl; (with_reducible repeat first | apply blk_drewN | apply blk_drew | apply blk_alloc); exact BK280.out) Tryd.underlying30 rfl (by kernel_rfl) (.tmp (.cell gb281 25 #[.int .i64 0, .int .i64 0] (0, 0) _ rfl x59_0 Tryd.underlying25 rfl (by kernel_rfl) .nil)))) rfl ?_
           exact ⟨x59_10, x59_2⟩
     ·rw [if_neg c13] at H
      exact absurd H (by simp)
    ·rw [if_neg c12] at H
     exact absurd H (by simp)
   ·rw [if_neg c11] at H
    exact absurd H (by simp)
def casketref11_hex.f (a0 : Int) : Option (Int) := (casketref11_digit.f a0).bind fun t294 => (if t294 = true then (some ((a0 - 48) % 256)) else (if a0 ≥ 97 then (if a0 ≤ 102 then (some (((a0 - 97) % 256) + 10)) else (some (-1))) else (some (-1))))
set_option maxHeartbeats 8000000 in
set_option maxRecDepth 100000 in
theorem casketref11_hex.calls (a0 : Int) (r : Int) (w : World) (h : casketref11_hex.f a0 = some r) :
  Calls Tryd.prog 53 #[.int .u8 a0] w fun e w' => e = .returned (.int .i64 r) ∧ Drawn0 w w' := by
 have H : ((casketref11_digit.f a0).bind fun t294 => (if t294 = true then (some ((a0 - 48) % 256)) else (if a0 ≥ 97 then (if a0 ≤ 102 then (some (((a0 - 97) % 256) + 10)) else (some (-1))) else (some (-1))))) = some r := h
 clear h
 obtain ⟨t294, A20, H⟩ := Option.bind_eq_some_iff.mp H
 have A2 := Aside0.mk A20
 clear A20
 by_cases c3 : t294 = true
 ·subst c3
  rw [if_pos rfl] at H
  obtain rfl := Option.some.inj H
  go_enter Tryd.func53, Tryd.ntmps53
  go_wp2_with (first | ((with_reducible refine gate_callee (f := 30) rfl ?_); refine goesL_ (some 4) rfl rfl Tryd.func30 (by kernel_rfl) rfl #[.int .u8 a0] rfl x59_4 ?_; (with_reducible refine (casketref11_digit.calls a0 true _ A2.out).mono ?_); rintro e w' ⟨rfl, ⟨nd, rfl⟩⟩; refine ⟨_, rfl, ?_⟩))
  go_ret
  exact ⟨x59_13, x59_11⟩
 ·replace c3 := Bool.eq_false_iff.mpr c3
  subst c3
  rw [if_neg (show ¬ (false = true) by decide)] at H
  by_cases c4 : a0 ≥ 97
  ·rw [if_pos c4] at H
   have c4b0 : decide (97 ≤ a0) = true := decide_eq_true c4
   clear c4
   by_cases c5 : a0 ≤ 102
   ·rw [if_pos c5] at H
    have c5b0 := decide_eq_true c5
    clear c5
    obtain rfl := Option.some.inj H
    go_enter Tryd.func53, Tryd.ntmps53
    go_wp2_with (first | ((with_reducible refine gate_callee (f := 30) rfl ?_); refine goesL_ (some 4) rfl rfl Tryd.func30 (by kernel_rfl) rfl #[.int .u8 a0] rfl x59_4 ?_; (with_reducible refine (casketref11_digit.calls a0 false _ A2.out).mono ?_); rintro e w' ⟨rfl, ⟨nd, rfl⟩⟩; refine ⟨_, rfl, ?_⟩))
    go_ret
    exact ⟨x59_13, x59_11⟩
   ·rw [if_neg c5] at H
    have c5b0 := decide_eq_false c5
    clear c5
    obtain rfl := Option.some.inj H
    go_enter Tryd.func53, Tryd.ntmps53
    go_wp2_with (first | ((with_reducible refine gate_callee (f := 30) rfl ?_); refine goesL_ (some 4) rfl rfl Tryd.func30 (by kernel_rfl) rfl #[.int .u8 a0] rfl x59_4 ?_; (with_reducible refine (casketref11_digit.calls a0 false _ A2.out).mono ?_); rintro e w' ⟨rfl, ⟨nd, rfl⟩⟩; refine ⟨_, rfl, ?_⟩))
    go_ret
    exact ⟨x59_13, x59_11⟩
  ·rw [if_neg c4] at H
   have c4b0 : decide (97 ≤ a0) = false := decide_eq_false c4
   clear c4
   obtain rfl := Option.some.inj H
   go_enter Tryd.func53, Tryd.ntmps53
   go_wp2_with (first | ((with_reducible refine gate_callee (f := 30) rfl ?_); refine goesL_ (some 4) rfl rfl Tryd.func30 (by kernel_rfl) rfl #[.int .u8 a0] rfl x59_4 ?_; (with_reducible refine (casketref11_digit.calls a0 false _ A2.out).mono ?_); rintro e w' ⟨rfl, ⟨nd, rfl⟩⟩; refine ⟨_, rfl, ?_⟩))
   go_ret
   exact ⟨x59_13, x59_11⟩
end Go.Proofs.YtjolkombhdibcaaDoor.Print
end
section
namespace Go.Proofs.YtjolkombhdibcaaDoor.Print
open Go.RowKit Go.Proofs.YtjolkombhdibcaaDoor.Given Go.Proofs.YtjolkombhdibcaaDoorW.PrintWords Go.Proofs.YtjolkombhdibcaaDoorW.PrintLast Go.Proofs.YtjolkombhdibcaaDoorW.PrintMore
attribute [local go_sem] max2_int min2_int max_two min_two max_three min_three max_four min_four
set_option linter.unusedVariables false
set_option linter.unusedSimpArgs false
theorem x60_20 {p : Prop} (h : p := by first | omega | exact Nat.le_refl _) : p := h
theorem x60_19 {p : Prop} (h : p := by first | rfl | (simp; done) | (simp [*]; done)) : p := h
theorem x60_18 {p : Prop} (h : p := by first | (with_reducible assumption) | assumption) : p := h
theorem x60_17 {p : Prop} (h : p := by have := HJ2.out; have := HK2.out; first | omega | exact Nat.le_refl _) : p := h
theorem x60_16 {p : Prop} (h : p := by have := HJ2.out; have := HJ14.out; first | omega | exact Nat.le_refl _) : p := h
theorem x60_15 {p : Prop} (h : p := by have := HJ2.out; have := HJ14.out; have := HJ22.out; first | omega | exact Nat.le_refl _) : p := h
theorem x60_14 {p : Prop} (h : p := by first | rfl | (simp [errW_none, errW_some] <;> rfl) | (simp [*, errW_none, errW_some] <;> rfl)) : p := h
theorem x60_13 {p : Prop} (h : p := by first | rfl | (simp; done) | (simp only [← hji31] <;> (first | rfl | simp)) | (simp [*]; done)) : p := h
theorem x60_12 {p : Prop} (h : p := by first | rfl | (simp; done) | (simp only [← hji11] <;> (first | rfl | simp)) | (simp [*]; done)) : p := h
theorem x60_11 {p : Prop} (h : p := by (with_reducible repeat first | apply blk_drewN | apply blk_drew | apply blk_alloc); exact BK296.out) : p := h
theorem x60_10 {p : Prop} (h : p := by (with_reducible repeat first | apply blk_drewN | apply blk_drew | apply blk_alloc); exact BK295.out) : p := h
theorem x60_9 {p : Prop} (h : p := by have := HJ2.out; have := HJ14.out; have := HJ22.out; have := HJ28.out; first | omega | exact Nat.le_refl _) : p := h
theorem x60_8 {p : Prop} (h : p := by rw [← hq_]; exact x60_11) : p := h
theorem x60_7 {p : Prop} (h : p := by rw [← hq_]; exact x60_10) : p := h
theorem x60_6 {p : Prop} (h : p := by repeat (first | (with_reducible first | exact HB.out | apply below_alloc | apply pw_below_drewN | apply below_drew1) | exact HB.out)) : p := h
theorem x60_5 {p : Prop} (h : p := by (try simp only [List.map_toArray, List.map_cons, List.map_nil]); first | done | rfl | (simp only [List.length_drop, List.length_take]; rfl)) : p := h
theorem x60_4 {p : Prop} (h : p := by have := HJ2.out; have := HJ14.out; have := HJ22.out; have := HJ28.out; have := HJ35.out; have := HK6.out; first | omega | exact Nat.le_refl _) : p := h
theorem x60_3 {p : Prop} (h : p := by repeat (first | (with_reducible first | exact HB.out | apply below_alloc | apply pw_below_drewN | apply below_drew1 | refine below_set ?_ GE295.out) | exact HB.out)) : p := h
theorem x60_2 {p : Prop} (h : p := by repeat (first | (with_reducible first | exact HB.out | apply below_alloc | apply pw_below_drewN | apply below_drew1 | refine below_set ?_ GE295.out | refine below_set ?_ GE296.out) | exact HB.out)) : p := h
theorem x60_1 {p : Prop} (h : p := by rw [← hq_]; exact x60_2) : p := h
theorem x60_0 {p : Prop} (h : p := by (with_reducible repeat first | apply blk_drewN | apply blk_drew | apply blk_alloc); refine blk_put (cs := #[.int .i64 0, .int .i64 0]) ?_ 1 _ rfl; (with_reducible repeat first | apply blk_drewN | apply blk_drew | apply blk_alloc); refine blk_put (cs := #[.int .i64 0, .int .i64 0]) ?_ 0 _ rfl; (with_reducible repeat first | apply blk_drewN | apply blk_drew | apply blk_alloc); refine blk_far ?_ NB296_295.out _; (with_reducible repeat first | apply blk_drewN | apply blk_drew | apply blk_alloc); refine blk_far ?_ NB296_295.out _; (with_reducible repeat first | apply blk_drewN | apply blk_drew | apply blk_alloc); refine blk_far ?_ NB296_295.out _; (with_reducible repeat first | apply blk_drewN | apply blk_drew | apply blk_alloc); refine blk_far ?_ NB296_295.out _; (with_reducible repeat first | apply blk_drewN | apply blk_drew | apply blk_alloc); refine blk_far ?_ NB296_295.out _; (with_reducible repeat first | apply blk_drewN | apply blk_drew | apply blk_alloc); exact BK296.out) : p := h
mutual
def casketref11_number.j0 : Nat → ByteArray → Int → Int → Bool → Option (Int × Int × ByteArray × Int × Int × Int × Int × Int)
 | 0, _, _, _, _ => none
 | k + 1, x0, x1, x7, x30 => if x30 = true then (casketref11_number.l0 k x0 x1 (wrap64 (x1 + 2))) else (casketref11_number.l2 k x0 x1 x7)
def casketref11_number.j2 : Nat → ByteArray → Int → Int → Option (Int × Int × ByteArray × Int × Int × Int × Int × Int)
 | 0, _, _, _ => none
 | k + 1, x0, x1, x7 => if x7 < (x0.size : Int) then (if 0 ≤ x7 then (casketref11_number.j3 k x0 x1 x7 ((bt x0 x7) == 112)) else (none)) else (casketref11_number.j3 k x0 x1 x7 false)
def casketref11_number.j3 : Nat → ByteArray → Int → Int → Bool → Option (Int × Int × ByteArray × Int × Int × Int × Int × Int)
 | 0, _, _, _, _ => none
 | k + 1, x0, x1, x7, x61 => if x61 = true then (if (wrap64 (x7 + 1)) < (x0.size : Int) then (if 0 ≤ (wrap64 (x7 + 1)) then (if (bt x0 (wrap64 (x7 + 1))) = 43 then (casketref11_number.j4 k x0 x1 (wrap64 (x7 + 1)) true) else (casketref11_number.j4 k x0 x1 (wrap64 (x7 + 1)) ((bt x0 (wrap64 (x7 + 1))) == 45))) else (none)) else (casketref11_number.j4 k x0 x1 (wrap64 (x7 + 1)) false)) else (casketref11_number.j7 k x0 x1 x7)
def casketref11_number.j7 : Nat → ByteArray → Int → Int → Option (Int × Int × ByteArray × Int × Int × Int × Int × Int)
 | 0, _, _, _ => none
 | k + 1, x0, x1, x7 => if 0 ≤ x1 then (if x1 ≤ x7 then (if x7 ≤ (x0.size : Int) then ((casketref4_ParseFloat.f k (x0.extract (x1 : Int).toNat (x7 : Int).toNat)).bind fun bt299 => (if bt299.2 = 0 then (some (5, x1, (⟨#[]⟩ : ByteArray), 0, bt299.1, x7, 0, 0)) else ((casketref11_fault.f 62 x1).bind fun bt301 => (some (bt301.1, bt301.2.1, bt301.2.2.1, bt301.2.2.2.1, bt301.2.2.2.2.1, bt301.2.2.2.2.2.1, bt301.2.2.2.2.2.2.1, bt301.2.2.2.2.2.2.2))))) else (none)) else (none)) else (none)
def casketref11_number.j4 : Nat → ByteArray → Int → Int → Bool → Option (Int × Int × ByteArray × Int × Int × Int × Int × Int)
 | 0, _, _, _, _ => none
 | k + 1, x0, x1, x7, x79 => if x79 = true then (casketref11_number.j5 k x0 x1 (wrap64 (x7 + 1))) else (casketref11_number.j5 k x0 x1 x7)
def casketref11_number.j5 : Nat → ByteArray → Int → Int → Option (Int × Int × ByteArray × Int × Int × Int × Int × Int)
 | 0, _, _, _ => none
 | k + 1, x0, x1, x7 => casketref11_number.l1 k x0 x1 x7
def casketref11_number.l1 : Nat → ByteArray → Int → Int → Option (Int × Int × ByteArray × Int × Int × Int × Int × Int)
 | 0, _, _, _ => none
 | k + 1, x0, x1, x7 => if x7 < (x0.size : Int) then (if 0 ≤ x7 then ((casketref11_digit.f (bt x0 x7)).bind fun t298 => (if t298 = true then (casketref11_number.l1 k x0 x1 (wrap64 (x7 + 1))) else (casketref11_number.j7 k x0 x1 x7))) else (none)) else (casketref11_number.j7 k x0 x1 x7)
def casketref11_number.l0 : Nat → ByteArray → Int → Int → Option (Int × Int × ByteArray × Int × Int × Int × Int × Int)
 | 0, _, _, _ => none
 | k + 1, x0, x1, x7 => if x7 < (x0.size : Int) then (if 0 ≤ x7 then ((casketref11_hex.f (bt x0 x7)).bind fun t297 => (if t297 ≥ 0 then (casketref11_number.l0 k x0 x1 (wrap64 (x7 + 1))) else (if (bt x0 x7) = 46 then (casketref11_number.l0 k x0 x1 (wrap64 (x7 + 1))) else (casketref11_number.j2 k x0 x1 x7)))) else (none)) else (casketref11_number.j2 k x0 x1 x7)
def casketref11_number.j9 : Nat → ByteArray → Int → Int → Option (Int × Int × ByteArray × Int × Int × Int × Int × Int)
 | 0, _, _, _ => none
 | k + 1, x0, x1, x7 => if 0 ≤ x1 then (if x1 ≤ x7 then (if x7 ≤ (x0.size : Int) then ((casketref4_ParseInt.f k (x0.extract (x1 : Int).toNat (x7 : Int).toNat)).bind fun bt310 => (if bt310.2 = 0 then (some (4, x1, (⟨#[]⟩ : ByteArray), bt310.1, 0, x7, 0, 0)) else ((casketref11_fault.f 62 x1).bind fun bt312 => (some (bt312.1, bt312.2.1, bt312.2.2.1, bt312.2.2.2.1, bt312.2.2.2.2.1, bt312.2.2.2.2.2.1, bt312.2.2.2.2.2.2.1, bt312.2.2.2.2.2.2.2))))) else (none)) else (none)) else (none)
def casketref11_number.l2 : Nat → ByteArray → Int → Int → Option (Int × Int × ByteArray × Int × Int × Int × Int × Int)
 | 0, _, _, _ => none
 | k + 1, x0, x1, x7 => if x7 < (x0.size : Int) then (if 0 ≤ x7 then ((casketref11_digit.f (bt x0 x7)).bind fun t309 => (if t309 = true then (casketref11_number.l2 k x0 x1 (wrap64 (x7 + 1))) else (casketref11_number.j9 k x0 x1 x7))) else (none)) else (casketref11_number.j9 k x0 x1 x7)
end
def casketref11_number.f (k : Nat) (a0 : ByteArray) (a1 : Int) : Option (Int × Int × ByteArray × Int × Int × Int × Int × Int) := if 0 ≤ a1 then (if a1 < (a0.size : Int) then (if (bt a0 a1) = 48 then (if (wrap64 (a1 + 1)) < (a0.size : Int) then (if 0 ≤ (wrap64 (a1 + 1)) then (casketref11_number.j0 k a0 a1 a1 ((bt a0 (wrap64 (a1 + 1))) == 120)) else (none)) else (casketref11_number.j0 k a0 a1 a1 false)) else (casketref11_number.j0 k a0 a1 a1 false)) else (none)) else (none)
set_option maxHeartbeats 8000000 in
set_option maxRecDepth 100000 in
theorem casketref11_number.calls (k : Nat) (a0 : ByteArray) (a1 : Int) (r1 : Int) (r2 : Int) (r3 : ByteArray) (r4 : Int) (r5 : Int) (r6 : Int) (r7 : Int) (r8 : Int) (w : World) (h : casketref11_number.f k a0 a1 = some (r1, r2, r3, r4, r5, r6, r7, r8)) :
  Calls Tryd.prog 31 #[.string a0, .int .i64 a1] w fun e w' => e = .returned (.tuple #[.agg #[.int .i64 r1, .int .i64 r2, .string r3, .int .i64 r4, .int .u64 r5], .int .i64 r6, .agg #[.int .i64 r7, .int .i64 r8]]) ∧ Below w.heap.size w w' := by
 have hu30 := Tryd.underlying30
 have hu25 := Tryd.underlying25
 have HB := Aside0.mk (Below.refl w.heap.size w)
 have H : (if 0 ≤ a1 then (if a1 < (a0.size : Int) then (if (bt a0 a1) = 48 then (if (wrap64 (a1 + 1)) < (a0.size : Int) then (if 0 ≤ (wrap64 (a1 + 1)) then (casketref11_number.j0 k a0 a1 a1 ((bt a0 (wrap64 (a1 + 1))) == 120)) else (none)) else (casketref11_number.j0 k a0 a1 a1 false)) else (casketref11_number.j0 k a0 a1 a1 false)) else (none)) else (none)) = some (r1, r2, r3, r4, r5, r6, r7, r8) := h
 clear h
 have HC3 := Aside0.mk H
 clear H
 go_enter Tryd.func31, Tryd.ntmps31
 go_upto_region 2 with (first | ((with_reducible refine gate_dst (N := 4) rfl ?_); (try (refine gate_guard (by rfl) ?_; dsimp only)); refine box_event ?hg (N := 4) ?hd (cs := #[.int .i64 0, .int .i64 0, .string (⟨#[]⟩ : ByteArray), .int .i64 0, .int .u64 0]) (t := 30) ?hr ?_; (case hd => rfl); (case hg => rfl); (case hr => first | (go_simp; done) | (go_simp; rfl)); intro gb295 hg w4 hbox hb; have n0_ := Aside0.mk (below_step x60_6 hb); have n1_ := Aside0.mk (hbox); have n2_ := Aside0.mk ((by rw [hg]; exact (below_size x60_6) : w.heap.size ≤ gb295)); have n3_ := Aside0.mk ((by rw [hg]; exact (below_size x60_6) : w.heap.size ≤ gb295)); clear HB; have HB := n0_; have BK295 := n1_; have GW295 := n2_; have GE295 := n3_; clear n0_ n1_ n2_ n3_; clear hb hbox hg) | ((with_reducible refine gate_dst (N := 6) rfl ?_); (try (refine gate_guard (by rfl) ?_; dsimp only)); refine box_event ?hg (N := 6) ?hd (cs := #[.int .i64 0, .int .i64 0]) (t := 25) ?hr ?_; (case hd => rfl); (case hg => rfl); (case hr => first | (go_simp; done) | (go_simp; rfl)); intro gb296 hg w5 hbox hb; have n0_ := Aside0.mk (blk_below (g := gb295) (o := .cells #[.int .i64 0, .int .i64 0, .string (⟨#[]⟩ : ByteArray), .int .i64 0, .int .u64 0] 30 (0, 0)) x60_10 hb); have n1_ := Aside0.mk (below_step x60_3 hb); have n2_ := Aside0.mk (hbox); have n3_ := Aside0.mk ((by rw [hg]; exact (below_size x60_3) : w.heap.size ≤ gb296)); have n4_ := Aside0.mk ((by rw [hg]; exact (below_size x60_3) : w.heap.size ≤ gb296)); have n5_ := Aside0.mk ((by rw [hg]; exact Nat.ne_of_lt (blk_lt (g := gb295) (o := .cells #[.int .i64 0, .int .i64 0, .string (⟨#[]⟩ : ByteArray), .int .i64 0, .int .u64 0] 30 (0, 0)) x60_10) : gb295 ≠ gb296)); have n6_ := Aside0.mk ((by rw [hg]; exact Nat.ne_of_gt (blk_lt (g := gb295) (o := .cells #[.int .i64 0, .int .i64 0, .string (⟨#[]⟩ : ByteArray), .int .i64 0, .int .u64 0] 30 (0, 0)) x60_10) : gb296 ≠ gb295)); clear BK295; clear HB; have BK295 := n0_; have HB := n1_; have BK296 := n2_; have GW296 := n3_; have GE296 := n4_; have NB295_296 := n5_; have NB296_295 := n6_; clear n0_ n1_ n2_ n3_ n4_ n5_ n6_; clear hb hbox hg))
 (try simp only [Act.put, List.setIfInBounds_toArray, List.set_cons_zero, List.set_cons_succ])
 go_cut [30] (fun v30 wc => ∃ (kq : Nat) (x30_2 : Bool), v30 = .bool x30_2 ∧ Aside0 (casketref11_number.j0 kq a0 a1 a1 x30_2 = some (r1, r2, r3, r4, r5, r6, r7, r8)) ∧ Aside0 (kq ≤ k) ∧ Aside0 (wc.heap[gb295]? = some (.cells #[.int .i64 0, .int .i64 0, .string (⟨#[]⟩ : ByteArray), .int .i64 0, .int .u64 0] 30 (0, 0))) ∧ Aside0 (wc.heap[gb296]? = some (.cells #[.int .i64 0, .int .i64 0] 25 (0, 0))) ∧ Aside0 (Below w.heap.size w wc))
 case first =>
  have H := HC3.out
  clear HC3
  by_cases c6 : 0 ≤ a1
  ·rw [if_pos c6] at H
   have c6b0 := decide_eq_true c6
   clear c6
   (first | rw [c6b0] | (simp only [i64_w, i32_w]; rw [c6b0]) | skip)
   by_cases c7 : a1 < (a0.size : Int)
   ·rw [if_pos c7] at H
    have c7b0 := decide_eq_true c7
    clear c7
    by_cases c9 : (bt a0 a1) = 48
    ·rw [if_pos c9] at H
     have c9b0 := beq_iff_eq.mpr c9
     have c9b1 := bne_eq_false_iff_eq.mpr c9
     clear c9
     by_cases c10 : (wrap64 (a1 + 1)) < (a0.size : Int)
     ·rw [if_pos c10] at H
      have c10b0 := decide_eq_true c10
      clear c10
      obtain ⟨ji11, hji11⟩ : ∃ j_ : Int, (wrap64 (a1 + 1)) = j_ := ⟨_, rfl⟩
      replace H : (if 0 ≤ (ji11) then (casketref11_number.j0 k a0 a1 a1 ((bt a0 (ji11)) == 120)) else (none)) = some (r1, r2, r3, r4, r5, r6, r7, r8) := by first | (rw [hji11] at H; exact H) | (simp only [hji11] at H ⊢; exact H)
      (try rw [hji11] at c10b0)
      have hji11w : (IntKind.i64.wrap (a1 + 1)) = ji11 := (i64_w _).trans hji11
      by_cases c12 : 0 ≤ (ji11)
      ·rw [if_pos c12] at H
       have c12b0 := decide_eq_true c12
       clear c12
       have H' := Aside0.mk H
       clear H
       have p8 : 0 ≤ (a1 : Int) := of_decide_eq_true x60_18
       have q8 : a1 < (a0.size : Int) := of_decide_eq_true x60_18
       have hx8 := bt_at a0 a1
       replace p8 := eq_true p8
       replace q8 := eq_true q8
       have p13 : 0 ≤ ((ji11) : Int) := of_decide_eq_true x60_18
       have q13 : (ji11) < (a0.size : Int) := of_decide_eq_true x60_18
       have hx13 := bt_at a0 (ji11)
       replace p13 := eq_true p13
       replace q13 := eq_true q13
       go_wp2
       first
       | (go_meet; case rel => exact ⟨_, (((bt a0 (ji11)) == 120)), x60_12, H', ⟨x60_20⟩, ⟨x60_10⟩, ⟨x60_11⟩, ⟨x60_2⟩⟩)
       | (go_meet; case rel => simp only [hji11]; exact ⟨_, (((bt a0 (ji11)) == 120)), x60_12, H', ⟨x60_20⟩, ⟨x60_10⟩, ⟨x60_11⟩, ⟨x60_2⟩⟩)
       | ((try subst hji11); (try subst hji31); go_meet; case rel => exact ⟨_, (((bt a0 ((wrap64 (a1 + 1)))) == 120)), x60_12, H', ⟨x60_20⟩, ⟨x60_10⟩, ⟨x60_11⟩, ⟨x60_2⟩⟩)
      ·rw [if_neg c12] at H
       exact absurd H (by simp)
     ·rw [if_neg c10] at H
      have c10b0 := decide_eq_false c10
      clear c10
      have H' := Aside0.mk H
      clear H
      have p8 : 0 ≤ (a1 : Int) := of_decide_eq_true x60_18
      have q8 : a1 < (a0.size : Int) := of_decide_eq_true x60_18
      have hx8 := bt_at a0 a1
      replace p8 := eq_true p8
      replace q8 := eq_true q8
      go_wp2
      first
      | (go_meet; case rel => exact ⟨_, (false), x60_19, H', ⟨x60_20⟩, ⟨x60_10⟩, ⟨x60_11⟩, ⟨x60_2⟩⟩)
      | (go_meet; case rel => simp only [hji11]; exact ⟨_, (false), x60_19, H', ⟨x60_20⟩, ⟨x60_10⟩, ⟨x60_11⟩, ⟨x60_2⟩⟩)
      | ((try subst hji11); (try subst hji31); go_meet; case rel => exact ⟨_, (false), x60_19, H', ⟨x60_20⟩, ⟨x60_10⟩, ⟨x60_11⟩, ⟨x60_2⟩⟩)
    ·rw [if_neg c9] at H
     have c9b0 := beq_eq_false_iff_ne.mpr c9
     have c9b1 := bne_iff_ne.mpr c9
     have H' := Aside0.mk H
     clear H
     have p8 : 0 ≤ (a1 : Int) := of_decide_eq_true x60_18
     have q8 : a1 < (a0.size : Int) := of_decide_eq_true x60_18
     have hx8 := bt_at a0 a1
     replace p8 := eq_true p8
     replace q8 := eq_true q8
     go_wp2
     first
     | (go_meet; case rel => exact ⟨_, (false), x60_19, H', ⟨x60_20⟩, ⟨x60_10⟩, ⟨x60_11⟩, ⟨x60_2⟩⟩)
     | (go_meet; case rel => simp only [hji11]; exact ⟨_, (false), x60_19, H', ⟨x60_20⟩, ⟨x60_10⟩, ⟨x60_11⟩, ⟨x60_2⟩⟩)
     | ((try subst hji11); (try subst hji31); go_meet; case rel => exact ⟨_, (false), x60_19, H', ⟨x60_20⟩, ⟨x60_10⟩, ⟨x60_11⟩, ⟨x60_2⟩⟩)
   ·rw [if_neg c7] at H
    exact absurd H (by simp)
  ·rw [if_neg c6] at H
   exact absurd H (by simp)
 case rest =>
  clear HC3
  obtain ⟨kq, x30_2, rfl, HA, HJ2, BK295, BK296, HB⟩ := hcut
  cases kq with
  | zero => exact absurd HA.out (by simp [casketref11_number.j0])
  | succ kj2 =>
   have H := HA.out
   clear HA
   simp only [casketref11_number.j0] at H
   by_cases c14 : x30_2 = true
   ·subst c14
    rw [if_pos rfl] at H
    have HC15 := Aside0.mk H
    clear H
    go_upto_block 0 with (fail)
    go_cut [7] (fun v7 wc => ∃ (kq : Nat) (x7_14 : Int), v7 = .int .i64 x7_14 ∧ Aside0 (casketref11_number.j2 kq a0 a1 x7_14 = some (r1, r2, r3, r4, r5, r6, r7, r8)) ∧ Aside0 (kq ≤ kj2) ∧ Aside0 (wc.heap[gb295]? = some (.cells #[.int .i64 0, .int .i64 0, .string (⟨#[]⟩ : ByteArray), .int .i64 0, .int .u64 0] 30 (0, 0))) ∧ Aside0 (wc.heap[gb296]? = some (.cells #[.int .i64 0, .int .i64 0] 25 (0, 0))) ∧ Aside0 (Below w.heap.size w wc))
    case first =>
     have H := HC15.out
     clear HC15
     have H' := Aside0.mk H
     clear H
     go_wp2
     go_loopg [7] kj2 (fun kq v7 w' => ∃ (x7_2 : Int), v7 = .int .i64 x7_2 ∧ Aside0 (casketref11_number.l0 kq a0 a1 x7_2 = some (r1, r2, r3, r4, r5, r6, r7, r8)) ∧ Aside0 (kq ≤ kj2) ∧ Aside0 (w'.heap[gb295]? = some (.cells #[.int .i64 0, .int .i64 0, .string (⟨#[]⟩ : ByteArray), .int .i64 0, .int .u64 0] 30 (0, 0))) ∧ Aside0 (w'.heap[gb296]? = some (.cells #[.int .i64 0, .int .i64 0] 25 (0, 0))) ∧ Aside0 (Below w.heap.size w w'))
     case atStart => exact ⟨(wrap64 (a1 + 2)), x60_19, H', ⟨Nat.le_refl _⟩, ⟨x60_10⟩, ⟨x60_11⟩, ⟨x60_2⟩⟩
     case round =>
      clear H'
      obtain ⟨x7_2, rfl, HA, HK2, BK295, BK296, HB⟩ := hrel
      cases gk with
      | zero => exact absurd HA.out (by simp [casketref11_number.l0])
      | succ k2 =>
       have H := HA.out
       clear HA
       simp only [casketref11_number.l0] at H
       by_cases c16 : x7_2 < (a0.size : Int)
       ·rw [if_pos c16] at H
        have c16b0 := decide_eq_true c16
        clear c16
        (first | rw [c16b0] | (simp only [i64_w, i32_w]; rw [c16b0]) | skip)
        by_cases c17 : 0 ≤ x7_2
        ·rw [if_pos c17] at H
         have c17b0 := decide_eq_true c17
         clear c17
         obtain ⟨t297, A190, H⟩ := Option.bind_eq_some_iff.mp H
         have A19 := Aside0.mk A190
         clear A190
         by_cases c20 : t297 ≥ 0
         ·rw [if_pos c20] at H
          have c20b0 : decide (0 ≤ t297) = true := decide_eq_true c20
          clear c20
          have H' := Aside0.mk H
          clear H
          have p18 : 0 ≤ (x7_2 : Int) := of_decide_eq_true x60_18
          have q18 : x7_2 < (a0.size : Int) := of_decide_eq_true x60_18
          have hx18 := bt_at a0 x7_2
          replace p18 := eq_true p18
          replace q18 := eq_true q18
          go_wp2_with (first | (go_at_call 53; (with_reducible refine (casketref11_hex.calls (bt a0 x7_2) t297 _ A19.out).mono ?_); rintro e w' ⟨rfl, ⟨nd, rfl⟩⟩))
          go_roundg k2
          case measure => have := HJ2.out; have := HK2.out; omega
          case rel => exact ⟨(wrap64 (x7_2 + 1)), x60_19, H', ⟨by have := HJ2.out; have := HK2.out; omega⟩, ⟨x60_10⟩, ⟨x60_11⟩, ⟨x60_2⟩⟩
         ·rw [if_neg c20] at H
          have c20b0 : decide (0 ≤ t297) = false := decide_eq_false c20
          clear c20
          by_cases c22 : (bt a0 x7_2) = 46
          ·rw [if_pos c22] at H
           have c22b0 := beq_iff_eq.mpr c22
           have c22b1 := bne_eq_false_iff_eq.mpr c22
           clear c22
           have H' := Aside0.mk H
           clear H
           have p18 : 0 ≤ (x7_2 : Int) := of_decide_eq_true x60_18
           have q18 : x7_2 < (a0.size : Int) := of_decide_eq_true x60_18
           have hx18 := bt_at a0 x7_2
           replace p18 := eq_true p18
           replace q18 := eq_true q18
           go_wp2_with (first | (go_at_call 53; (with_reducible refine (casketref11_hex.calls (bt a0 x7_2) t297 _ A19.out).mono ?_); rintro e w' ⟨rfl, ⟨nd, rfl⟩⟩; have p21 : 0 ≤ (x7_2 : Int) := of_decide_eq_true x60_18; have q21 : x7_2 < (a0.size : Int) := of_decide_eq_true x60_18; have hx21 := bt_at a0 x7_2; replace p21 := eq_true p21; replace q21 := eq_true q21))
           go_roundg k2
           case measure => have := HJ2.out; have := HK2.out; omega
           case rel => exact ⟨(wrap64 (x7_2 + 1)), x60_19, H', ⟨by have := HJ2.out; have := HK2.out; omega⟩, ⟨x60_10⟩, ⟨x60_11⟩, ⟨x60_2⟩⟩
          ·rw [if_neg c22] at H
           have c22b0 := beq_eq_false_iff_ne.mpr c22
           have c22b1 := bne_iff_ne.mpr c22
           have H' := Aside0.mk H
           clear H
           have p18 : 0 ≤ (x7_2 : Int) := of_decide_eq_true x60_18
           have q18 : x7_2 < (a0.size : Int) := of_decide_eq_true x60_18
           have hx18 := bt_at a0 x7_2
           replace p18 := eq_true p18
           replace q18 := eq_true q18
           go_wp2_with (first | (go_at_call 53; (with_reducible refine (casketref11_hex.calls (bt a0 x7_2) t297 _ A19.out).mono ?_); rintro e w' ⟨rfl, ⟨nd, rfl⟩⟩; have p21 : 0 ≤ (x7_2 : Int) := of_decide_eq_true x60_18; have q21 : x7_2 < (a0.size : Int) := of_decide_eq_true x60_18; have hx21 := bt_at a0 x7_2; replace p21 := eq_true p21; replace q21 := eq_true q21))
           first
           | (go_meet; case rel => exact ⟨_, (x7_2), x60_19, H', ⟨x60_17⟩, ⟨x60_10⟩, ⟨x60_11⟩, ⟨x60_2⟩⟩)
           | (go_meet; case rel => simp only [hji11]; exact ⟨_, (x7_2), x60_19, H', ⟨x60_17⟩, ⟨x60_10⟩, ⟨x60_11⟩, ⟨x60_2⟩⟩)
           | ((try subst hji11); (try subst hji31); go_meet; case rel => exact ⟨_, (x7_2), x60_19, H', ⟨x60_17⟩, ⟨x60_10⟩, ⟨x60_11⟩, ⟨x60_2⟩⟩)
        ·rw [if_neg c17] at H
         exact absurd H (by simp)
       ·rw [if_neg c16] at H
        have c16b0 := decide_eq_false c16
        clear c16
        (first | rw [c16b0] | (simp only [i64_w, i32_w]; rw [c16b0]) | skip)
        have H' := Aside0.mk H
        clear H
        go_wp2
        first
        | (go_meet; case rel => exact ⟨_, (x7_2), x60_19, H', ⟨x60_17⟩, ⟨x60_10⟩, ⟨x60_11⟩, ⟨x60_2⟩⟩)
        | (go_meet; case rel => simp only [hji11]; exact ⟨_, (x7_2), x60_19, H', ⟨x60_17⟩, ⟨x60_10⟩, ⟨x60_11⟩, ⟨x60_2⟩⟩)
        | ((try subst hji11); (try subst hji31); go_meet; case rel => exact ⟨_, (x7_2), x60_19, H', ⟨x60_17⟩, ⟨x60_10⟩, ⟨x60_11⟩, ⟨x60_2⟩⟩)
    case rest =>
     clear HC15
     obtain ⟨kq, x7_14, rfl, HA, HJ14, BK295, BK296, HB⟩ := hcut
     cases kq with
     | zero => exact absurd HA.out (by simp [casketref11_number.j2])
     | succ kj14 =>
      have H := HA.out
      clear HA
      simp only [casketref11_number.j2] at H
      have HC23 := Aside0.mk H
      clear H
      go_upto_region 6 with (fail)
      go_cut [61] (fun v61 wc => ∃ (kq : Nat) (x61_22 : Bool), v61 = .bool x61_22 ∧ Aside0 (casketref11_number.j3 kq a0 a1 x7_14 x61_22 = some (r1, r2, r3, r4, r5, r6, r7, r8)) ∧ Aside0 (kq ≤ kj14) ∧ Aside0 (wc.heap[gb295]? = some (.cells #[.int .i64 0, .int .i64 0, .string (⟨#[]⟩ : ByteArray), .int .i64 0, .int .u64 0] 30 (0, 0))) ∧ Aside0 (wc.heap[gb296]? = some (.cells #[.int .i64 0, .int .i64 0] 25 (0, 0))) ∧ Aside0 (Below w.heap.size w wc))
      case first =>
       have H := HC23.out
       clear HC23
       by_cases c24 : x7_14 < (a0.size : Int)
       ·rw [if_pos c24] at H
        have c24b0 := decide_eq_true c24
        clear c24
        (first | rw [c24b0] | (simp only [i64_w, i32_w]; rw [c24b0]) | skip)
        by_cases c25 : 0 ≤ x7_14
        ·rw [if_pos c25] at H
         have c25b0 := decide_eq_true c25
         clear c25
         have H' := Aside0.mk H
         clear H
         have p26 : 0 ≤ (x7_14 : Int) := of_decide_eq_true x60_18
         have q26 : x7_14 < (a0.size : Int) := of_decide_eq_true x60_18
         have hx26 := bt_at a0 x7_14
         replace p26 := eq_true p26
         replace q26 := eq_true q26
         go_wp2
         first
         | (go_meet; case rel => exact ⟨_, (((bt a0 x7_14) == 112)), x60_19, H', ⟨x60_16⟩, ⟨x60_10⟩, ⟨x60_11⟩, ⟨x60_2⟩⟩)
         | (go_meet; case rel => simp only [hji11]; exact ⟨_, (((bt a0 x7_14) == 112)), x60_19, H', ⟨x60_16⟩, ⟨x60_10⟩, ⟨x60_11⟩, ⟨x60_2⟩⟩)
         | ((try subst hji11); (try subst hji31); go_meet; case rel => exact ⟨_, (((bt a0 x7_14) == 112)), x60_19, H', ⟨x60_16⟩, ⟨x60_10⟩, ⟨x60_11⟩, ⟨x60_2⟩⟩)
        ·rw [if_neg c25] at H
         exact absurd H (by simp)
       ·rw [if_neg c24] at H
        have c24b0 := decide_eq_false c24
        clear c24
        (first | rw [c24b0] | (simp only [i64_w, i32_w]; rw [c24b0]) | skip)
        have H' := Aside0.mk H
        clear H
        go_wp2
        first
        | (go_meet; case rel => exact ⟨_, (false), x60_19, H', ⟨x60_16⟩, ⟨x60_10⟩, ⟨x60_11⟩, ⟨x60_2⟩⟩)
        | (go_meet; case rel => simp only [hji11]; exact ⟨_, (false), x60_19, H', ⟨x60_16⟩, ⟨x60_10⟩, ⟨x60_11⟩, ⟨x60_2⟩⟩)
        | ((try subst hji11); (try subst hji31); go_meet; case rel => exact ⟨_, (false), x60_19, H', ⟨x60_16⟩, ⟨x60_10⟩, ⟨x60_11⟩, ⟨x60_2⟩⟩)
      case rest =>
       clear HC23
       obtain ⟨kq, x61_22, rfl, HA, HJ22, BK295, BK296, HB⟩ := hcut
       cases kq with
       | zero => exact absurd HA.out (by simp [casketref11_number.j3])
       | succ kj22 =>
        have H := HA.out
        clear HA
        simp only [casketref11_number.j3] at H
        have HC27 := Aside0.mk H
        clear H
        go_upto_if 61 with (fail)
        go_cut [7] (fun v7 wc => ∃ (kq : Nat) (x7_26 : Int), v7 = .int .i64 x7_26 ∧ Aside0 (casketref11_number.j7 kq a0 a1 x7_26 = some (r1, r2, r3, r4, r5, r6, r7, r8)) ∧ Aside0 (kq ≤ kj22) ∧ Aside0 (wc.heap[gb295]? = some (.cells #[.int .i64 0, .int .i64 0, .string (⟨#[]⟩ : ByteArray), .int .i64 0, .int .u64 0] 30 (0, 0))) ∧ Aside0 (wc.heap[gb296]? = some (.cells #[.int .i64 0, .int .i64 0] 25 (0, 0))) ∧ Aside0 (Below w.heap.size w wc))
        case first =>
         have H := HC27.out
         clear HC27
         by_cases c28 : x61_22 = true
         ·subst c28
          rw [if_pos rfl] at H
          have HC29 := Aside0.mk H
          clear H
          go_upto_region 8 with (fail)
          go_cut [79] (fun v79 wc => ∃ (kq : Nat) (x79_28 : Bool), v79 = .bool x79_28 ∧ Aside0 (casketref11_number.j4 kq a0 a1 (wrap64 (x7_14 + 1)) x79_28 = some (r1, r2, r3, r4, r5, r6, r7, r8)) ∧ Aside0 (kq ≤ kj22) ∧ Aside0 (wc.heap[gb295]? = some (.cells #[.int .i64 0, .int .i64 0, .string (⟨#[]⟩ : ByteArray), .int .i64 0, .int .u64 0] 30 (0, 0))) ∧ Aside0 (wc.heap[gb296]? = some (.cells #[.int .i64 0, .int .i64 0] 25 (0, 0))) ∧ Aside0 (Below w.heap.size w wc))
          case first =>
           have H := HC29.out
           clear HC29
           by_cases c30 : (wrap64 (x7_14 + 1)) < (a0.size : Int)
           ·rw [if_pos c30] at H
            have c30b0 := decide_eq_true c30
            clear c30
            (first | rw [c30b0] | (simp only [i64_w, i32_w]; rw [c30b0]) | skip)
            obtain ⟨ji31, hji31⟩ : ∃ j_ : Int, (wrap64 (x7_14 + 1)) = j_ := ⟨_, rfl⟩
            replace H : (if 0 ≤ (ji31) then (if (bt a0 (ji31)) = 43 then (casketref11_number.j4 kj22 a0 a1 ji31 true) else (casketref11_number.j4 kj22 a0 a1 ji31 ((bt a0 (ji31)) == 45))) else (none)) = some (r1, r2, r3, r4, r5, r6, r7, r8) := by first | (rw [hji31] at H; exact H) | (simp only [hji31] at H ⊢; exact H)
            (try rw [hji31] at c30b0)
            have hji31w : (IntKind.i64.wrap (x7_14 + 1)) = ji31 := (i64_w _).trans hji31
            by_cases c32 : 0 ≤ (ji31)
            ·rw [if_pos c32] at H
             have c32b0 := decide_eq_true c32
             clear c32
             by_cases c34 : (bt a0 (ji31)) = 43
             ·rw [if_pos c34] at H
              have c34b0 := beq_iff_eq.mpr c34
              have c34b1 := bne_eq_false_iff_eq.mpr c34
              clear c34
              have H' := Aside0.mk H
              clear H
              have p33 : 0 ≤ ((ji31) : Int) := of_decide_eq_true x60_18
              have q33 : (ji31) < (a0.size : Int) := of_decide_eq_true x60_18
              have hx33 := bt_at a0 (ji31)
              replace p33 := eq_true p33
              replace q33 := eq_true q33
              go_wp2
              first
              | (go_meet; case rel => exact ⟨_, (true), x60_19, H', ⟨x60_15⟩, ⟨x60_10⟩, ⟨x60_11⟩, ⟨x60_2⟩⟩)
              | (go_meet; case rel => simp only [hji11, hji31]; exact ⟨_, (true), x60_19, H', ⟨x60_15⟩, ⟨x60_10⟩, ⟨x60_11⟩, ⟨x60_2⟩⟩)
              | ((try subst hji11); (try subst hji31); go_meet; case rel => exact ⟨_, (true), x60_19, H', ⟨x60_15⟩, ⟨x60_10⟩, ⟨x60_11⟩, ⟨x60_2⟩⟩)
             ·rw [if_neg c34] at H
              have c34b0 := beq_eq_false_iff_ne.mpr c34
              have c34b1 := bne_iff_ne.mpr c34
              have H' := Aside0.mk H
              clear H
              have p33 : 0 ≤ ((ji31) : Int) := of_decide_eq_true x60_18
              have q33 : (ji31) < (a0.size : Int) := of_decide_eq_true x60_18
              have hx33 := bt_at a0 (ji31)
              replace p33 := eq_true p33
              replace q33 := eq_true q33
              have p35 : 0 ≤ ((ji31) : Int) := of_decide_eq_true x60_18
              have q35 : (ji31) < (a0.size : Int) := of_decide_eq_true x60_18
              have hx35 := bt_at a0 (ji31)
              replace p35 := eq_true p35
              replace q35 := eq_true q35
              go_wp2
              first
              | (go_meet; case rel => exact ⟨_, (((bt a0 (ji31)) == 45)), x60_13, H', ⟨x60_15⟩, ⟨x60_10⟩, ⟨x60_11⟩, ⟨x60_2⟩⟩)
              | (go_meet; case rel => simp only [hji11, hji31]; exact ⟨_, (((bt a0 (ji31)) == 45)), x60_13, H', ⟨x60_15⟩, ⟨x60_10⟩, ⟨x60_11⟩, ⟨x60_2⟩⟩)
              | ((try subst hji11); (try subst hji31); go_meet; case rel => exact ⟨_, (((bt a0 ((wrap64 (x7_14 + 1)))) == 45)), x60_13, H', ⟨x60_15⟩, ⟨x60_10⟩, ⟨x60_11⟩, ⟨x60_2⟩⟩)
            ·rw [if_neg c32] at H
             exact absurd H (by simp)
           ·rw [if_neg c30] at H
            have c30b0 := decide_eq_false c30
            clear c30
            (first | rw [c30b0] | (simp only [i64_w, i32_w]; rw [c30b0]) | skip)
            have H' := Aside0.mk H
            clear H
            go_wp2
            first
            | (go_meet; case rel => exact ⟨_, (false), x60_19, H', ⟨x60_15⟩, ⟨x60_10⟩, ⟨x60_11⟩, ⟨x60_2⟩⟩)
            | (go_meet; case rel => simp only [hji11, hji31]; exact ⟨_, (false), x60_19, H', ⟨x60_15⟩, ⟨x60_10⟩, ⟨x60_11⟩, ⟨x60_2⟩⟩)
            | ((try subst hji11); (try subst hji31); go_meet; case rel => exact ⟨_, (false), x60_19, H', ⟨x60_15⟩, ⟨x60_10⟩, ⟨x60_11⟩, ⟨x60_2⟩⟩)
          case rest =>
           clear HC29
           obtain ⟨kq, x79_28, rfl, HA, HJ28, BK295, BK296, HB⟩ := hcut
           cases kq with
           | zero => exact absurd HA.out (by simp [casketref11_number.j4])
           | succ kj28 =>
            have H := HA.out
            clear HA
            simp only [casketref11_number.j4] at H
            have HC36 := Aside0.mk H
            clear H
            go_upto_if 79 with (fail)
            go_cut [7] (fun v7 wc => ∃ (kq : Nat) (x7_35 : Int), v7 = .int .i64 x7_35 ∧ Aside0 (casketref11_number.j5 kq a0 a1 x7_35 = some (r1, r2, r3, r4, r5, r6, r7, r8)) ∧ Aside0 (kq ≤ kj28) ∧ Aside0 (wc.heap[gb295]? = some (.cells #[.int .i64 0, .int .i64 0, .string (⟨#[]⟩ : ByteArray), .int .i64 0, .int .u64 0] 30 (0, 0))) ∧ Aside0 (wc.heap[gb296]? = some (.cells #[.int .i64 0, .int .i64 0] 25 (0, 0))) ∧ Aside0 (Below w.heap.size w wc))
            case first =>
             have H := HC36.out
             clear HC36
             by_cases c37 : x79_28 = true
             ·subst c37
              rw [if_pos rfl] at H
              have H' := Aside0.mk H
              clear H
              go_wp2
              first
              | (go_meet; case rel => exact ⟨_, (wrap64 ((wrap64 (x7_14 + 1)) + 1)), x60_19, H', ⟨x60_9⟩, ⟨x60_10⟩, ⟨x60_11⟩, ⟨x60_2⟩⟩)
              | (go_meet; case rel => simp only [hji11, hji31]; exact ⟨_, (wrap64 ((wrap64 (x7_14 + 1)) + 1)), x60_19, H', ⟨x60_9⟩, ⟨x60_10⟩, ⟨x60_11⟩, ⟨x60_2⟩⟩)
              | ((try subst hji11); (try subst hji31); go_meet; case rel => exact ⟨_, (wrap64 ((wrap64 (x7_14 + 1)) + 1)), x60_19, H', ⟨x60_9⟩, ⟨x60_10⟩, ⟨x60_11⟩, ⟨x60_2⟩⟩)
             ·replace c37 := Bool.eq_false_iff.mpr c37
              subst c37
              rw [if_neg (show ¬ (false = true) by decide)] at H
              have H' := Aside0.mk H
              clear H
              go_wp2
              first
              | (go_meet; case rel => exact ⟨_, ((wrap64 (x7_14 + 1))), x60_19, H', ⟨x60_9⟩, ⟨x60_10⟩, ⟨x60_11⟩, ⟨x60_2⟩⟩)
              | (go_meet; case rel => simp only [hji11, hji31]; exact ⟨_, ((wrap64 (x7_14 + 1))), x60_19, H', ⟨x60_9⟩, ⟨x60_10⟩, ⟨x60_11⟩, ⟨x60_2⟩⟩)
              | ((try subst hji11); (try subst hji31); go_meet; case rel => exact ⟨_, ((wrap64 (x7_14 + 1))), x60_19, H', ⟨x60_9⟩, ⟨x60_10⟩, ⟨x60_11⟩, ⟨x60_2⟩⟩)
            case rest =>
             clear HC36
             obtain ⟨kq, x7_35, rfl, HA, HJ35, BK295, BK296, HB⟩ := hcut
             cases kq with
             | zero => exact absurd HA.out (by simp [casketref11_number.j5])
             | succ kj35 =>
              have H := HA.out
              clear HA
              simp only [casketref11_number.j5] at H
              have H' := Aside0.mk H
              clear H
              go_wp2
              go_loopg [7] kj35 (fun kq v7 w' => ∃ (x7_6 : Int), v7 = .int .i64 x7_6 ∧ Aside0 (casketref11_number.l1 kq a0 a1 x7_6 = some (r1, r2, r3, r4, r5, r6, r7, r8)) ∧ Aside0 (kq ≤ kj35) ∧ Aside0 (w'.heap[gb295]? = some (.cells #[.int .i64 0, .int .i64 0, .string (⟨#[]⟩ : ByteArray), .int .i64 0, .int .u64 0] 30 (0, 0))) ∧ Aside0 (w'.heap[gb296]? = some (.cells #[.int .i64 0, .int .i64 0] 25 (0, 0))) ∧ Aside0 (Below w.heap.size w w'))
              case atStart => exact ⟨(x7_35), x60_19, H', ⟨Nat.le_refl _⟩, ⟨x60_10⟩, ⟨x60_11⟩, ⟨x60_2⟩⟩
              case round =>
               clear H'
               obtain ⟨x7_6, rfl, HA, HK6, BK295, BK296, HB⟩ := hrel
               cases gk with
               | zero => exact absurd HA.out (by simp [casketref11_number.l1])
               | succ k6 =>
                have H := HA.out
                clear HA
                simp only [casketref11_number.l1] at H
                by_cases c38 : x7_6 < (a0.size : Int)
                ·rw [if_pos c38] at H
                 have c38b0 := decide_eq_true c38
                 clear c38
                 by_cases c39 : 0 ≤ x7_6
                 ·rw [if_pos c39] at H
                  have c39b0 := decide_eq_true c39
                  clear c39
                  obtain ⟨t298, A410, H⟩ := Option.bind_eq_some_iff.mp H
                  have A41 := Aside0.mk A410
                  clear A410
                  by_cases c42 : t298 = true
                  ·subst c42
                   rw [if_pos rfl] at H
                   have H' := Aside0.mk H
                   clear H
                   have p40 : 0 ≤ (x7_6 : Int) := of_decide_eq_true x60_18
                   have q40 : x7_6 < (a0.size : Int) := of_decide_eq_true x60_18
                   have hx40 := bt_at a0 x7_6
                   replace p40 := eq_true p40
                   replace q40 := eq_true q40
                   go_wp2_with (first | (go_at_call 30; (with_reducible refine (casketref11_digit.calls (bt a0 x7_6) true _ A41.out).mono ?_); rintro e w' ⟨rfl, ⟨nd, rfl⟩⟩))
                   go_roundg k6
                   case measure => have := HJ2.out; have := HJ14.out; have := HJ22.out; have := HJ28.out; have := HJ35.out; have := HK6.out; omega
                   case rel => exact ⟨(wrap64 (x7_6 + 1)), x60_19, H', ⟨by have := HJ2.out; have := HJ14.out; have := HJ22.out; have := HJ28.out; have := HJ35.out; have := HK6.out; omega⟩, ⟨x60_10⟩, ⟨x60_11⟩, ⟨x60_2⟩⟩
                  ·replace c42 := Bool.eq_false_iff.mpr c42
                   subst c42
                   rw [if_neg (show ¬ (false = true) by decide)] at H
                   have H' := Aside0.mk H
                   clear H
                   have p40 : 0 ≤ (x7_6 : Int) := of_decide_eq_true x60_18
                   have q40 : x7_6 < (a0.size : Int) := of_decide_eq_true x60_18
                   have hx40 := bt_at a0 x7_6
                   replace p40 := eq_true p40
                   replace q40 := eq_true q40
                   go_wp2_with (first | (go_at_call 30; (with_reducible refine (casketref11_digit.calls (bt a0 x7_6) false _ A41.out).mono ?_); rintro e w' ⟨rfl, ⟨nd, rfl⟩⟩))
                   first
                   | (go_meet; case rel => exact ⟨_, (x7_6), x60_19, H', ⟨x60_4⟩, ⟨x60_10⟩, ⟨x60_11⟩, ⟨x60_2⟩⟩)
                   | (go_meet; case rel => simp only [hji11, hji31]; exact ⟨_, (x7_6), x60_19, H', ⟨x60_4⟩, ⟨x60_10⟩, ⟨x60_11⟩, ⟨x60_2⟩⟩)
                   | ((try subst hji11); (try subst hji31); go_meet; case rel => exact ⟨_, (x7_6), x60_19, H', ⟨x60_4⟩, ⟨x60_10⟩, ⟨x60_11⟩, ⟨x60_2⟩⟩)
                 ·rw [if_neg c39] at H
                  exact absurd H (by simp)
                ·rw [if_neg c38] at H
                 have c38b0 := decide_eq_false c38
                 clear c38
                 have H' := Aside0.mk H
                 clear H
                 go_wp2
                 first
                 | (go_meet; case rel => exact ⟨_, (x7_6), x60_19, H', ⟨x60_4⟩, ⟨x60_10⟩, ⟨x60_11⟩, ⟨x60_2⟩⟩)
                 | (go_meet; case rel => simp only [hji11, hji31]; exact ⟨_, (x7_6), x60_19, H', ⟨x60_4⟩, ⟨x60_10⟩, ⟨x60_11⟩, ⟨x60_2⟩⟩)
                 | ((try subst hji11); (try subst hji31); go_meet; case rel => exact ⟨_, (x7_6), x60_19, H', ⟨x60_4⟩, ⟨x60_10⟩, ⟨x60_11⟩, ⟨x60_2⟩⟩)
         ·replace c28 := Bool.eq_false_iff.mpr c28
          subst c28
          rw [if_neg (show ¬ (false = true) by decide)] at H
          have H' := Aside0.mk H
          clear H
          go_wp2
          first
          | (go_meet; case rel => exact ⟨_, (x7_14), x60_19, H', ⟨x60_15⟩, ⟨x60_10⟩, ⟨x60_11⟩, ⟨x60_2⟩⟩)
          | (go_meet; case rel => simp only [hji11, hji31]; exact ⟨_, (x7_14), x60_19, H', ⟨x60_15⟩, ⟨x60_10⟩, ⟨x60_11⟩, ⟨x60_2⟩⟩)
          | ((try subst hji11); (try subst hji31); go_meet; case rel => exact ⟨_, (x7_14), x60_19, H', ⟨x60_15⟩, ⟨x60_10⟩, ⟨x60_11⟩, ⟨x60_2⟩⟩)
        case rest =>
         clear HC27
         obtain ⟨kq, x7_26, rfl, HA, HJ26, BK295, BK296, HB⟩ := hcut
         cases kq with
         | zero => exact absurd HA.out (by simp [casketref11_number.j7])
         | succ kj26 =>
          have H := HA.out
          clear HA
          simp only [casketref11_number.j7] at H
          by_cases c43 : 0 ≤ a1
          ·rw [if_pos c43] at H
           have c43b0 := eq_true c43
           have c43b1 := decide_eq_true c43
           clear c43
           by_cases c44 : a1 ≤ x7_26
           ·rw [if_pos c44] at H
            have c44b0 := eq_true c44
            have c44b1 := decide_eq_true c44
            clear c44
            by_cases c45 : x7_26 ≤ (a0.size : Int)
            ·rw [if_pos c45] at H
             have c45b0 := eq_true c45
             have c45b1 := decide_eq_true c45
             clear c45
             replace H := Option.bind_eq_some_iff.mp H
             obtain ⟨⟨t299, t300⟩, A460, H⟩ := H
             replace H : (if t300 = 0 then (some (5, a1, (⟨#[]⟩ : ByteArray), 0, t299, x7_26, 0, 0)) else ((casketref11_fault.f 62 a1).bind fun bt301 => (some (bt301.1, bt301.2.1, bt301.2.2.1, bt301.2.2.2.1, bt301.2.2.2.2.1, bt301.2.2.2.2.2.1, bt301.2.2.2.2.2.2.1, bt301.2.2.2.2.2.2.2)))) = some (r1, r2, r3, r4, r5, r6, r7, r8) := H
             have A46 := Aside0.mk A460
             clear A460
             by_cases c47 : t300 = 0
             ·rw [if_pos c47] at H
              have c47b0 := beq_iff_eq.mpr c47
              have c47b1 := bne_eq_false_iff_eq.mpr c47
              clear c47
              simp only [Option.some.injEq, Prod.mk.injEq] at H
              obtain ⟨rfl, rfl, rfl, rfl, rfl, rfl, rfl, rfl⟩ := H
              go_wp2_with (first | ((with_reducible refine gate_callee (f := 51) rfl ?_); refine goesL_ (some 99) rfl rfl Tryd.func51 (by kernel_rfl) rfl #[.string (a0.extract (a1 : Int).toNat (x7_26 : Int).toNat)] rfl x60_5 ?_; (with_reducible refine (casketref4_ParseFloat.calls kj26 (a0.extract (a1 : Int).toNat (x7_26 : Int).toNat) t299 t300 _ A46.out).mono ?_); rintro e w48 ⟨rfl, hb⟩; refine ⟨_, rfl, ?_⟩; have n0_ := Aside0.mk (blk_below (g := gb295) (o := .cells #[.int .i64 0, .int .i64 0, .string (⟨#[]⟩ : ByteArray), .int .i64 0, .int .u64 0] 30 (0, 0)) x60_10 hb); have n1_ := Aside0.mk (blk_below (g := gb296) (o := .cells #[.int .i64 0, .int .i64 0] 25 (0, 0)) x60_11 hb); have n2_ := Aside0.mk (below_step x60_2 hb); clear BK295; clear BK296; clear HB; have BK295 := n0_; have BK296 := n1_; have HB := n2_; clear n0_ n1_ n2_; have hnb49 := NB295_296.out; have hnc49 := NB296_295.out; have hcz50_0 : w48.cell? ⟨gb295, 0, none⟩ = some (.int .i64 0) := (blk_cell BK295.out 0).trans rfl; have hcz50_1 : w48.cell? ⟨gb295, 1, none⟩ = some (.int .i64 0) := (blk_cell BK295.out 1).trans rfl; have hcz50_2 : w48.cell? ⟨gb295, 2, none⟩ = some (.string (⟨#[]⟩ : ByteArray)) := (blk_cell BK295.out 2).trans rfl; have hcz50_3 : w48.cell? ⟨gb295, 3, none⟩ = some (.int .i64 0) := (blk_cell BK295.out 3).trans rfl; have hcz50_4 : w48.cell? ⟨gb295, 4, none⟩ = some (.int .u64 0) := (blk_cell BK295.out 4).trans rfl; have hfz50_0 := blk_frozen BK295.out 0; have hfz50_1 := blk_frozen BK295.out 1; have hfz50_2 := blk_frozen BK295.out 2; have hfz50_3 := blk_frozen BK295.out 3; have hfz50_4 := blk_frozen BK295.out 4; have hcz51_0 : w48.cell? ⟨gb296, 0, none⟩ = some (.int .i64 0) := (blk_cell BK296.out 0).trans rfl; have hcz51_1 : w48.cell? ⟨gb296, 1, none⟩ = some (.int .i64 0) := (blk_cell BK296.out 1).trans rfl; have hfz51_0 := blk_frozen BK296.out 0; have hfz51_1 := blk_frozen BK296.out 1))
              refine bodyPost_ret (results_list (rs := [.cell 4 30, .tmp 5, .cell 6 25]) rfl (by simp) (.cell gb295 30 #[.int .i64 5, .int .i64 a1, .string (⟨#[]⟩ : ByteArray), .int .i64 0, .int .u64 t299] (0, 0) _ rfl (by (with_reducible repeat first | apply blk_drewN | apply blk_drew | apply blk_alloc); refine blk_far ?_ NB295_296.out _; (with_reducible repeat first | apply blk_drewN | apply blk_drew | apply blk_alloc); refine blk_far ?_ NB295_296.out _; (with_reducible repeat first | apply blk_drewN | apply blk_drew | apply blk_alloc); refine blk_put (cs := #[.int .i64 5, .int .i64 a1, .string (⟨#[]⟩ : ByteArray), .int .i64 0, .int .u64 0]) ?_ 4 _ rfl; (with_reducible repeat first | apply blk_drewN | apply blk_drew | apply blk_alloc); refine blk_put (cs := #[.int .i64 5, .int .i64 a1, .string (⟨#[]⟩ : ByteArray), .int .i64 0, .int .u64 0]) ?_ 3 _ rfl; (with_reducible repeat first | apply blk_drewN | apply blk_drew | apply blk_alloc); refine blk_put (cs := #[.int .i64 5, .int .i64 a1, .string (⟨#[]⟩ : ByteArray), .int .i64 0, .int .u64 0]) ?_ 2 _ rfl; (with_reducible repeat first | apply blk_drewN | apply blk_drew | apply blk_alloc); refine blk_put (cs := #[.int .i64 5, .int .i64 0, .string (⟨#[]⟩ : ByteArray), .int .i64 0, .int .u64 0]) ?_ 1 _ rfl; (with_reducible repeat first | apply blk_drewN | apply blk_drew | apply blk_alloc); refine blk_put (cs := #[.int .i64 0, .int .i64 0, .string (⟨#[]⟩ : ByteArray), .int .i64 0, .int .u64 0]) ?_ 0 _ rfl; (with_reducible repeat first | apply blk_drewN | apply blk_drew | apply blk_alloc); exact BK295.out) Tryd.underlying30 rfl (by kernel_rfl) (.tmp (.cell gb296 25 #[.int .i64 0, .int .i64 0] (0, 0) _ rfl x60_0 Tryd.underlying25 rfl (by kernel_rfl) .nil)))) rfl ?_
              exact ⟨x60_14, x60_2⟩
             ·rw [if_neg c47] at H
              have c47b0 := beq_eq_false_iff_ne.mpr c47
              have c47b1 := bne_iff_ne.mpr c47
              replace H := Option.bind_eq_some_iff.mp H
              obtain ⟨⟨t301, t302, t303, t304, t305, t306, t307, t308⟩, A520, H⟩ := H
              replace H : (some (t301, t302, t303, t304, t305, t306, t307, t308)) = some (r1, r2, r3, r4, r5, r6, r7, r8) := H
              have A52 := Aside0.mk A520
              clear A520
              simp only [Option.some.injEq, Prod.mk.injEq] at H
              obtain ⟨rfl, rfl, rfl, rfl, rfl, rfl, rfl, rfl⟩ := H
              go_wp2_with (first | ((with_reducible refine gate_callee (f := 51) rfl ?_); refine goesL_ (some 99) rfl rfl Tryd.func51 (by kernel_rfl) rfl #[.string (a0.extract (a1 : Int).toNat (x7_26 : Int).toNat)] rfl x60_5 ?_; (with_reducible refine (casketref4_ParseFloat.calls kj26 (a0.extract (a1 : Int).toNat (x7_26 : Int).toNat) t299 t300 _ A46.out).mono ?_); rintro e w53 ⟨rfl, hb⟩; refine ⟨_, rfl, ?_⟩; have n0_ := Aside0.mk (blk_below (g := gb295) (o := .cells #[.int .i64 0, .int .i64 0, .string (⟨#[]⟩ : ByteArray), .int .i64 0, .int .u64 0] 30 (0, 0)) x60_10 hb); have n1_ := Aside0.mk (blk_below (g := gb296) (o := .cells #[.int .i64 0, .int .i64 0] 25 (0, 0)) x60_11 hb); have n2_ := Aside0.mk (below_step x60_2 hb); clear BK295; clear BK296; clear HB; have BK295 := n0_; have BK296 := n1_; have HB := n2_; clear n0_ n1_ n2_) | ((with_reducible refine gate_callee (f := 34) rfl ?_); refine goesL_ (some 105) rfl rfl Tryd.func34 (by kernel_rfl) rfl #[.int .i64 62, .int .i64 a1] rfl x60_5 ?_; (with_reducible refine (casketref11_fault.calls 62 a1 t301 t302 t303 t304 t305 t306 t307 t308 _ A52.out).mono ?_); rintro e w54 ⟨rfl, hb⟩; refine ⟨_, rfl, ?_⟩; have n0_ := Aside0.mk (blk_below (g := gb295) (o := .cells #[.int .i64 0, .int .i64 0, .string (⟨#[]⟩ : ByteArray), .int .i64 0, .int .u64 0] 30 (0, 0)) x60_10 hb); have n1_ := Aside0.mk (blk_below (g := gb296) (o := .cells #[.int .i64 0, .int .i64 0] 25 (0, 0)) x60_11 hb); have n2_ := Aside0.mk (below_step x60_2 hb); clear BK295; clear BK296; clear HB; have BK295 := n0_; have BK296 := n1_; have HB := n2_; clear n0_ n1_ n2_; have hnb55 := NB295_296.out; have hnc55 := NB296_295.out; have hcz56_0 : w54.cell? ⟨gb295, 0, none⟩ = some (.int .i64 0) := (blk_cell BK295.out 0).trans rfl; have hcz56_1 : w54.cell? ⟨gb295, 1, none⟩ = some (.int .i64 0) := (blk_cell BK295.out 1).trans rfl; have hcz56_2 : w54.cell? ⟨gb295, 2, none⟩ = some (.string (⟨#[]⟩ : ByteArray)) := (blk_cell BK295.out 2).trans rfl; have hcz56_3 : w54.cell? ⟨gb295, 3, none⟩ = some (.int .i64 0) := (blk_cell BK295.out 3).trans rfl; have hcz56_4 : w54.cell? ⟨gb295, 4, none⟩ = some (.int .u64 0) := (blk_cell BK295.out 4).trans rfl; have hfz56_0 := blk_frozen BK295.out 0; have hfz56_1 := blk_frozen BK295.out 1; have hfz56_2 := blk_frozen BK295.out 2; have hfz56_3 := blk_frozen BK295.out 3; have hfz56_4 := blk_frozen BK295.out 4; have hcz57_0 : w54.cell? ⟨gb296, 0, none⟩ = some (.int .i64 0) := (blk_cell BK296.out 0).trans rfl; have hcz57_1 : w54.cell? ⟨gb296, 1, none⟩ = some (.int .i64 0) := (blk_cell BK296.out 1).trans rfl; have hfz57_0 := blk_frozen BK296.out 0; have hfz57_1 := blk_frozen BK296.out 1))
              refine bodyPost_ret (results_list (rs := [.cell 4 30, .tmp 5, .cell 6 25]) rfl (by simp) (.cell gb295 30 #[.int .i64 t301, .int .i64 t302, .string t303, .int .i64 t304, .int .u64 t305] (0, 0) _ rfl (by (with_reducible repeat first | apply blk_drewN | apply blk_drew | apply blk_alloc); refine blk_far ?_ NB295_296.out _; (with_reducible repeat first | apply blk_drewN | apply blk_drew | apply blk_alloc); refine blk_far ?_ NB295_296.out _; (with_reducible repeat first | apply blk_drewN | apply blk_drew | apply blk_alloc); refine blk_put (cs := #[.int .i64 t301, .int .i64 t302, .string t303, .int .i64 t304, .int .u64 0]) ?_ 4 _ rfl; (with_reducible repeat first | apply blk_drewN | apply blk_drew | apply blk_alloc); refine blk_put (cs := #[.int .i64 t301, .int .i64 t302, .string t303, .int .i64 0, .int .u64 0]) ?_ 3 _ rfl; (with_reducible repeat first | apply blk_drewN | apply blk_drew | apply blk_alloc); refine blk_put (cs := #[.int .i64 t301, .int .i64 t302, .string (⟨#[]⟩ : ByteArray), .int .i64 0, .int .u64 0]) ?_ 2 _ rfl; (with_reducible repeat first | apply blk_drewN | apply blk_drew | apply blk_alloc); refine blk_put (cs := #[.int .i64 t301, .int .i64 0, .string (⟨#[]⟩ : ByteArray), .int .i64 0, .int .u64 0]) ?_ 1 _ rfl; (with_reducible repeat first | apply blk_drewN | apply blk_drew | apply blk_alloc); refine blk_put (cs := #[.int .i64 0, .int .i64 0, .string (⟨#[]⟩ : ByteArray), .int .i64 0, .int .u64 0]) ?_ 0 _ rfl; (with_reducible repeat first | apply blk_drewN | apply blk_drew | apply blk_alloc); exact BK295.out) Tryd.underlying30 rfl (by kernel_rfl) (.tmp (.cell gb296 25 #[.int .i64 t307, .int .i64 t308] (0, 0) _ rfl (by (with_reducible repeat first | apply blk_drewN | apply blk_drew | apply blk_alloc); refine blk_put (cs := #[.int .i64 t307, .int .i64 0]) ?_ 1 _ rfl; (with_reducible repeat first | apply blk_drewN | apply blk_drew | apply blk_alloc); refine blk_put (cs := #[.int .i64 0, .int .i64 0]) ?_ 0 _ rfl; (with_reducible repeat first | apply blk_drewN | apply blk_drew | apply blk_alloc); refine blk_far ?_ NB296_295.out _; (with_reducible repeat first | apply blk_drewN | apply blk_drew | apply blk_alloc); refine blk_far ?_ NB296_295.out _; (with_reducible repeat first | apply blk_drewN | apply blk_drew | apply blk_alloc); refine blk_far ?_ NB296_295.out _; (with_reducible repeat first | apply blk_drewN | apply blk_drew | apply blk_alloc); refine blk_far ?_ NB296_295.out _; (with_reducible repeat first | apply blk_drewN | apply blk_drew | apply blk_alloc); refine blk_far ?_ NB296_295.out _; (with_reducible repeat first | apply blk_drewN | apply blk_drew | apply blk_alloc); exact BK296.out) Tryd.underlying25 rfl (by kernel_rfl) .nil)))) rfl ?_
              exact ⟨x60_14, x60_2⟩
            ·rw [if_neg c45] at H
             exact absurd H (by simp)
           ·rw [if_neg c44] at H
            exact absurd H (by simp)
          ·rw [if_neg c43] at H
           exact absurd H (by simp)
   ·replace c14 := Bool.eq_false_iff.mpr c14
    subst c14
    rw [if_neg (show ¬ (false = true) by decide)] at H
    have HC58 := Aside0.mk H
    clear H
    go_upto_block 4 with (fail)
    go_cut [7] (fun v7 wc => ∃ (kq : Nat) (x7_57 : Int), v7 = .int .i64 x7_57 ∧ Aside0 (casketref11_number.j9 kq a0 a1 x7_57 = some (r1, r2, r3, r4, r5, r6, r7, r8)) ∧ Aside0 (kq ≤ kj2) ∧ Aside0 (wc.heap[gb295]? = some (.cells #[.int .i64 0, .int .i64 0, .string (⟨#[]⟩ : ByteArray), .int .i64 0, .int .u64 0] 30 (0, 0))) ∧ Aside0 (wc.heap[gb296]? = some (.cells #[.int .i64 0, .int .i64 0] 25 (0, 0))) ∧ Aside0 (Below w.heap.size w wc))
    case first =>
     have H := HC58.out
     clear HC58
     have H' := Aside0.mk H
     clear H
     go_wp2
     go_loopg [7] kj2 (fun kq v7 w' => ∃ (x7_2 : Int), v7 = .int .i64 x7_2 ∧ Aside0 (casketref11_number.l2 kq a0 a1 x7_2 = some (r1, r2, r3, r4, r5, r6, r7, r8)) ∧ Aside0 (kq ≤ kj2) ∧ Aside0 (w'.heap[gb295]? = some (.cells #[.int .i64 0, .int .i64 0, .string (⟨#[]⟩ : ByteArray), .int .i64 0, .int .u64 0] 30 (0, 0))) ∧ Aside0 (w'.heap[gb296]? = some (.cells #[.int .i64 0, .int .i64 0] 25 (0, 0))) ∧ Aside0 (Below w.heap.size w w'))
     case atStart => exact ⟨(a1), x60_19, H', ⟨Nat.le_refl _⟩, ⟨x60_10⟩, ⟨x60_11⟩, ⟨x60_2⟩⟩
     case round =>
      clear H'
      obtain ⟨x7_2, rfl, HA, HK2, BK295, BK296, HB⟩ := hrel
      cases gk with
      | zero => exact absurd HA.out (by simp [casketref11_number.l2])
      | succ k2 =>
       have H := HA.out
       clear HA
       simp only [casketref11_number.l2] at H
       by_cases c59 : x7_2 < (a0.size : Int)
       ·rw [if_pos c59] at H
        have c59b0 := decide_eq_true c59
        clear c59
        (first | rw [c59b0] | (simp only [i64_w, i32_w]; rw [c59b0]) | skip)
        by_cases c60 : 0 ≤ x7_2
        ·rw [if_pos c60] at H
         have c60b0 := decide_eq_true c60
         clear c60
         obtain ⟨t309, A620, H⟩ := Option.bind_eq_some_iff.mp H
         have A62 := Aside0.mk A620
         clear A620
         by_cases c63 : t309 = true
         ·subst c63
          rw [if_pos rfl] at H
          have H' := Aside0.mk H
          clear H
          have p61 : 0 ≤ (x7_2 : Int) := of_decide_eq_true x60_18
          have q61 : x7_2 < (a0.size : Int) := of_decide_eq_true x60_18
          have hx61 := bt_at a0 x7_2
          replace p61 := eq_true p61
          replace q61 := eq_true q61
          go_wp2_with (first | (go_at_call 30; (with_reducible refine (casketref11_digit.calls (bt a0 x7_2) true _ A62.out).mono ?_); rintro e w' ⟨rfl, ⟨nd, rfl⟩⟩))
          go_roundg k2
          case measure => have := HJ2.out; have := HK2.out; omega
          case rel => exact ⟨(wrap64 (x7_2 + 1)), x60_19, H', ⟨by have := HJ2.out; have := HK2.out; omega⟩, ⟨x60_10⟩, ⟨x60_11⟩, ⟨x60_2⟩⟩
         ·replace c63 := Bool.eq_false_iff.mpr c63
          subst c63
          rw [if_neg (show ¬ (false = true) by decide)] at H
          have H' := Aside0.mk H
          clear H
          have p61 : 0 ≤ (x7_2 : Int) := of_decide_eq_true x60_18
          have q61 : x7_2 < (a0.size : Int) := of_decide_eq_true x60_18
          have hx61 := bt_at a0 x7_2
          replace p61 := eq_true p61
          replace q61 := eq_true q61
          go_wp2_with (first | (go_at_call 30; (with_reducible refine (casketref11_digit.calls (bt a0 x7_2) false _ A62.out).mono ?_); rintro e w' ⟨rfl, ⟨nd, rfl⟩⟩))
          first
          | (go_meet; case rel => exact ⟨_, (x7_2), x60_19, H', ⟨x60_17⟩, ⟨x60_10⟩, ⟨x60_11⟩, ⟨x60_2⟩⟩)
          | (go_meet; case rel => simp only [hji11, hji31]; exact ⟨_, (x7_2), x60_19, H', ⟨x60_17⟩, ⟨x60_10⟩, ⟨x60_11⟩, ⟨x60_2⟩⟩)
          | ((try subst hji11); (try subst hji31); go_meet; case rel => exact ⟨_, (x7_2), x60_19, H', ⟨x60_17⟩, ⟨x60_10⟩, ⟨x60_11⟩, ⟨x60_2⟩⟩)
        ·rw [if_neg c60] at H
         exact absurd H (by simp)
       ·rw [if_neg c59] at H
        have c59b0 := decide_eq_false c59
        clear c59
        (first | rw [c59b0] | (simp only [i64_w, i32_w]; rw [c59b0]) | skip)
        have H' := Aside0.mk H
        clear H
        go_wp2
        first
        | (go_meet; case rel => exact ⟨_, (x7_2), x60_19, H', ⟨x60_17⟩, ⟨x60_10⟩, ⟨x60_11⟩, ⟨x60_2⟩⟩)
        | (go_meet; case rel => simp only [hji11, hji31]; exact ⟨_, (x7_2), x60_19, H', ⟨x60_17⟩, ⟨x60_10⟩, ⟨x60_11⟩, ⟨x60_2⟩⟩)
        | ((try subst hji11); (try subst hji31); go_meet; case rel => exact ⟨_, (x7_2), x60_19, H', ⟨x60_17⟩, ⟨x60_10⟩, ⟨x60_11⟩, ⟨x60_2⟩⟩)
    case rest =>
     clear HC58
     obtain ⟨kq, x7_57, rfl, HA, HJ57, BK295, BK296, HB⟩ := hcut
     cases kq with
     | zero => exact absurd HA.out (by simp [casketref11_number.j9])
     | succ kj57 =>
      have H := HA.out
      clear HA
      simp only [casketref11_number.j9] at H
      by_cases c64 : 0 ≤ a1
      ·rw [if_pos c64] at H
       have c64b0 := eq_true c64
       have c64b1 := decide_eq_true c64
       clear c64
       by_cases c65 : a1 ≤ x7_57
       ·rw [if_pos c65] at H
        have c65b0 := eq_true c65
        have c65b1 := decide_eq_true c65
        clear c65
        by_cases c66 : x7_57 ≤ (a0.size : Int)
        ·rw [if_pos c66] at H
         have c66b0 := eq_true c66
         have c66b1 := decide_eq_true c66
         clear c66
         replace H := Option.bind_eq_some_iff.mp H
         obtain ⟨⟨t310, t311⟩, A670, H⟩ := H
         replace H : (if t311 = 0 then (some (4, a1, (⟨#[]⟩ : ByteArray), t310, 0, x7_57, 0, 0)) else ((casketref11_fault.f 62 a1).bind fun bt312 => (some (bt312.1, bt312.2.1, bt312.2.2.1, bt312.2.2.2.1, bt312.2.2.2.2.1, bt312.2.2.2.2.2.1, bt312.2.2.2.2.2.2.1, bt312.2.2.2.2.2.2.2)))) = some (r1, r2, r3, r4, r5, r6, r7, r8) := H
         have A67 := Aside0.mk A670
         clear A670
         by_cases c68 : t311 = 0
         ·rw [if_pos c68] at H
          have c68b0 := beq_iff_eq.mpr c68
          have c68b1 := bne_eq_false_iff_eq.mpr c68
          clear c68
          simp only [Option.some.injEq, Prod.mk.injEq] at H
          obtain ⟨rfl, rfl, rfl, rfl, rfl, rfl, rfl, rfl⟩ := H
          go_wp2_with (first | ((with_reducible refine gate_callee (f := 54) rfl ?_); refine goesL_ (some 131) rfl rfl Tryd.func54 (by kernel_rfl) rfl #[.string (a0.extract (a1 : Int).toNat (x7_57 : Int).toNat)] rfl x60_5 ?_; (with_reducible refine (casketref4_ParseInt.calls kj57 (a0.extract (a1 : Int).toNat (x7_57 : Int).toNat) t310 t311 _ A67.out).mono ?_); rintro e w' ⟨rfl, ⟨nd, rfl⟩⟩; refine ⟨_, rfl, ?_⟩; (try (rw [drewN_self wc]; generalize hq_ : World.drewN wc _ = wc; have n0_ : Aside0 (wc.heap[gb295]? = some (.cells #[.int .i64 0, .int .i64 0, .string (⟨#[]⟩ : ByteArray), .int .i64 0, .int .u64 0] 30 (0, 0))) := ⟨x60_7⟩; have n1_ : Aside0 (wc.heap[gb296]? = some (.cells #[.int .i64 0, .int .i64 0] 25 (0, 0))) := ⟨x60_8⟩; have n2_ : Aside0 (Below w.heap.size w wc) := ⟨x60_1⟩; clear BK295 BK296 HB hq_; have BK295 := n0_; have BK296 := n1_; have HB := n2_; clear n0_ n1_ n2_)); have hnb69 := NB295_296.out; have hnc69 := NB296_295.out; have hcz70_0 : wc.cell? ⟨gb295, 0, none⟩ = some (.int .i64 0) := (blk_cell BK295.out 0).trans rfl; have hcz70_1 : wc.cell? ⟨gb295, 1, none⟩ = some (.int .i64 0) := (blk_cell BK295.out 1).trans rfl; have hcz70_2 : wc.cell? ⟨gb295, 2, none⟩ = some (.string (⟨#[]⟩ : ByteArray)) := (blk_cell BK295.out 2).trans rfl; have hcz70_3 : wc.cell? ⟨gb295, 3, none⟩ = some (.int .i64 0) := (blk_cell BK295.out 3).trans rfl; have hcz70_4 : wc.cell? ⟨gb295, 4, none⟩ = some (.int .u64 0) := (blk_cell BK295.out 4).trans rfl; have hfz70_0 := blk_frozen BK295.out 0; have hfz70_1 := blk_frozen BK295.out 1; have hfz70_2 := blk_frozen BK295.out 2; have hfz70_3 := blk_frozen BK295.out 3; have hfz70_4 := blk_frozen BK295.out 4; have hcz71_0 : wc.cell? ⟨gb296, 0, none⟩ = some (.int .i64 0) := (blk_cell BK296.out 0).trans rfl; have hcz71_1 : wc.cell? ⟨gb296, 1, none⟩ = some (.int .i64 0) := (blk_cell BK296.out 1).trans rfl; have hfz71_0 := blk_frozen BK296.out 0; have hfz71_1 := blk_frozen BK296.out 1))
          refine bodyPost_ret (results_list (rs := [.cell 4 30, .tmp 5, .cell 6 25]) rfl (by simp) (.cell gb295 30 #[.int .i64 4, .int .i64 a1, .string (⟨#[]⟩ : ByteArray), .int .i64 t310, .int .u64 0] (0, 0) _ rfl (by (with_reducible repeat first | apply blk_drewN | apply blk_drew | apply blk_alloc); refine blk_far ?_ NB295_296.out _; (with_reducible repeat first | apply blk_drewN | apply blk_drew | apply blk_alloc); refine blk_far ?_ NB295_296.out _; (with_reducible repeat first | apply blk_drewN | apply blk_drew | apply blk_alloc); refine blk_put (cs := #[.int .i64 4, .int .i64 a1, .string (⟨#[]⟩ : ByteArray), .int .i64 t310, .int .u64 0]) ?_ 4 _ rfl; (with_reducible repeat first | apply blk_drewN | apply blk_drew | apply blk_alloc); refine blk_put (cs := #[.int .i64 4, .int .i64 a1, .string (⟨#[]⟩ : ByteArray), .int .i64 0, .int .u64 0]) ?_ 3 _ rfl; (with_reducible repeat first | apply blk_drewN | apply blk_drew | apply blk_alloc); refine blk_put (cs := #[.int .i64 4, .int .i64 a1, .string (⟨#[]⟩ : ByteArray), .int .i64 0, .int .u64 0]) ?_ 2 _ rfl; (with_reducible repeat first | apply blk_drewN | apply blk_drew | apply blk_alloc); refine blk_put (cs := #[.int .i64 4, .int .i64 0, .string (⟨#[]⟩ : ByteArray), .int .i64 0, .int .u64 0]) ?_ 1 _ rfl; (with_reducible repeat first | apply blk_drewN | apply blk_drew | apply blk_alloc); refine blk_put (cs := #[.int .i64 0, .int .i64 0, .string (⟨#[]⟩ : ByteArray), .int .i64 0, .int .u64 0]) ?_ 0 _ rfl; (with_reducible repeat first | apply blk_drewN | apply blk_drew | apply blk_alloc); exact BK295.out) Tryd.underlying30 rfl (by kernel_rfl) (.tmp (.cell gb296 25 #[.int .i64 0, .int .i64 0] (0, 0) _ rfl x60_0 Tryd.underlying25 rfl (by kernel_rfl) .nil)))) rfl ?_
          exact ⟨x60_14, x60_2⟩
         ·rw [if_neg c68] at H
          have c68b0 := beq_eq_false_iff_ne.mpr c68
          have c68b1 := bne_iff_ne.mpr c68
          replace H := Option.bind_eq_some_iff.mp H
          obtain ⟨⟨t312, t313, t314, t315, t316, t317, t318, t319⟩, A720, H⟩ := H
          replace H : (some (t312, t313, t314, t315, t316, t317, t318, t319)) = some (r1, r2, r3, r4, r5, r6, r7, r8) := H
          have A72 := Aside0.mk A720
          clear A720
          simp only [Option.some.injEq, Prod.mk.injEq] at H
          obtain ⟨rfl, rfl, rfl, rfl, rfl, rfl, rfl, rfl⟩ := H
          go_wp2_with (first | ((with_reducible refine gate_callee (f := 54) rfl ?_); refine goesL_ (some 131) rfl rfl Tryd.func54 (by kernel_rfl) rfl #[.string (a0.extract (a1 : Int).toNat (x7_57 : Int).toNat)] rfl x60_5 ?_; (with_reducible refine (casketref4_ParseInt.calls kj57 (a0.extract (a1 : Int).toNat (x7_57 : Int).toNat) t310 t311 _ A67.out).mono ?_); rintro e w' ⟨rfl, ⟨nd, rfl⟩⟩; refine ⟨_, rfl, ?_⟩; (try (rw [drewN_self wc]; generalize hq_ : World.drewN wc _ = wc; have n0_ : Aside0 (wc.heap[gb295]? = some (.cells #[.int .i64 0, .int .i64 0, .string (⟨#[]⟩ : ByteArray), .int .i64 0, .int .u64 0] 30 (0, 0))) := ⟨x60_7⟩; have n1_ : Aside0 (wc.heap[gb296]? = some (.cells #[.int .i64 0, .int .i64 0] 25 (0, 0))) := ⟨x60_8⟩; have n2_ : Aside0 (Below w.heap.size w wc) := ⟨x60_1⟩; clear BK295 BK296 HB hq_; have BK295 := n0_; have BK296 := n1_; have HB := n2_; clear n0_ n1_ n2_))) | ((with_reducible refine gate_callee (f := 34) rfl ?_); refine goesL_ (some 137) rfl rfl Tryd.func34 (by kernel_rfl) rfl #[.int .i64 62, .int .i64 a1] rfl x60_5 ?_; (with_reducible refine (casketref11_fault.calls 62 a1 t312 t313 t314 t315 t316 t317 t318 t319 _ A72.out).mono ?_); rintro e w73 ⟨rfl, hb⟩; refine ⟨_, rfl, ?_⟩; have n0_ := Aside0.mk (blk_below (g := gb295) (o := .cells #[.int .i64 0, .int .i64 0, .string (⟨#[]⟩ : ByteArray), .int .i64 0, .int .u64 0] 30 (0, 0)) x60_10 hb); have n1_ := Aside0.mk (blk_below (g := gb296) (o := .cells #[.int .i64 0, .int .i64 0] 25 (0, 0)) x60_11 hb); have n2_ := Aside0.mk (below_step x60_2 hb); clear BK295; clear BK296; clear HB; have BK295 := n0_; have BK296 := n1_; have HB := n2_; clear n0_ n1_ n2_; have hnb74 := NB295_296.out; have hnc74 := NB296_295.out; have hcz75_0 : w73.cell? ⟨gb295, 0, none⟩ = some (.int .i64 0) := (blk_cell BK295.out 0).trans rfl; have hcz75_1 : w73.cell? ⟨gb295, 1, none⟩ = some (.int .i64 0) := (blk_cell BK295.out 1).trans rfl; have hcz75_2 : w73.cell? ⟨gb295, 2, none⟩ = some (.string (⟨#[]⟩ : ByteArray)) := (blk_cell BK295.out 2).trans rfl; have hcz75_3 : w73.cell? ⟨gb295, 3, none⟩ = some (.int .i64 0) := (blk_cell BK295.out 3).trans rfl; have hcz75_4 : w73.cell? ⟨gb295, 4, none⟩ = some (.int .u64 0) := (blk_cell BK295.out 4).trans rfl; have hfz75_0 := blk_frozen BK295.out 0; have hfz75_1 := blk_frozen BK295.out 1; have hfz75_2 := blk_frozen BK295.out 2; have hfz75_3 := blk_frozen BK295.out 3; have hfz75_4 := blk_frozen BK295.out 4; have hcz76_0 : w73.cell? ⟨gb296, 0, none⟩ = some (.int .i64 0) := (blk_cell BK296.out 0).trans rfl; have hcz76_1 : w73.cell? ⟨gb296, 1, none⟩ = some (.int .i64 0) := (blk_cell BK296.out 1).trans rfl; have hfz76_0 := blk_frozen BK296.out 0; have hfz76_1 := blk_frozen BK296.out 1))
          refine bodyPost_ret (results_list (rs := [.cell 4 30, .tmp 5, .cell 6 25]) rfl (by simp) (.cell gb295 30 #[.int .i64 t312, .int .i64 t313, .string t314, .int .i64 t315, .int .u64 t316] (0, 0) _ rfl (by (with_reducible repeat first | apply blk_drewN | apply blk_drew | apply blk_alloc); refine blk_far ?_ NB295_296.out _; (with_reducible repeat first | apply blk_drewN | apply blk_drew | apply blk_alloc); refine blk_far ?_ NB295_296.out _; (with_reducible repeat first | apply blk_drewN | apply blk_drew | apply blk_alloc); refine blk_put (cs := #[.int .i64 t312, .int .i64 t313, .string t314, .int .i64 t315, .int .u64 0]) ?_ 4 _ rfl; (with_reducible repeat first | apply blk_drewN | apply blk_drew | apply blk_alloc); refine blk_put (cs := #[.int .i64 t312, .int .i64 t313, .string t314, .int .i64 0, .int .u64 0]) ?_ 3 _ rfl; (with_reducible repeat first | apply blk_drewN | apply blk_drew | apply blk_alloc); refine blk_put (cs := #[.int .i64 t312, .int .i64 t313, .string (⟨#[]⟩ : ByteArray), .int .i64 0, .int .u64 0]) ?_ 2 _ rfl; (with_reducible repeat first | apply blk_drewN | apply blk_drew | apply blk_alloc); refine blk_put (cs := #[.int .i64 t312, .int .i64 0, .string (⟨#[]⟩ : ByteArray), .int .i64 0, .int .u64 0]) ?_ 1 _ rfl; (with_reducible repeat first | apply blk_drewN | apply blk_drew | apply blk_alloc); refine blk_put (cs := #[.int .i64 0, .int .i64 0, .string (⟨#[]⟩ : ByteArray), .int .i64 0, .int .u64 0]) ?_ 0 _ rfl; (with_reducible repeat first | apply blk_drewN | apply blk_drew | apply blk_alloc); exact BK295.out) Tryd.underlying30 rfl (by kernel_rfl) (.tmp (.cell gb296 25 #[.int .i64 t318, .int .i64 t319] (0, 0) _ rfl (by (with_reducible repeat first | apply blk_drewN | apply blk_drew | apply blk_alloc); refine blk_put (cs := #[.int .i64 t318, .int .i64 0]) ?_ 1 _ rfl; (with_reducible repeat first | apply blk_drewN | apply blk_drew | apply blk_alloc); refine blk_put (cs := #[.int .i64 0, .int .i64 0]) ?_ 0 _ rfl; (with_reducible repeat first | apply blk_drewN | apply blk_drew | apply blk_alloc); refine blk_far ?_ NB296_295.out _; (with_reducible repeat first | apply blk_drewN | apply blk_drew | apply blk_alloc); refine blk_far ?_ NB296_295.out _; (with_reducible repeat first | apply blk_drewN | apply blk_drew | apply blk_alloc); refine blk_far ?_ NB296_295.out _; (with_reducible repeat first | apply blk_drewN | apply blk_drew | apply blk_alloc); refine blk_far ?_ NB296_295.out _; (with_reducible repeat first | apply blk_drewN | apply blk_drew | apply blk_alloc); refine blk_far ?_ NB296_295.out _; (with_reducible repeat first | apply blk_drewN | apply blk_drew | apply blk_alloc); exact BK296.out) Tryd.underlying25 rfl (by kernel_rfl) .nil)))) rfl ?_
          exact ⟨x60_14, x60_2⟩
        ·rw [if_neg c66] at H
         exact absurd H (by simp)
       ·rw [if_neg c65] at H
        exact absurd H (by simp)
      ·rw [if_neg c64] at H
       exact absurd H (by simp)
end Go.Proofs.YtjolkombhdibcaaDoor.Print
end
