/- Chapter 6: New; Get of what has no bytes. -/
import Derived.Test.YtgimcpnelogadaaHpJ
import Derived.Test.YtgimcpnelogadaaMemI
import Derived.Laws.ResultCell
namespace Go.Proofs.Ytgimcpnelogadaa.Hp
open Go.RowKit Go.Proofs.Ytgimcpnelogadaa.Mem Go.Proofs.Ytgimcpnelogadaa.Sto Go.Proofs.Ytgimcpnelogadaa.Wd
set_option linter.unusedVariables false
set_option linter.unusedSimpArgs false
attribute [local go_sem] Option.isNone_some Option.isNone_none

theorem hnew_calls (n : Nat) (hn : n ≤ 1048576) (w : World) : Calls Try.prog 38 #[.int .i64 (n : Int)] w fun e w' => ∃ p rp F, e = .returned (.tuple #[.pointer (some ⟨p, 0, none⟩), .int .i64 0]) ∧ HeapAt w' p n 0 [] (.slice none 0 0) rp F 0 ∧ Chg [] w w' ∧ ∀ k ∈ hfoot p (.slice none 0 0) [] F, w.heap.size ≤ k := by
  have CN := Mem.Aside.mk (new_holds w)
  have h0 : ¬ (n : Int) < 0 := by omega
  have h1 : ¬ (1048576 : Int) < (n : Int) := by omega
  go_enter Try.func38, Try.ntmps38
  go_wp2_with (go_at_call 21; (with_reducible refine CN.out.mono ?_); rintro e w1 ⟨rp, F, rfl, hh1, hc1, hF⟩; have HH := Mem.Aside.mk (And.intro hh1 (And.intro hc1 hF)); clear hh1 hc1 hF)
  go_ret2
  obtain ⟨hh1, hc1, hF⟩ := HH.out
  refine ⟨w1.heap.size, rp, F, rfl, ⟨Blk.newL [_, _, _, _] rfl, Row.nil _ _ _, by simp, by simp, hh1.chg ((Chg.refl [] w1).alloc _) (by simp), by simp [blks], by simp [owns], fun k hk hm => ?_, ⟨hn, Nat.zero_le _, Nat.zero_le _, by omega⟩⟩, hc1.alloc _, fun k hk => ?_⟩
  · have := hh1.lt k hk
    simp [blks, owns, Value.ownBlock] at hm
    omega
  · rcases mem_hfoot.1 hk with e | e | ⟨m, hm, _⟩ | ⟨m, hm, _⟩ | e
    · rw [e]; exact hc1.size
    · cases e
    · cases hm
    · cases hm
    · exact hF k e
def isRowD (d : TypeDesc) : Bool := match d with | .struct _ | .array _ _ => true | _ => false
theorem results_row_tmp {P : Program} {fn : Func} {w : World} {q u : Tmp} {ty : TypeId} (h : fn.results = #[.cell q ty, .tmp u]) {tmps : Array Value} {b : Nat} (hp : tmps.getD q undef = .pointer (some ⟨b, 0, none⟩)) {cs : List Value} (hb : Blk w b ty cs) {d : TypeDesc}
    (hu : P.underlying ty = some d) (hd : isRowD d = true) (hi : (P.info? ty).map (·.size) = some cs.toArray.size) : (results fn tmps).run P w = .ok (.tuple #[.agg cs.toArray, tmps.getD u undef]) w := by
  have hl := run_loadVar_row (P := P) w b ty ty cs.toArray (0, 0) d hb hu (by unfold isRowD at hd; cases d <;> first | rfl | cases hd) hi
  rw [results_cell_tmp h, hp]
  simp [asAddr, hl]
section
variable {w w' : World} {p units used rp most : Nat} {M : List (Option MC)} {cv : Value} {F : List Nat}
theorem underCell : ∃ d, Try.prog.underlying 60 = some d ∧ isRowD d = true := by
  refine ⟨_, Try.underlying60, rfl⟩
set_option maxHeartbeats 8000000 in
set_option maxRecDepth 100000 in
theorem get_plain (h : HeapAt w p units used M cv rp F most) {x : Nat} (hx : x < 18446744073709551616) {m : MC} (hm : atM M x = some m) (hv : m.c.view = false) (hk : widthN m.c.kind = 0) (hl : m.c.words.length ≤ 1000000000) :
    Calls Try.prog 41 #[.pointer (some ⟨p, 0, none⟩), .int .u64 (x : Int)] w fun e w' => ∃ wv, e = .returned (.tuple #[argV m.c (.slice none 0 0) wv, .int .i64 0]) ∧ Row w' 22 1 wv m.c.words.length (u64V m.c.words) ∧ Chg [] w w' ∧ ∀ g, wv.ownBlock = some g → w.heap.size ≤ g := by
  have hM := atM_mem hm
  have CF := Mem.Aside.mk (find_calls (h.chg ((Chg.refl [] w).alloc (.cells #[.int .i64 0, .bool false, .int .i64 0, .string noText, .slice none 0 0, .slice none 0 0, .int .u64 0, .int .i64 0, .int .i64 0] 60)) (by simp)) x hx)
  rw [hm] at CF
  have hc := (h.cells m hM).alloc (.cells #[.int .i64 0, .bool false, .int .i64 0, .string noText, .slice none 0 0, .slice none 0 0, .int .u64 0, .int .i64 0, .int .i64 0] 60)
  have hw := (h.words m hM).alloc (.cells #[.int .i64 0, .bool false, .int .i64 0, .string noText, .slice none 0 0, .slice none 0 0, .int .u64 0, .int .i64 0, .int .i64 0] 60)
  have hr : Blk (w.alloc (.cells #[.int .i64 0, .bool false, .int .i64 0, .string noText, .slice none 0 0, .slice none 0 0, .int .u64 0, .int .i64 0, .int .i64 0] 60)) w.heap.size 60 [.int .i64 0, .bool false, .int .i64 0, .string noText, .slice none 0 0, .slice none 0 0, .int .u64 0, .int .i64 0, .int .i64 0] := Blk.newL [_, _, _, _, _, _, _, _, _] rfl
  have e1 : Chg [] w (w.alloc (.cells #[.int .i64 0, .bool false, .int .i64 0, .string noText, .slice none 0 0, .slice none 0 0, .int .u64 0, .int .i64 0, .int .i64 0] 60)) := (Chg.refl [] w).alloc _
  have CW := Mem.Aside.mk (width_calls m.c.kind)
  rw [hk, show ((0 : Nat) : Int) = 0 from rfl] at CW
  obtain ⟨c, blk, wv⟩ := m
  obtain ⟨kind, view, int, text, bytes, words, base, from_, len, ext, need⟩ := c
  simp only at hv hk hl CW CF hc hw
  subst hv
  obtain ⟨aw, cw, rfl⟩ := Row_form hw
  clear h hm hM
  go_enter Try.func41, Try.ntmps41
  go_upto_region 2 with (go_at_call 88; (with_reducible refine CF.out.mono ?_); rintro e w1 ⟨rfl, rfl⟩)
  obtain ⟨b, hb⟩ : ∃ b, b = w.heap.size := ⟨_, rfl⟩
  have hb1 : b < (w.alloc (.cells #[.int .i64 0, .bool false, .int .i64 0, .string noText, .slice none 0 0, .slice none 0 0, .int .u64 0, .int .i64 0, .int .i64 0] 60)).heap.size := by rw [hb]; simp
  rw [← hb] at hr
  simp only [← hb]
  generalize (w.alloc (.cells #[.int .i64 0, .bool false, .int .i64 0, .string noText, .slice none 0 0, .slice none 0 0, .int .u64 0, .int .i64 0, .int .i64 0] 60)) = W1 at hr hc hw e1 hb1 CF ⊢
  have HB := Mem.Aside.mk hb
  have HE := Mem.Aside.mk e1
  have HR := Mem.Aside.mk hr
  have CL := Mem.Aside.mk (fun (W2 : World) (hc2 : Chg [] W1 W2) => clone64 (hw.chg hc2 (by simp)) hl)
  have HC := Mem.Aside.mk hc
  have HB1 := Mem.Aside.mk hb1
  have k0 := hc.cellAt (i := 0) rfl
  have k1 := hc.cellAt (i := 1) rfl
  have k2 := hc.cellAt (i := 2) rfl
  have k3 := hc.cellAt (i := 3) rfl
  have k4 := hc.cellAt (i := 4) rfl
  have k5 := hc.cellAt (i := 5) rfl
  have k6 := hc.cellAt (i := 6) rfl
  have k7 := hc.cellAt (i := 7) rfl
  have k8 := hc.cellAt (i := 8) rfl
  have k5a := (hc.alloc (.cells #[.int .i64 kind, .bool false, .int .i64 int, .string text, .slice none 0 0, .slice aw words.length cw, .int .u64 (base : Int), .int .i64 from_, .int .i64 len] 60)).cellAt (i := 5) rfl
  clear hb hb1 hr e1 hw hc
  go_upto_region 5 with fail
  go_upto_region 6 with (go_at_call 84; (with_reducible refine (CL.out _ ((Chg.refl [] W1).alloc _)).mono ?_); rintro e w2 ⟨v2, rfl, hR2, hc2, ho2⟩; obtain ⟨a2, c2, rfl⟩ := Row_form hR2; have HR2 := Mem.Aside.mk hR2; have HC2 := Mem.Aside.mk hc2; have HO2 := Mem.Aside.mk ho2; clear hR2 hc2 ho2; have hN : Blk w2 W1.heap.size 60 [.int .i64 kind, .bool false, .int .i64 int, .string text, .slice none 0 0, .slice aw words.length cw, .int .u64 (base : Int), .int .i64 from_, .int .i64 len] := (Blk.newL [_, _, _, _, _, _, _, _, _] rfl).chg HC2.out (by simp); have f5 := hN.cellAt (i := 5) rfl; have fz5 := hN.frozen 5; have HN := Mem.Aside.mk hN; clear hN)
  obtain ⟨y, hy⟩ : ∃ y, y = W1.heap.size := ⟨_, rfl⟩
  have hby : b ≠ y := by have := HB1.out; omega
  have hyb : y ≠ b := fun e => hby e.symm
  have hly : blk ≠ y := by have := HC.out.lt; omega
  have hN := HN.out
  rw [← hy] at hN
  simp only [← hy]
  have n3 : Blk (w2.setCell ⟨y, 5, none⟩ (.slice a2 words.length c2)) y 60 [.int .i64 kind, .bool false, .int .i64 int, .string text, .slice none 0 0, .slice a2 words.length c2, .int .u64 (base : Int), .int .i64 from_, .int .i64 len] := hN.set 5 _
  have b3 : Blk (w2.setCell ⟨y, 5, none⟩ (.slice a2 words.length c2)) b 60 [.int .i64 0, .bool false, .int .i64 0, .string noText, .slice none 0 0, .slice none 0 0, .int .u64 0, .int .i64 0, .int .i64 0] := ((HR.out.alloc _).chg HC2.out (by simp)).far (p := ⟨y, 5, none⟩) hby _
  have l3 : Blk (w2.setCell ⟨y, 5, none⟩ (.slice a2 words.length c2)) blk 136 (celV ⟨kind, false, int, text, bytes, words, base, from_, len, ext, need⟩ (.slice aw words.length cw)) := ((HC.out.alloc _).chg HC2.out (by simp)).far (p := ⟨y, 5, none⟩) hly _
  have r3 : Row (w2.setCell ⟨y, 5, none⟩ (.slice a2 words.length c2)) 22 1 (.slice a2 words.length c2) words.length (u64V words) := HR2.out.farCell (p := ⟨y, 5, none⟩) (fun e => by
    obtain ⟨ds, hd⟩ := HR2.out.typed e
    exact absurd (hd.inj hN).1 (by decide)) _
  have e3 : Chg [] w (w2.setCell ⟨y, 5, none⟩ (.slice a2 words.length c2)) := (((HE.out.alloc _).then HC2.out (by simp)).setCell (p := ⟨y, 5, none⟩) (.inr (by have := HE.out.size; show w.heap.size ≤ y; omega)) _)
  generalize w2.setCell ⟨y, 5, none⟩ (.slice a2 words.length c2) = W3 at n3 b3 l3 r3 e3 ⊢
  clear hy hN f5 fz5 k0 k1 k2 k3 k4 k5 k6 k7 k8 k5a
  have k0 := l3.cellAt (i := 0) rfl
  have k1 := l3.cellAt (i := 1) rfl
  have n0 := n3.cellAt (i := 0) rfl
  have n1 := n3.cellAt (i := 1) rfl
  have n2 := n3.cellAt (i := 2) rfl
  have n3' := n3.cellAt (i := 3) rfl
  have n4 := n3.cellAt (i := 4) rfl
  have n5 := n3.cellAt (i := 5) rfl
  have n6 := n3.cellAt (i := 6) rfl
  have n7 := n3.cellAt (i := 7) rfl
  have n8 := n3.cellAt (i := 8) rfl
  have q0 := b3.cellAt (i := 0) rfl
  have q1 := b3.cellAt (i := 1) rfl
  have q2 := b3.cellAt (i := 2) rfl
  have q3 := b3.cellAt (i := 3) rfl
  have q4 := b3.cellAt (i := 4) rfl
  have q5 := b3.cellAt (i := 5) rfl
  have q6 := b3.cellAt (i := 6) rfl
  have q7 := b3.cellAt (i := 7) rfl
  have q8 := b3.cellAt (i := 8) rfl
  have z0 := b3.frozen 0
  have z1 := b3.frozen 1
  have z2 := b3.frozen 2
  have z3 := b3.frozen 3
  have z4 := b3.frozen 4
  have z5 := b3.frozen 5
  have z6 := b3.frozen 6
  have z7 := b3.frozen 7
  have z8 := b3.frozen 8
  have HF := Mem.Aside.mk (And.intro b3 (And.intro r3 e3))
  clear n3 b3 l3 r3 e3
  go_wp2_with (go_at_call 80; (with_reducible refine (CW.out _).mono ?_); rintro e w' ⟨rfl, rfl⟩)
  obtain ⟨d, hd1, hd2⟩ := underCell
  have hbF := ((((((((HF.out.1.set 0 (.int .i64 kind)).set 1 (.bool false)).set 2 (.int .i64 int)).set 3 (.string text)).set 4 (.slice none 0 0)).set 5 (.slice a2 words.length c2)).set 6 (.int .u64 (base : Int))).set 7 (.int .i64 from_)).set 8 (.int .i64 len)
  have hwb : w.heap.size ≤ b := by rw [HB.out]; exact Nat.le_refl _
  have hnb : ∀ i, (Value.slice a2 words.length c2).ownBlock ≠ some (⟨b, i, none⟩ : Addr).block := fun i e => by
    obtain ⟨ds, hd⟩ := HF.out.2.1.typed e
    exact absurd (hd.inj HF.out.1).1 (by decide)
  have hrF := ((((((((HF.out.2.1.farCell (hnb 0) (.int .i64 kind)).farCell (hnb 1) (.bool false)).farCell (hnb 2) (.int .i64 int)).farCell (hnb 3) (.string text)).farCell (hnb 4) (.slice none 0 0)).farCell (hnb 5) (.slice a2 words.length c2)).farCell (hnb 6) (.int .u64 (base : Int))).farCell (hnb 7) (.int .i64 from_)).farCell (hnb 8) (.int .i64 len)
  have hcF := ((((((((HF.out.2.2.setCell (p := ⟨b, 0, none⟩) (.inr hwb) (.int .i64 kind)).setCell (p := ⟨b, 1, none⟩) (.inr hwb) (.bool false)).setCell (p := ⟨b, 2, none⟩) (.inr hwb) (.int .i64 int)).setCell (p := ⟨b, 3, none⟩) (.inr hwb) (.string text)).setCell (p := ⟨b, 4, none⟩) (.inr hwb) (.slice none 0 0)).setCell (p := ⟨b, 5, none⟩) (.inr hwb) (.slice a2 words.length c2)).setCell (p := ⟨b, 6, none⟩) (.inr hwb) (.int .u64 (base : Int))).setCell (p := ⟨b, 7, none⟩) (.inr hwb) (.int .i64 from_)).setCell (p := ⟨b, 8, none⟩) (.inr hwb) (.int .i64 len)
  refine bodyPost_ret (results_row_tmp rfl rfl hbF hd1 hd2 (by kernel_rfl)) rfl ⟨.slice a2 words.length c2, rfl, hrF, hcF, fun g hg => ?_⟩
  have h1 := HO2.out g hg
  have h2 := HE.out.size
  have h3 : W1.heap.size ≤ (W1.alloc (.cells #[.int .i64 kind, .bool false, .int .i64 int, .string text, .slice none 0 0, .slice aw words.length cw, .int .u64 (base : Int), .int .i64 from_, .int .i64 len] 60)).heap.size := ((Chg.refl [] W1).alloc _).size
  omega
end
end Go.Proofs.Ytgimcpnelogadaa.Hp
