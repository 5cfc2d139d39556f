/- Chapter 6: Put of what has no bytes. -/
import Derived.Test.YtgimcpnelogadaaHpH
import Derived.Test.YtgimcpnelogadaaHpI
namespace Go.Proofs.Ytgimcpnelogadaa.Hp
open Go.RowKit Go.Proofs.Ytgimcpnelogadaa.Mem Go.Proofs.Ytgimcpnelogadaa.Sto Go.Proofs.Ytgimcpnelogadaa.Wd
set_option linter.unusedVariables false
set_option linter.unusedSimpArgs false
attribute [local go_sem] Option.isNone_some Option.isNone_none

theorem elemPtr : Elem Try.prog 134 1 8 (.pointer none) := Elem.of (by kernel_rfl) rfl (by intro v hv; simp [Value.cells] at hv; subst hv; rfl) (by decide)
theorem needN_pos (v : Bool) (k : Int) (a b c : Nat) : 1 ≤ needN v k a b c := by unfold needN; repeat (first | omega | split)
theorem used_ge_len : ∀ {M : List (Option MC)}, (∀ j : Nat, M[j]? ≠ some none) → (∀ m, some m ∈ M → 1 ≤ m.c.need) → M.length ≤ usedOf M
  | [], _, _ => by simp
  | none :: M, h, _ => absurd rfl (h 0)
  | some m :: M, h, h2 => by
    have ih := used_ge_len (M := M) (fun j => by have := h (j + 1); simpa using this) (fun x hx => h2 x (List.mem_cons_of_mem _ hx))
    have := h2 m (List.mem_cons_self ..)
    unfold usedOf at ih ⊢
    simp only [List.length_cons, List.map_cons, List.sum_cons]
    omega
/-- A heap of the cells M. -/
structure HeapIs (w : World) (p units : Nat) (M : List (Option MC)) (G : List Nat) : Prop where
  ex : ∃ cv rp F most, HeapAt w p units (usedOf M) M cv rp F most ∧ most ≤ 8 * units ∧ G = hfoot p cv M F
/-- B marks what is reached. -/
def Marks (M : List (Option MC)) (R : List Nat) (B : List Bool) : Prop := B.length = M.length ∧ ∀ n, B.getD n false = true ↔ Rch (celsOf M) R n
theorem placed_foot {p n B : Nat} {M M' : List (Option MC)} {m : MC} {cv cv' : Value} {F : List Nat} (hP : Placed M n m M') (hcv : ∀ g, cv'.ownBlock = some g → cv.ownBlock = some g ∨ B ≤ g) (hb : B ≤ m.blk) (hw : ∀ g, m.wv.ownBlock = some g → B ≤ g) : ∀ k ∈ hfoot p cv' M' F, k ∈ hfoot p cv M F ∨ B ≤ k := by
  intro k hk
  rcases mem_hfoot.1 hk with e | e | ⟨x, hx, e⟩ | ⟨x, hx, e⟩ | e
  · exact .inl (mem_hfoot.2 (.inl e))
  · exact (hcv k e).imp (fun h => mem_hfoot.2 (.inr (.inl h))) id
  · rcases hP.mem.1 hx with rfl | hx
    · exact .inr (e ▸ hb)
    · exact .inl (mem_hfoot.2 (.inr (.inr (.inl ⟨x, hx, e⟩))))
  · rcases hP.mem.1 hx with rfl | hx
    · exact .inr (hw k e)
    · exact .inl (mem_hfoot.2 (.inr (.inr (.inr (.inl ⟨x, hx, e⟩)))))
  · exact .inl (mem_hfoot.2 (.inr (.inr (.inr (.inr e)))))
section
variable {w w' : World} {p units used rp most : Nat} {M : List (Option MC)} {cv : Value} {F : List Nat}

set_option maxHeartbeats 16000000 in
set_option maxRecDepth 100000 in
theorem put_plain (h : HeapAt w p units (usedOf M) M cv rp F most) (hM : WordsOk M) (hext : ∀ m, some m ∈ M → m.c.ext ≤ 1000000000 ∧ 1 ≤ m.c.need) (c : Cel) (hv : c.view = false) (hk : widthN c.kind = 0) (htx : c.text.size ≤ 1000000000) {wv : Value} (hwr : Row w 22 1 wv c.words.length (u64V c.words))
    (hwl : c.words.length ≤ 1048576) (hwx : ∀ x ∈ c.words, x < 18446744073709551616) (hws : ∀ g, wv.ownBlock = some g → g ∉ hfoot p cv M F) (hbase : c.base < 18446744073709551616) (hbs : c.bytes = []) (hex : c.ext = 0) (hneed : c.need = needN false c.kind c.text.size 0 c.words.length) (hnd : c.need ≤ 2000000000)
    {rv : Value} {rs : List Nat} (hr : Row w 22 1 rv rs.length (u64V rs)) (hrl : rs.length ≤ 1000000000) (hrx : ∀ x ∈ rs, x < 18446744073709551616)
    (hR : ∀ W, Chg [] w W → Calls Try.prog 81 #[.pointer (some ⟨p, 0, none⟩), argV c (.slice none 0 0) wv] W fun e w' => e = .returned (.bool true) ∧ Chg [] W w') :
    Calls Try.prog 39 #[.pointer (some ⟨p, 0, none⟩), argV c (.slice none 0 0) wv, rv] w fun e w' =>
      (∃ M5, ((usedOf M + c.need ≤ units ∧ M5 = M) ∨ (units < usedOf M + c.need ∧ ∃ B, Marks M (rs ++ (c.words ++ [c.base])) B ∧ M5 = swK B M.length M ∧ unitsOf (celsOf M) B + c.need ≤ units)) ∧
        ∃ n m M' cv', m.c = c ∧ Placed M5 n m M' ∧ e = .returned (.tuple #[.int .u64 (hw n : Nat), .int .i64 0]) ∧ HeapAt w' p units (usedOf M') M' cv' rp F most ∧ Chg (hfoot p cv M F) w w' ∧ ∀ k ∈ hfoot p cv' M' F, k ∈ hfoot p cv M F ∨ w.heap.size ≤ k) ∨
      (units < usedOf M + c.need ∧ ∃ B, Marks M (rs ++ (c.words ++ [c.base])) B ∧ units < unitsOf (celsOf M) B + c.need ∧ e = .returned (.tuple #[.int .u64 0, .int .i64 40]) ∧ HeapAt w' p units (usedOf (swK B M.length M)) (swK B M.length M) cv rp F most ∧ Chg (hfoot p cv M F) w w') := by
  obtain ⟨aw, cw, rfl⟩ := Row_form hwr
  obtain ⟨ar, cr, rfl⟩ := Row_form hr
  obtain ⟨kind, view, int, text, bytes, words, base, from_, len, ext, need⟩ := c
  simp only [argV] at *
  subst hv hbs hex
  have H := Mem.Aside.mk h
  have HMW := Mem.Aside.mk hM
  have HWS := Mem.Aside.mk hws
  have HEXT := Mem.Aside.mk hext
  have HW := Mem.Aside.mk hwr
  have HR := Mem.Aside.mk hr
  have HWX := Mem.Aside.mk (And.intro hwl (And.intro hwx (And.intro hbase (And.intro hrl hrx))))
  have HND := Mem.Aside.mk (And.intro hneed hnd)
  have hsm := h.small
  obtain ⟨b, hb⟩ : ∃ b, b = w.heap.size := ⟨_, rfl⟩
  have CR := Mem.Aside.mk (hR (w.alloc (.cells #[.int .i64 kind, .bool false, .int .i64 int, .string text, .slice none 0 0, .slice aw words.length cw, .int .u64 (base : Int), .int .i64 from_, .int .i64 len] 60)) ((Chg.refl [] w).alloc _))
  have CN := Mem.Aside.mk (need_calls kind false int text none aw 0 0 words.length cw base from_ len (by omega) (by omega) (by omega))
  rw [← hneed] at CN
  have CW := Mem.Aside.mk (width_calls kind)
  have HKW := Mem.Aside.mk hk
  rw [hk, show ((0 : Nat) : Int) = 0 from rfl] at CW
  have hCB : Blk (w.alloc (.cells #[.int .i64 kind, .bool false, .int .i64 int, .string text, .slice none 0 0, .slice aw words.length cw, .int .u64 (base : Int), .int .i64 from_, .int .i64 len] 60)) b 60 [.int .i64 kind, .bool false, .int .i64 int, .string text, .slice none 0 0, .slice aw words.length cw, .int .u64 (base : Int), .int .i64 from_, .int .i64 len] := by rw [hb]; exact Blk.newL [_, _, _, _, _, _, _, _, _] rfl
  have HCB := Mem.Aside.mk hCB
  have HCA := Mem.Aside.mk ((Chg.refl [] w).alloc (.cells #[.int .i64 kind, .bool false, .int .i64 int, .string text, .slice none 0 0, .slice aw words.length cw, .int .u64 (base : Int), .int .i64 from_, .int .i64 len] 60))
  have HBB := Mem.Aside.mk hb
  clear h hM hext hws hwr hr hwl hwx hbase hneed hnd hrl hrx hR hk htx hCB
  go_enter Try.func39, Try.ntmps39
  go_upto_region 4 with (first
    | (go_at_call 81; (with_reducible refine CR.out.mono ?_); rintro e w1 ⟨rfl, hc1⟩; have HC1 := Mem.Aside.mk (HCA.out.then hc1 (by simp)); have HB1 := Mem.Aside.mk (HCB.out.chg hc1 (by simp)); have b0 := HB1.out.cellAt (i := 0) rfl; have b1 := HB1.out.cellAt (i := 1) rfl; have b2 := HB1.out.cellAt (i := 2) rfl; have b3 := HB1.out.cellAt (i := 3) rfl; have b4 := HB1.out.cellAt (i := 4) rfl; have b5 := HB1.out.cellAt (i := 5) rfl; have b6 := HB1.out.cellAt (i := 6) rfl; have b7 := HB1.out.cellAt (i := 7) rfl; have b8 := HB1.out.cellAt (i := 8) rfl; rw [hb] at b0 b1 b2 b3 b4 b5 b6 b7 b8; clear hc1)
    | (go_at_call 36; (with_reducible refine (CN.out _).mono ?_); rintro e w2 ⟨rfl, hc2⟩; have HC2 := Mem.Aside.mk (HC1.out.then hc2 (by simp)); have HB2 := Mem.Aside.mk (HB1.out.chg hc2 (by simp)); clear hc2))
  simp only [← hb]
  clear b0 b1 b2 b3 b4 b5 b6 b7 b8 hb
  have hW2 := H.out.chg HC2.out (by simp)
  have c0 := hW2.top.cellAt (i := 0) rfl
  have c1 := hW2.top.cellAt (i := 1) rfl
  obtain ⟨U, hU⟩ : ∃ U, U = usedOf M := ⟨_, rfl⟩
  rw [← hU] at c1
  have HU := Mem.Aside.mk hU
  have hUu : U ≤ units := by rw [hU]; exact hsm.2.1
  have hnd := HND.out.2
  have hwsum : IntKind.i64.wrap ((U : Int) + (need : Int)) = (U : Int) + (need : Int) := IntWalk.i64_in _ (by omega)
  clear hU
  by_cases fit : U + need ≤ units
  case' pos =>
    have g1 : ¬ (units : Int) < (U : Int) + (need : Int) := by omega
    have g2 : decide ((units : Int) < (U : Int) + (need : Int)) = false := decide_eq_false g1
    have g3 : (U : Int) + (need : Int) ≤ (units : Int) := by omega
    refine region_tail 10 (by kernel_rfl) (by kernel_rfl) ?_
    simp only [List.take_succ_cons, List.take_zero, List.drop_succ_cons, List.drop_zero]
    refine StW.out ?_
    iterate 10 (refine still_take (by rfl) (fun K hK => ?_); go_simp; refine hK _ ?_; clear hK K)
    refine still_end ?_
    go_upto_region 9 with fail
    obtain ⟨M5, H5, hfit, HL5, hl5, HSUB⟩ : ∃ M5, Mem.Aside (HeapAt w2.drew p units (usedOf M5) M5 cv rp F most) ∧ usedOf M5 + need ≤ units ∧ Mem.Aside (((usedOf M + need ≤ units ∧ M5 = M) ∨ (units < usedOf M + need ∧ ∃ B, Marks M (rs ++ (words ++ [base])) B ∧ M5 = swK B M.length M ∧ unitsOf (celsOf M) B + need ≤ units))) ∧ Mem.Aside (M5.length = M.length) ∧ Mem.Aside (∀ k ∈ hfoot p cv M5 F, k ∈ hfoot p cv M F) := ⟨M, ⟨hW2.chg (Chg.refl [] w2).drew (by simp)⟩, by rw [← HU.out]; exact fit, ⟨.inl ⟨by rw [← HU.out]; exact fit, rfl⟩⟩, ⟨rfl⟩, ⟨fun k hk => hk⟩⟩
    have HC5 : Mem.Aside (Chg (hfoot p cv M F) w w2.drew) := ⟨(HC2.out.mono (by simp)).drew⟩
    have HB5 := Mem.Aside.mk HB2.out.drew
    generalize w2.drew = w5 at H5 HC5 HB5 ⊢
  case' neg =>
    have g1 : (units : Int) < (U : Int) + (need : Int) := by omega
    have g2 : decide ((units : Int) < (U : Int) + (need : Int)) = true := decide_eq_true g1
    refine region_tail 10 (by kernel_rfl) (by kernel_rfl) ?_
    simp only [List.take_succ_cons, List.take_zero, List.drop_succ_cons, List.drop_zero]
    refine StW.out ?_
    iterate 10 (refine still_take (by rfl) (fun K hK => ?_); go_simp; refine hK _ ?_; clear hK K)
    refine still_end ?_
    have d5 := HB2.out.drew.cellAt (i := 5) rfl
    have d6 := HB2.out.drew.cellAt (i := 6) rfl
    have hc3 : Chg [] w ((w2.alloc (.cells #[.int .u64 (base : Int)] 22)).alloc (.cells #[.slice ar rs.length cr, .slice aw words.length cw, .slice (some ⟨w2.heap.size, 0, none⟩) 1 1] 58)).drew := ((HC2.out.alloc _).alloc _).drew
    have hL : Lists ((w2.alloc (.cells #[.int .u64 (base : Int)] 22)).alloc (.cells #[.slice ar rs.length cr, .slice aw words.length cw, .slice (some ⟨w2.heap.size, 0, none⟩) 1 1] 58)).drew (.slice (some ⟨w2.heap.size + 1, 0, none⟩) 3 3) [(.slice ar rs.length cr, rs), (.slice aw words.length cw, words), (.slice (some ⟨w2.heap.size, 0, none⟩) 1 1, [base])] := by
      have hwx := HWX.out
      refine ⟨Row.mk (rest := []) ((Blk.newL [_, _, _] (by simp)).drew) rfl (Nat.le_refl _) (by decide) rfl, fun q hq => ?_, fun q hq => ?_, by simp⟩
      · simp only [List.mem_cons, List.not_mem_nil, or_false] at hq
        rcases hq with rfl | rfl | rfl
        · exact HR.out.chg hc3 (by simp)
        · exact HW.out.chg hc3 (by simp)
        · exact ((Row.mk (rest := []) (Blk.newL [.int .u64 (base : Int)] rfl) rfl (Nat.le_refl _) (by decide) rfl : Row (w2.alloc (.cells #[.int .u64 (base : Int)] 22)) 22 1 (.slice (some ⟨w2.heap.size, 0, none⟩) 1 1) 1 [.int .u64 (base : Int)]).alloc _).drew
      · simp only [List.mem_cons, List.not_mem_nil, or_false] at hq
        rcases hq with rfl | rfl | rfl
        · exact ⟨hwx.2.2.2.1, hwx.2.2.2.2⟩
        · exact ⟨by have := hwx.1; simp only; omega, hwx.2.1⟩
        · exact ⟨by simp, fun x hx => by simp at hx; subst hx; exact hwx.2.2.1⟩
    have CRE := Mem.Aside.mk (reached_calls (H.out.chg hc3 (by simp)) HMW.out hL)
    simp only [List.flatMap_cons, List.flatMap_nil, List.append_nil] at CRE
    have HC3 := Mem.Aside.mk hc3
    clear hL hc3 hW2 c0 c1
    go_upto_region 6 with (go_at_call 82; (with_reducible refine CRE.out.mono ?_); rintro e w4 ⟨mv, B, rfl, hBl, hBr, hBm, hc4, hBf⟩; obtain ⟨am, cm, rfl⟩ := Row_form hBr; have HMARK : Mem.Aside (Marks M (rs ++ (words ++ [base])) B) := ⟨⟨hBl, hBm⟩⟩; have HC4 := Mem.Aside.mk (HC3.out.then hc4 (by simp)); have CS := Mem.Aside.mk (sweep_calls (H.out.chg HC4.out (by simp)) hBl hBr (fun g hg hm => by have := H.out.lt g hm; have := hBf g hg; have := HC3.out.size; omega) (fun m hm => (HEXT.out m hm).1)); have HCB4 := Mem.Aside.mk ((((HB2.out.alloc _).alloc _).drew).chg hc4 (by simp)); clear hBl hBr hBm hc4 hBf)
    obtain ⟨UB, hUB⟩ : ∃ UB, UB = unitsOf (celsOf M) B := ⟨_, rfl⟩
    rw [← hUB]
    have hUBle : UB ≤ U := by rw [hUB, HU.out]; exact units_le M B
    have HUB := Mem.Aside.mk hUB
    clear hUB
    have hwub : IntKind.i64.wrap ((UB : Int) + (need : Int)) = (UB : Int) + (need : Int) := IntWalk.i64_in _ (by omega)
    go_upto_region 7 with (go_at_call 83; (with_reducible refine CS.out.mono ?_); rintro e w5 ⟨rfl, h5, hc5⟩; have H5 := Mem.Aside.mk h5; have HC5 := Mem.Aside.mk ((HC4.out.mono (F := []) (G := hfoot p cv M F) (by simp)).then hc5 (fun x hx => .inl hx)); have e0 := h5.top.cellAt (i := 0) rfl; have HB5 := Mem.Aside.mk (HCB4.out.chg hc5 (fun hm => by have := H.out.lt _ hm; have := HBB.out; omega)); clear h5 hc5)
    by_cases fit2 : UB + need ≤ units
    case' neg =>
      have g4 : (units : Int) < (UB : Int) + (need : Int) := by omega
      have g5 : decide ((units : Int) < (UB : Int) + (need : Int)) = true := decide_eq_true g4
      go_wp2
      go_ret2
      exact .inr ⟨by rw [← HU.out]; omega, B, HMARK.out, by rw [← HUB.out]; omega, rfl, H5.out, HC5.out⟩
    case' pos =>
      have g4 : ¬ (units : Int) < (UB : Int) + (need : Int) := by omega
      have g5 : decide ((units : Int) < (UB : Int) + (need : Int)) = false := decide_eq_false g4
      go_upto_region 9 with fail
      have H5' := H5
      have hfit2 : usedOf (swK B M.length M) + need ≤ units := by rw [sw_used, ← HUB.out]; exact fit2
      clear H5
      obtain ⟨M5, H5, hfit, HL5, hl5, HSUB⟩ : ∃ M5, Mem.Aside (HeapAt w5 p units (usedOf M5) M5 cv rp F most) ∧ usedOf M5 + need ≤ units ∧ Mem.Aside (((usedOf M + need ≤ units ∧ M5 = M) ∨ (units < usedOf M + need ∧ ∃ B, Marks M (rs ++ (words ++ [base])) B ∧ M5 = swK B M.length M ∧ unitsOf (celsOf M) B + need ≤ units))) ∧ Mem.Aside (M5.length = M.length) ∧ Mem.Aside (∀ k ∈ hfoot p cv M5 F, k ∈ hfoot p cv M F) := ⟨swK B M.length M, ⟨H5'.out⟩, hfit2, ⟨.inr ⟨by rw [← HU.out]; omega, B, HMARK.out, rfl, by rw [← HUB.out]; exact fit2⟩⟩, ⟨swK_length _ _ _⟩, ⟨hfoot_sub fun x hx => sw_mem hx⟩⟩
  all_goals
    have d0 := HB5.out.cellAt (i := 0) rfl
    have d1 := HB5.out.cellAt (i := 1) rfl
    have d2 := HB5.out.cellAt (i := 2) rfl
    have d3 := HB5.out.cellAt (i := 3) rfl
    have d4 := HB5.out.cellAt (i := 4) rfl
    have d5 := HB5.out.cellAt (i := 5) rfl
    have d6 := HB5.out.cellAt (i := 6) rfl
    have d7 := HB5.out.cellAt (i := 7) rfl
    have d8 := HB5.out.cellAt (i := 8) rfl
    go_upto_region 10 with fail
    obtain ⟨xb, hxb⟩ : ∃ xb, xb = w5.heap.size := ⟨_, rfl⟩
    have hbx : Blk (w5.alloc (.cells #[.int .i64 kind, .bool false, .int .i64 int, .string text, .slice none 0 0, .slice aw words.length cw, .int .u64 (base : Int), .int .i64 from_, .int .i64 len, .int .i64 0, .int .i64 (need : Int)] 136)) xb 136 [.int .i64 kind, .bool false, .int .i64 int, .string text, .slice none 0 0, .slice aw words.length cw, .int .u64 (base : Int), .int .i64 from_, .int .i64 len, .int .i64 0, .int .i64 (need : Int)] := by rw [hxb]; exact Blk.newL [_, _, _, _, _, _, _, _, _, _, _] rfl
    simp only [← hxb]
    have hsz5 : w.heap.size ≤ w5.heap.size := HC5.out.size
    have HXB : Mem.Aside (xb = w5.heap.size ∧ w.heap.size ≤ xb) := ⟨hxb, by omega⟩
    have e1 : Chg [] w5 (w5.alloc (.cells #[.int .i64 kind, .bool false, .int .i64 int, .string text, .slice none 0 0, .slice aw words.length cw, .int .u64 (base : Int), .int .i64 from_, .int .i64 len, .int .i64 0, .int .i64 (need : Int)] 136)) := (Chg.refl [] w5).alloc _
    have hbb : Blk (w5.alloc (.cells #[.int .i64 kind, .bool false, .int .i64 int, .string text, .slice none 0 0, .slice aw words.length cw, .int .u64 (base : Int), .int .i64 from_, .int .i64 len, .int .i64 0, .int .i64 (need : Int)] 136)) b 60 [.int .i64 kind, .bool false, .int .i64 int, .string text, .slice none 0 0, .slice aw words.length cw, .int .u64 (base : Int), .int .i64 from_, .int .i64 len] := HB5.out.alloc _
    generalize w5.alloc (.cells #[.int .i64 kind, .bool false, .int .i64 int, .string text, .slice none 0 0, .slice aw words.length cw, .int .u64 (base : Int), .int .i64 from_, .int .i64 len, .int .i64 0, .int .i64 (need : Int)] 136) = W6 at hbx e1 hbb ⊢
    have hrw : Row W6 22 1 (.slice aw words.length cw) words.length (u64V words) := (HW.out.chg HC5.out (fun g hg => HWS.out g hg)).chg e1 (by simp)
    have CL := Mem.Aside.mk (clone64 hrw (by have := HWX.out.1; omega))
    have E1 := Mem.Aside.mk e1
    have HBX := Mem.Aside.mk hbx
    have f4 := hbx.cellAt (i := 4) rfl
    have d0 := hbb.cellAt (i := 0) rfl
    have d1 := hbb.cellAt (i := 1) rfl
    have d5 := hbb.cellAt (i := 5) rfl
    have HBBx := Mem.Aside.mk hbb
    clear hxb hsz5 hrw e1 hbx hbb d2 d3 d4 d6 d7 d8
    have hbx1 : b ≠ xb := by have := HBB.out; have := HB5.out.lt; have := HXB.out; omega
    have hbx2 : xb ≠ b := fun e => hbx1 e.symm
    go_upto_region 11 with (go_at_call 84; (with_reducible refine CL.out.mono ?_); rintro e w7 ⟨v7, rfl, hR7, hc7, ho7⟩; have HR7 := Mem.Aside.mk hR7; have HC7 := Mem.Aside.mk hc7; have HO7 := Mem.Aside.mk ho7; have hx7 := HBX.out.chg hc7 (by simp); have hb7 := HBBx.out.chg hc7 (by simp); have f5 := hx7.cellAt (i := 5) rfl; have f4' := hx7.cellAt (i := 4) rfl; have z5 := hx7.frozen 5; have z4 := hx7.frozen 4; have d0' := hb7.cellAt (i := 0) rfl; have d1' := hb7.cellAt (i := 1) rfl; obtain ⟨a7, c7, rfl⟩ := Row_form hR7; clear hR7 hc7 ho7)
    go_upto_region 15 with (go_at_call 80; (with_reducible refine (CW.out _).mono ?_); rintro e w' ⟨rfl, rfl⟩)
    have hx8 : Blk ((w7.setCell ⟨xb, 5, none⟩ (.slice a7 words.length c7)).setCell ⟨xb, 4, none⟩ (.slice none 0 0)) xb 136 (celV ⟨kind, false, int, text, [], words, base, from_, len, 0, need⟩ (.slice a7 words.length c7)) := (hx7.set 5 _).set 4 _
    have tyx : ∀ {j : Nat} {t : TypeId} {cs : List Value}, t ≠ 136 → Blk w7 j t cs → j ≠ xb := fun ht hb e => by
      rw [e] at hb
      exact ht (hb.inj hx7).1
    have hr8 : Row ((w7.setCell ⟨xb, 5, none⟩ (.slice a7 words.length c7)).setCell ⟨xb, 4, none⟩ (.slice none 0 0)) 22 1 (.slice a7 words.length c7) words.length (u64V words) := (HR7.out.farCell (p := ⟨xb, 5, none⟩) (fun e => by
        obtain ⟨ds, hd⟩ := HR7.out.typed e
        exact tyx (by decide) hd rfl) _).farCell (p := ⟨xb, 4, none⟩) (fun e => by
        obtain ⟨ds, hd⟩ := HR7.out.typed e
        exact tyx (by decide) hd rfl) _
    have e8 : Chg [] w5 ((w7.setCell ⟨xb, 5, none⟩ (.slice a7 words.length c7)).setCell ⟨xb, 4, none⟩ (.slice none 0 0)) := (((E1.out.then HC7.out (by simp)).setCell (p := ⟨xb, 5, none⟩) (.inr (by show w5.heap.size ≤ xb; rw [HXB.out.1]; exact Nat.le_refl _)) _).setCell (p := ⟨xb, 4, none⟩) (.inr (by show w5.heap.size ≤ xb; rw [HXB.out.1]; exact Nat.le_refl _)) _)
    have hw78 : w7.heap.size = ((w7.setCell ⟨xb, 5, none⟩ (.slice a7 words.length c7)).setCell ⟨xb, 4, none⟩ (.slice none 0 0)).heap.size := by simp [World.setCell]
    generalize (w7.setCell ⟨xb, 5, none⟩ (.slice a7 words.length c7)).setCell ⟨xb, 4, none⟩ (.slice none 0 0) = W8 at hx8 hr8 e8 hw78 ⊢
    have h8 := H5.out.chg e8 (by simp)
    obtain ⟨U5, hU5⟩ : ∃ U5, U5 = usedOf M5 := ⟨_, rfl⟩
    have c1 := h8.top.cellAt (i := 1) rfl
    have fz1 := h8.top.frozen 1
    rw [← hU5] at c1 hfit
    have hwu5 : IntKind.i64.wrap ((U5 : Int) + (need : Int)) = (U5 : Int) + (need : Int) := IntWalk.i64_in _ (by omega)
    have hpx : p ≠ xb := fun e => by have := H5.out.top.lt; have := HXB.out.1; omega
    have hpx' : xb ≠ p := fun e => hpx e.symm
    have HU5 := Mem.Aside.mk hU5
    have HX8 := Mem.Aside.mk (And.intro hx8 (And.intro hr8 (And.intro e8 h8)))
    have HW78 := Mem.Aside.mk hw78
    clear hU5 hw78 tyx hx7 hb7 f5 f4' z5 z4 d0' d1' f4 d0 d1 d5
    go_upto_region 16 with fail
    have top9 := h8.top.set 1 (.int .i64 ((U5 : Int) + (need : Int)))
    have e9 : Chg [p] w5 (W8.setCell ⟨p, 1, none⟩ (.int .i64 ((U5 : Int) + (need : Int)))) := (e8.mono (by simp)).setCell (p := ⟨p, 1, none⟩) (.inl (by simp)) _
    have ep : Chg [p] W8 (W8.setCell ⟨p, 1, none⟩ (.int .i64 ((U5 : Int) + (need : Int)))) := (Chg.refl _ W8).setCell (p := ⟨p, 1, none⟩) (.inl (by simp)) _
    have hx9 := hx8.chg ep (by simpa using hpx')
    have hr9 := hr8.chg ep (fun g hg hm => by
      simp at hm
      obtain ⟨ds, hd⟩ := hr8.typed hg
      rw [hm] at hd
      exact absurd (hd.inj h8.top).1 (by decide))
    have row9 := h8.row.chg ep (fun g hg hm => by
      simp at hm
      obtain ⟨ds, hd⟩ := h8.row.typed hg
      rw [hm] at hd
      exact absurd (hd.inj h8.top).1 (by decide))
    have raw9 := h8.raw.chg ep (fun k hk hm => by simp at hm; exact h8.apart k hk (by rw [hm]; simp))
    generalize W8.setCell ⟨p, 1, none⟩ (.int .i64 ((U5 : Int) + (need : Int))) = W9 at top9 e9 hx9 hr9 row9 raw9 ⊢
    obtain ⟨ac, cc, rfl⟩ := Row_form row9
    have c2 := top9.cellAt (i := 2) rfl
    have hM5 := h8.small
    have CI := Mem.Aside.mk (index_calls row9 (by omega))
    have H9 := Mem.Aside.mk (And.intro top9 (And.intro e9 (And.intro hx9 (And.intro hr9 (And.intro row9 raw9)))))
    have hxlow : w.heap.size ≤ xb := HXB.out.2
    clear top9 e9 ep hx9 hr9 row9 raw9 hx8 hr8 e8 h8 c1 fz1
    go_upto_region 17 with (go_at_call 86; (with_reducible refine CI.out.mono ?_); rintro e w10 ⟨⟨z, rfl, hz⟩, rfl⟩; have HZ := Mem.Aside.mk hz; clear hz)
    rcases HZ.out with ⟨i, rfl, hi1, hi2⟩ | ⟨rfl, hi2⟩
    · have hiL := (List.getElem?_eq_some_iff.1 hi1).1
      have hiL' : (i : Int) < (M5.length : Int) := by omega
      have hi0 : ¬ (i : Int) < 0 := by omega
      have hwi : IntKind.u64.wrap (i : Int) = (i : Int) := by rw [IntKind.wrap_u64]; omega
      obtain ⟨gc, capc, hcv, hcc⟩ := row_get1 H9.out.2.2.2.2.1 (i := i) (u := ptrV none) (by rw [List.getElem?_map, hi1]; rfl)
      cases hcv
      have fzc : W9.frozen? ⟨gc, i, none⟩ = false := by
        rcases H9.out.2.2.2.2.1.cases with ⟨h1, _⟩ | ⟨g', cap', rest, h1, hb, _⟩
        · cases h1
        · cases h1; exact hb.frozen i
      simp only [ptrV] at hcc
      have CF := Mem.Aside.mk (fromHandle_calls i (by omega))
      have HI := Mem.Aside.mk (And.intro hi1 hi2)
      clear hi1 hi2
      go_wp2_with (go_at_call 87; (with_reducible refine (CF.out _).mono ?_); rintro e w' ⟨rfl, rfl⟩)
      go_ret2
      have top9 := H9.out.1
      have tyc : ∀ {j : Nat} {t : TypeId} {cs : List Value}, t ≠ 134 → Blk W9 j t cs → j ≠ gc := fun ht hb e => by
        obtain ⟨ds, hd⟩ := H9.out.2.2.2.2.1.typed (g := gc) rfl
        rw [e] at hb
        exact ht (hb.inj hd).1
      have hP : Placed M5 i ⟨⟨kind, false, int, text, [], words, base, from_, len, 0, need⟩, xb, .slice a7 words.length c7⟩ (M5.set i (some ⟨⟨kind, false, int, text, [], words, base, from_, len, 0, need⟩, xb, .slice a7 words.length c7⟩)) := .set HI.out.1
      have eF : Chg [gc] W9 (W9.setCell ⟨gc, i, none⟩ (.pointer (some ⟨xb, 0, none⟩))) := (Chg.refl _ W9).setCell (p := ⟨gc, i, none⟩) (.inl (by simp)) _
      have row10 : Row (W9.setCell ⟨gc, i, none⟩ (.pointer (some ⟨xb, 0, none⟩))) 134 1 (.slice (some ⟨gc, 0, none⟩) M5.length cc) (M5.set i (some ⟨⟨kind, false, int, text, [], words, base, from_, len, 0, need⟩, xb, .slice a7 words.length c7⟩)).length ((M5.set i (some ⟨⟨kind, false, int, text, [], words, base, from_, len, 0, need⟩, xb, .slice a7 words.length c7⟩)).map ptrV) := by
        rw [List.length_set, map_set_ptr]
        exact row_set1 H9.out.2.2.2.2.1 hiL _
      have hgF : gc ∉ F := fun hF => H5.out.apart gc hF (by simp [Value.ownBlock])
      have hU' : usedOf M5 = U5 := HU5.out.symm
      have e10 : Chg [p, gc] w5 (W9.setCell ⟨gc, i, none⟩ (.pointer (some ⟨xb, 0, none⟩))) := (H9.out.2.1.mono (by simp)).then eF (fun x hx => .inl (by simp at hx; simp [hx]))
      have hown7 : ∀ g, (Value.slice a7 words.length c7).ownBlock = some g → w5.heap.size ≤ g := fun g hg => Nat.le_trans E1.out.size (HO7.out g hg)
      have hu' := hP.used
      simp only at hu'
      have hAP := H5.out.apart
      have htop : Blk (W9.setCell ⟨gc, i, none⟩ (.pointer (some ⟨xb, 0, none⟩))) p 130 [.int .i64 (units : Int), .int .i64 ((usedOf (M5.set i (some ⟨⟨kind, false, int, text, [], words, base, from_, len, 0, need⟩, xb, .slice a7 words.length c7⟩)) : Nat) : Int), .slice (some ⟨gc, 0, none⟩) M5.length cc, .pointer (some ⟨rp, 0, none⟩)] := by
        have := top9.far (p := ⟨gc, i, none⟩) (tyc (by decide) top9) (.pointer (some ⟨xb, 0, none⟩))
        rw [hu', hU', show ((U5 + need : Nat) : Int) = (U5 : Int) + (need : Int) by omega]
        exact this
      have hheap := H5.out.placed hP e10 (fun k hk => by
          simp only [List.mem_cons, List.not_mem_nil, or_false] at hk
          rcases hk with e | e
          · exact .inl e
          · exact .inr (.inl (by rw [e]; rfl))) htop row10 (by
          have hb3 := hP.blks.2.2
          have hnb : ¬ Cel.buf (⟨kind, false, int, text, [], words, base, from_, len, 0, need⟩ : Cel) = true := by unfold Cel.buf; rw [HKW.out]; simp
          rw [if_neg hnb] at hb3
          exact (H9.out.2.2.2.2.2.chg eF (fun k hk hm => by simp at hm; exact hgF (hm ▸ hk))).perm hb3.symm)
        (H9.out.2.2.1.far (p := ⟨gc, i, none⟩) (tyc (by decide) H9.out.2.2.1) _) (H9.out.2.2.2.1.farCell (p := ⟨gc, i, none⟩) (fun e => by
          obtain ⟨ds, hd⟩ := H9.out.2.2.2.1.typed e
          exact tyc (by decide) hd rfl) _) (by show w5.heap.size ≤ xb; rw [HXB.out.1]; exact Nat.le_refl _) hown7 (fun k hk => .inl hk) (fun k hk => ⟨fun e => hAP k hk (by rw [e]; simp), fun e => by have h1 := H5.out.raw.lt k hk; have h2 := HXB.out.1; simp only at e; omega, fun e => by have h1 := H5.out.raw.lt k hk; have h2 := hown7 k e; omega, fun e => hAP k hk (by simp only [List.mem_cons, List.mem_append, Option.mem_toList]; exact .inr (.inl e))⟩)
        (by rw [hu', hU']; exact hfit) (by rw [List.length_set]; exact hM5.2.2.1) hM5.2.2.2
      refine .inl ⟨M5, HL5.out, i, ⟨⟨kind, false, int, text, [], words, base, from_, len, 0, need⟩, xb, .slice a7 words.length c7⟩, _, _, rfl, hP, rfl, hheap, HC5.out.then e10 (fun x hx => .inl ?_), fun k hk => ?_⟩
      · simp only [List.mem_cons, List.not_mem_nil, or_false] at hx
        rcases hx with e | e
        · exact mem_hfoot.2 (.inl e)
        · exact mem_hfoot.2 (.inr (.inl (by rw [e]; rfl)))
      · rcases placed_foot (B := w.heap.size) hP (cv := .slice (some ⟨gc, 0, none⟩) M5.length cc) (fun g hg => .inl hg) hxlow (fun g hg => by have := hown7 g hg; have := HC5.out.size; omega) k hk with e | e
        · exact .inl (HSUB.out k e)
        · exact .inr e
    · have hlen := used_ge_len hi2 (fun m hm => (HEXT.out m (by
        rcases HL5.out with ⟨_, e⟩ | ⟨_, B', _, e, _⟩
        · rw [← e]; exact hm
        · rw [e] at hm; exact sw_mem hm)).2)
      have hnp : 1 ≤ need := by have := HND.out.1; rw [this]; exact needN_pos _ _ _ _ _
      rw [← HU5.out] at hlen
      have HI := Mem.Aside.mk (And.intro hi2 (And.intro hlen hnp))
      clear hi2 hlen hnp
      have top9 := H9.out.1
      have row9 := H9.out.2.2.2.2.1
      obtain ⟨v11, w11, hr11, hR11, hC11, hO11⟩ := (row9.alloc (.cells #[.pointer none] 134)).append (c := 1) Try.underlying128 elemPtr (m := 1) (news := [.pointer none]) (ad := ⟨W9.heap.size, 0, none⟩) rfl ((Blk.newL [.pointer none] rfl).from (fun j u hu => by rw [Nat.zero_add]; exact hu)) (by simp [Value.oneCell']) (by omega) (by omega)
      obtain ⟨g11, c11, hv11, _⟩ := row_get1 hR11 (i := M5.length) (u := .pointer none) (by rw [List.getElem?_append_right (by simp)]; simp)
      subst hv11
      have HRUN := Mem.Aside.mk hr11
      have hgF0 : ∀ g, (Value.slice ac M5.length cc).ownBlock = some g → g ∉ F := fun g hg hF => H5.out.apart g hF (by simp only [List.mem_cons, List.mem_append, Option.mem_toList]; exact .inr (.inl hg))
      have ty11 : ∀ {j : Nat} {t : TypeId} {cs : List Value}, t ≠ 134 → Blk W9 j t cs → Blk w11 j t cs := fun ht hb => (hb.alloc _).chg hC11 (fun hm => by
        obtain ⟨ds, hd⟩ := row9.typed (Option.mem_toList.1 hm)
        exact ht (hb.inj hd).1)
      have top11 := ty11 (by decide) top9
      have p2 := top11.cellAt (i := 2) rfl
      have pf2 := top11.frozen 2
      have ne11 : ∀ {j : Nat} {t : TypeId} {cs : List Value}, t ≠ 134 → Blk w11 j t cs → j ≠ g11 := fun ht hb e => by
        obtain ⟨ds, hd⟩ := hR11.typed (g := g11) rfl
        rw [e] at hb
        exact ht (hb.inj hd).1
      have hpg : p ≠ g11 := ne11 (by decide) top11
      have hgp : g11 ≠ p := fun e => hpg e.symm
      have row12 : Row (w11.setCell ⟨p, 2, none⟩ (.slice (some ⟨g11, 0, none⟩) (M5.length + 1) c11)) 134 1 (.slice (some ⟨g11, 0, none⟩) (M5.length + 1) c11) (M5.length + 1) (M5.map ptrV ++ [.pointer none]) := hR11.farCell (p := ⟨p, 2, none⟩) (fun e => by cases e; exact hpg rfl) _
      have q2 : (w11.setCell ⟨p, 2, none⟩ (.slice (some ⟨g11, 0, none⟩) (M5.length + 1) c11)).cell? ⟨p, 2, none⟩ = some (.slice (some ⟨g11, 0, none⟩) (M5.length + 1) c11) := (top11.set 2 _).cellAt (i := 2) rfl
      have fzc : (w11.setCell ⟨p, 2, none⟩ (.slice (some ⟨g11, 0, none⟩) (M5.length + 1) c11)).frozen? ⟨g11, M5.length, none⟩ = false ∧ (w11.setCell ⟨p, 2, none⟩ (.slice (some ⟨g11, 0, none⟩) (M5.length + 1) c11)).cell? ⟨g11, M5.length, none⟩ = some (.pointer none) := by
        obtain ⟨g', c', e', hc'⟩ := row_get1 row12 (i := M5.length) (u := .pointer none) (by rw [List.getElem?_append_right (by simp)]; simp)
        cases e'
        refine ⟨?_, hc'⟩
        rcases row12.cases with ⟨h1, _⟩ | ⟨g', cap', rest, h1, hb, _⟩
        · cases h1
        · cases h1; exact hb.frozen _
      obtain ⟨fz1, fz2⟩ := fzc
      have eA : Chg [p] w5 (W9.alloc (.cells #[.pointer none] 134)) := H9.out.2.1.alloc _
      have e11 : Chg (p :: (Value.slice ac M5.length cc).ownBlock.toList) w5 (w11.setCell ⟨p, 2, none⟩ (.slice (some ⟨g11, 0, none⟩) (M5.length + 1) c11)) := ((eA.mono (by simp)).then hC11 (fun x hx => .inl (by simp only [List.mem_cons]; exact .inr hx))).setCell (p := ⟨p, 2, none⟩) (.inl (by simp)) _
      have hcvn : ∀ g, (Value.slice (some ⟨g11, 0, none⟩) (M5.length + 1) c11).ownBlock = some g → (Value.slice ac M5.length cc).ownBlock = some g ∨ w5.heap.size ≤ g := fun g hg => by
        rcases hO11 with e | e
        · rw [e] at hg; exact .inl hg
        · rw [e] at hg
          cases hg
          right
          exact eA.size
      have hx12 := (ty11 (by decide) H9.out.2.2.1).far (p := ⟨p, 2, none⟩) (show xb ≠ p from hpx') (.slice (some ⟨g11, 0, none⟩) (M5.length + 1) c11)
      have hrw12 : Row (w11.setCell ⟨p, 2, none⟩ (.slice (some ⟨g11, 0, none⟩) (M5.length + 1) c11)) 22 1 (.slice a7 words.length c7) words.length (u64V words) := ((H9.out.2.2.2.1.alloc _).chg hC11 (fun g hg hm => by
          obtain ⟨ds, hd⟩ := H9.out.2.2.2.1.typed hg
          obtain ⟨es, he⟩ := row9.typed (Option.mem_toList.1 hm)
          exact absurd (hd.inj he).1 (by decide))).farCell (p := ⟨p, 2, none⟩) (fun e => by
          obtain ⟨ds, hd⟩ := H9.out.2.2.2.1.typed e
          exact absurd (hd.inj top9).1 (by decide)) _
      have raw12 : Holds (w11.setCell ⟨p, 2, none⟩ (.slice (some ⟨g11, 0, none⟩) (M5.length + 1) c11)) rp F (bufs M5) most := by
        have a1 : Holds (W9.alloc (.cells #[.pointer none] 134)) rp F (bufs M5) most := H9.out.2.2.2.2.2.chg ((Chg.refl [] W9).alloc _) (by simp)
        have a2 : Holds w11 rp F (bufs M5) most := a1.chg hC11 (fun k hk hm => hgF0 k (Option.mem_toList.1 hm) hk)
        exact a2.chg ((Chg.refl [p] w11).setCell (p := ⟨p, 2, none⟩) (.inl (by simp)) _) (fun k hk hm => by simp at hm; exact H5.out.apart k hk (by rw [hm]; simp))
      have top12 := top11.set 2 (.slice (some ⟨g11, 0, none⟩) (M5.length + 1) c11)
      have H12 := Mem.Aside.mk (And.intro top12 (And.intro row12 (And.intro hx12 (And.intro hrw12 (And.intro raw12 (And.intro e11 hcvn))))))
      have HG := Mem.Aside.mk (And.intro hpg hgF0)
      have hwi : IntKind.u64.wrap (M5.length : Int) = (M5.length : Int) := by rw [IntKind.wrap_u64]; omega
      have hlt1 : (M5.length : Int) < (M5.length : Int) + 1 := by omega
      have CF := Mem.Aside.mk (fromHandle_calls M5.length (by omega))
      clear top9 row9 hr11 hR11 hC11 hO11 hgF0 ty11 top11 ne11 row12 eA e11 hcvn hx12 hrw12 raw12 top12
      go_wp2_with (first
        | (at_builtin; refine wpList_builtin2 _ (by rfl) .append _ _ _ (by rfl) _ _ (by rfl) (by rfl) _ _ (HRUN.out _) ?_)
        | (go_at_call 87; (with_reducible refine (CF.out _).mono ?_); rintro e w' ⟨rfl, rfl⟩))
      go_ret2
      have hP : Placed M5 M5.length (⟨⟨kind, false, int, text, [], words, base, from_, len, 0, need⟩, xb, .slice a7 words.length c7⟩ : MC) (M5 ++ [some (⟨⟨kind, false, int, text, [], words, base, from_, len, 0, need⟩, xb, .slice a7 words.length c7⟩ : MC)]) := .push rfl HI.out.1
      have hu' := hP.used
      simp only at hu'
      have hU' : usedOf M5 = U5 := HU5.out.symm
      have hown7 : ∀ g, (Value.slice a7 words.length c7).ownBlock = some g → w5.heap.size ≤ g := fun g hg => Nat.le_trans E1.out.size (HO7.out g hg)
      have hAP := H5.out.apart
      have tyc : ∀ {j : Nat} {t : TypeId} {cs : List Value}, t ≠ 134 → Blk (w11.setCell ⟨p, 2, none⟩ (.slice (some ⟨g11, 0, none⟩) (M5.length + 1) c11)) j t cs → j ≠ g11 := fun ht hb e => by
        obtain ⟨ds, hd⟩ := H12.out.2.1.typed (g := g11) rfl
        rw [e] at hb
        exact ht (hb.inj hd).1
      have hg11F : g11 ∉ F := fun hF => by
        rcases H12.out.2.2.2.2.2.2 g11 rfl with e | e
        · exact HG.out.2 g11 e hF
        · have := H5.out.raw.lt g11 hF; omega
      have e13 : Chg (p :: (Value.slice ac M5.length cc).ownBlock.toList) w5 ((w11.setCell ⟨p, 2, none⟩ (.slice (some ⟨g11, 0, none⟩) (M5.length + 1) c11)).setCell ⟨g11, M5.length, none⟩ (.pointer (some ⟨xb, 0, none⟩))) := H12.out.2.2.2.2.2.1.setCell (p := ⟨g11, M5.length, none⟩) (by
        rcases H12.out.2.2.2.2.2.2 g11 rfl with e | e
        · exact .inl (by simp [e])
        · exact .inr e) _
      have htop : Blk ((w11.setCell ⟨p, 2, none⟩ (.slice (some ⟨g11, 0, none⟩) (M5.length + 1) c11)).setCell ⟨g11, M5.length, none⟩ (.pointer (some ⟨xb, 0, none⟩))) p 130 [.int .i64 (units : Int), .int .i64 ((usedOf (M5 ++ [some (⟨⟨kind, false, int, text, [], words, base, from_, len, 0, need⟩, xb, .slice a7 words.length c7⟩ : MC)]) : Nat) : Int), .slice (some ⟨g11, 0, none⟩) (M5.length + 1) c11, .pointer (some ⟨rp, 0, none⟩)] := by
        have := H12.out.1.far (p := ⟨g11, M5.length, none⟩) HG.out.1 (.pointer (some ⟨xb, 0, none⟩))
        rw [hu', hU', show ((U5 + need : Nat) : Int) = (U5 : Int) + (need : Int) by omega]
        exact this
      have row13 : Row ((w11.setCell ⟨p, 2, none⟩ (.slice (some ⟨g11, 0, none⟩) (M5.length + 1) c11)).setCell ⟨g11, M5.length, none⟩ (.pointer (some ⟨xb, 0, none⟩))) 134 1 (.slice (some ⟨g11, 0, none⟩) (M5.length + 1) c11) (M5 ++ [some (⟨⟨kind, false, int, text, [], words, base, from_, len, 0, need⟩, xb, .slice a7 words.length c7⟩ : MC)]).length ((M5 ++ [some (⟨⟨kind, false, int, text, [], words, base, from_, len, 0, need⟩, xb, .slice a7 words.length c7⟩ : MC)]).map ptrV) := by
        have := row_set1 H12.out.2.1 (i := M5.length) (by omega) (.pointer (some ⟨xb, 0, none⟩))
        rw [List.length_append, List.length_cons, List.length_nil, List.map_append]
        have e : (M5.map ptrV ++ [Value.pointer none]).set M5.length (Value.pointer (some ⟨xb, 0, none⟩)) = M5.map ptrV ++ [some (⟨⟨kind, false, int, text, [], words, base, from_, len, 0, need⟩, xb, .slice a7 words.length c7⟩ : MC)].map ptrV := by
          rw [List.set_append_right _ _ (by simp)]
          simp [ptrV]
        rw [e] at this
        exact this
      have hheap := H5.out.placed hP e13 (fun k hk => by
          simp only [List.mem_cons, Option.mem_toList] at hk
          rcases hk with e | e
          · exact .inl e
          · exact .inr (.inl e)) htop row13 (by
          have hb3 := hP.blks.2.2
          have hnb : ¬ Cel.buf (⟨kind, false, int, text, [], words, base, from_, len, 0, need⟩ : Cel) = true := by unfold Cel.buf; rw [HKW.out]; simp
          rw [if_neg hnb] at hb3
          exact (H12.out.2.2.2.2.1.chg ((Chg.refl [g11] (w11.setCell ⟨p, 2, none⟩ (.slice (some ⟨g11, 0, none⟩) (M5.length + 1) c11))).setCell (p := ⟨g11, M5.length, none⟩) (.inl (by simp)) _) (fun k hk hm => by simp at hm; exact hg11F (hm ▸ hk))).perm hb3.symm)
        (H12.out.2.2.1.far (p := ⟨g11, M5.length, none⟩) (tyc (by decide) H12.out.2.2.1) _) (H12.out.2.2.2.1.farCell (p := ⟨g11, M5.length, none⟩) (fun e => by
          obtain ⟨ds, hd⟩ := H12.out.2.2.2.1.typed e
          exact tyc (by decide) hd rfl) _) (by show w5.heap.size ≤ xb; rw [HXB.out.1]; exact Nat.le_refl _) hown7 (fun k hk => .inl hk) (fun k hk => ⟨fun e => hAP k hk (by rw [e]; simp), fun e => by have h1 := H5.out.raw.lt k hk; have h2 := HXB.out.1; simp only at e; omega, fun e => by have h1 := H5.out.raw.lt k hk; have h2 := hown7 k e; omega, fun e => by cases e; exact hg11F hk⟩)
        (by rw [hu', hU']; exact hfit) (by have := HI.out.2; rw [List.length_append, List.length_cons, List.length_nil]; omega) hM5.2.2.2
      refine .inl ⟨M5, HL5.out, M5.length, (⟨⟨kind, false, int, text, [], words, base, from_, len, 0, need⟩, xb, .slice a7 words.length c7⟩ : MC), _, _, rfl, hP, rfl, hheap, HC5.out.then e13 (fun x hx => .inl ?_), fun k hk => ?_⟩
      · simp only [List.mem_cons, Option.mem_toList] at hx
        rcases hx with e | e
        · exact mem_hfoot.2 (.inl e)
        · exact mem_hfoot.2 (.inr (.inl e))
      · rcases placed_foot (B := w.heap.size) hP (cv := .slice ac M5.length cc) (fun g hg => (H12.out.2.2.2.2.2.2 g hg).imp (fun h => h) (fun h => Nat.le_trans HC5.out.size h)) hxlow (fun g hg => by have := hown7 g hg; have := HC5.out.size; omega) k hk with e | e
        · exact .inl (HSUB.out k e)
        · exact .inr e
end
end Go.Proofs.Ytgimcpnelogadaa.Hp
