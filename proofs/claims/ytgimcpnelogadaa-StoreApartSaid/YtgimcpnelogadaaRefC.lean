/- Chapter 5's reference, by hand: Load, Save. -/
import Derived.Test.YtgimcpnelogadaaRefB
namespace Go.Proofs.Ytgimcpnelogadaa.Sto
open Go.RowKit Go.Proofs.Ytgimcpnelogadaa.Mem
set_option linter.unusedVariables false
set_option linter.unusedSimpArgs false

theorem reachE_ok {n o wd : Nat} (hw : wd = 1 ∨ wd = 2 ∨ wd = 4 ∨ wd = 8) (hfit : o + wd ≤ n) (hm : o % wd = 0) : reachE n o wd = 0 := by
  unfold reachE
  have c : Wide (wd : Int) := by unfold Wide; omega
  rw [if_neg (by simpa using c), if_neg (by rw [← Int.ofNat_tmod]; omega), if_neg (by omega)]
theorem rload_none {w : World} {q most : Nat} {X : List RX} {lv : Value} (h : RefAt w q X lv most) (k off width : Int) (hk : I64 k) (hn : ∀ x ∈ X, (x.id : Int) ≠ k) :
    Calls Try.prog 73 #[.pointer (some ⟨q, 0, none⟩), .int .i64 k, .int .i64 off, .int .i64 width] w fun e w' => e = .returned (.tuple #[.int .u64 0, .int .i64 30]) ∧ Chg [] w w' := by
  have C := Mem.Aside.mk (rfind_none h k hk hn)
  clear h hn hk
  go_enter Try.func73, Try.ntmps73
  go_wp2_with (go_at_call 116; (with_reducible refine C.out.mono ?_); rintro e w' ⟨⟨m, rfl, _⟩, hc⟩)
  go_ret2
  exact ⟨rfl, hc⟩
theorem rsave_none {w : World} {q most : Nat} {X : List RX} {lv : Value} (h : RefAt w q X lv most) (k off width x : Int) (hk : I64 k) (hn : ∀ x ∈ X, (x.id : Int) ≠ k) :
    Calls Try.prog 74 #[.pointer (some ⟨q, 0, none⟩), .int .i64 k, .int .i64 off, .int .i64 width, .int .u64 x] w fun e w' => e = .returned (.int .i64 30) ∧ Chg [] w w' := by
  have C := Mem.Aside.mk (rfind_none h k hk hn)
  clear h hn hk
  go_enter Try.func74, Try.ntmps74
  go_wp2_with (go_at_call 116; (with_reducible refine C.out.mono ?_); rintro e w' ⟨⟨m, rfl, _⟩, hc⟩)
  go_ret
  exact ⟨rfl, hc⟩
theorem rload_bad {w : World} {q most : Nat} {X : List RX} {lv : Value} (h : RefAt w q X lv most) {i : Nat} (hi : i < X.length) (hk : I64 (X[i].id : Int)) (off width : Int) (ho : I64 off) (hwi : I64 width) (hb : reachE X[i].bs.length off width ≠ 0) :
    Calls Try.prog 73 #[.pointer (some ⟨q, 0, none⟩), .int .i64 (X[i].id : Int), .int .i64 off, .int .i64 width] w fun e w' => e = .returned (.tuple #[.int .u64 0, .int .i64 (reachE X[i].bs.length off width)]) ∧ Chg [] w w' := by
  have C := Mem.Aside.mk (rfind_some h hi hk)
  have H := Mem.Aside.mk h
  have hi' : (i : Int) < (X.length : Int) := by omega
  have hl := h.small.1
  have CR := Mem.Aside.mk (fun w => rreach_calls X[i].bs.length (by have := (h.small.2.1 _ (List.getElem_mem hi)).2; omega) off width ho hwi w)
  obtain ⟨E, hE⟩ : ∃ E, E = reachE X[i].bs.length off width := ⟨_, rfl⟩
  rw [← hE] at CR hb ⊢
  clear h hk ho hwi hE
  go_enter Try.func73, Try.ntmps73
  go_wp2_with (first
    | (go_at_call 116; (with_reducible refine C.out.mono ?_); rintro e w' ⟨rfl, hc⟩; have HC := Mem.Aside.mk hc; have h0 := (H.out.chg hc (by simp)).c0; obtain ⟨g, cap, rfl, e0, e1⟩ := (H.out.chg hc (by simp)).ext hi; clear hc)
    | (go_at_call 117; (with_reducible refine (CR.out _).mono ?_); rintro e w2 ⟨rfl, rfl⟩))
  go_ret2
  exact ⟨rfl, HC.out⟩
theorem rsave_bad {w : World} {q most : Nat} {X : List RX} {lv : Value} (h : RefAt w q X lv most) {i : Nat} (hi : i < X.length) (hk : I64 (X[i].id : Int)) (off width x : Int) (ho : I64 off) (hwi : I64 width) (hb : reachE X[i].bs.length off width ≠ 0) :
    Calls Try.prog 74 #[.pointer (some ⟨q, 0, none⟩), .int .i64 (X[i].id : Int), .int .i64 off, .int .i64 width, .int .u64 x] w fun e w' => e = .returned (.int .i64 (reachE X[i].bs.length off width)) ∧ Chg [] w w' := by
  have C := Mem.Aside.mk (rfind_some h hi hk)
  have H := Mem.Aside.mk h
  have hi' : (i : Int) < (X.length : Int) := by omega
  have hl := h.small.1
  have CR := Mem.Aside.mk (fun w => rreach_calls X[i].bs.length (by have := (h.small.2.1 _ (List.getElem_mem hi)).2; omega) off width ho hwi w)
  obtain ⟨E, hE⟩ : ∃ E, E = reachE X[i].bs.length off width := ⟨_, rfl⟩
  rw [← hE] at CR hb ⊢
  clear h hk ho hwi hE
  go_enter Try.func74, Try.ntmps74
  go_wp2_with (first
    | (go_at_call 116; (with_reducible refine C.out.mono ?_); rintro e w' ⟨rfl, hc⟩; have HC := Mem.Aside.mk hc; have h0 := (H.out.chg hc (by simp)).c0; obtain ⟨g, cap, rfl, e0, e1⟩ := (H.out.chg hc (by simp)).ext hi; clear hc)
    | (go_at_call 117; (with_reducible refine (CR.out _).mono ?_); rintro e w2 ⟨rfl, rfl⟩))
  go_ret
  exact ⟨rfl, HC.out⟩

theorem byteCell {w : World} {b : Nat} {bs : List UInt8} (h : Blk w b 5 (u8V bs)) {j : Nat} (hj : j < bs.length) : w.cell? ⟨b, j, none⟩ = some (.int .u8 (bs[j].toNat : Int)) := by
  refine h.cellAt ?_
  simp [u8V, List.getElem?_map, List.getElem?_eq_getElem hj]
theorem sl_cons' {α : Type} {r : List α} {a m : Nat} (h : a < r.length) : sl r a (m + 1) = r[a] :: sl r (a + 1) m := by
  unfold sl
  rw [List.drop_eq_getElem_cons h, List.take_succ_cons]

set_option maxHeartbeats 4000000 in
theorem rload_ok {w : World} {q most : Nat} {X : List RX} {lv : Value} (h : RefAt w q X lv most) {i : Nat} (hi : i < X.length) (hk : I64 (X[i].id : Int)) (o wd : Nat) (hw : wd = 1 ∨ wd = 2 ∨ wd = 4 ∨ wd = 8) (hfit : o + wd ≤ X[i].bs.length) (hm : o % wd = 0) :
    Calls Try.prog 73 #[.pointer (some ⟨q, 0, none⟩), .int .i64 (X[i].id : Int), .int .i64 (o : Int), .int .i64 (wd : Int)] w fun e w' => e = .returned (.tuple #[.int .u64 (leN (sl X[i].bs o wd) : Nat), .int .i64 0]) ∧ Chg [] w w' := by
  have C := Mem.Aside.mk (rfind_some h hi hk)
  have H := Mem.Aside.mk h
  have hi' : (i : Int) < (X.length : Int) := by omega
  have hl := h.small.1
  have hbl := (h.small.2.1 _ (List.getElem_mem hi)).2
  have hr0 : reachE X[i].bs.length o wd = 0 := reachE_ok hw hfit hm
  have CR := Mem.Aside.mk (fun w => rreach_calls X[i].bs.length (by omega) o wd ⟨by omega, by omega⟩ ⟨by omega, by omega⟩ w)
  rw [hr0] at CR
  obtain ⟨bs, hbs⟩ : ∃ bs, bs = X[i].bs := ⟨_, rfl⟩
  have HBS := Mem.Aside.mk hbs
  rw [← hbs] at CR hfit hbl ⊢
  have HF := Mem.Aside.mk hfit
  have hw8 : wd ≤ 8 := by omega
  clear h hk hr0 hbs hw hm hfit
  go_enter Try.func73, Try.ntmps73
  have hwd : IntKind.i64.wrap ((wd : Int) - 1) = (wd : Int) - 1 := IntWalk.i64_in _ (by omega)
  go_wp2_with (first
    | (go_at_call 116; (with_reducible refine C.out.mono ?_); rintro e w' ⟨rfl, hc⟩; have HC := Mem.Aside.mk hc; have h0 := (H.out.chg hc (by simp)).c0; obtain ⟨g, cap, rfl, e0, e1⟩ := (H.out.chg hc (by simp)).ext hi; have HB := Mem.Aside.mk ((H.out.chg hc (by simp)).bytes _ (List.getElem_mem hi)); rw [← HBS.out] at e1 HB; clear hc e0)
    | (go_at_call 117; (with_reducible refine (CR.out _).mono ?_); rintro e w2 ⟨rfl, rfl⟩))
  obtain ⟨W, hW⟩ : ∃ W, W = w' := ⟨_, rfl⟩
  have HW := Mem.Aside.mk hW
  clear hW
  go_loopw [14, 15] (fun x i wr => ∃ j : Nat, i = .int .i64 ((j : Int) - 1) ∧ x = .int .u64 (leN (sl bs (o + j) (wd - j)) : Nat) ∧ j ≤ wd ∧ W = wr) (fun _ i _ => (intOf i + 1).toNat)
  case atStart => exact ⟨wd, rfl, by simp [sl_zero, leN], Nat.le_refl _, HW.out⟩
  case round =>
    obtain ⟨j, rfl, rfl, hj, hWr⟩ := hrel
    have HWr := Mem.Aside.mk (hWr.symm.trans HW.out)
    clear hWr
    cases j with
    | zero =>
      go_wp2
      go_ret2
      refine ⟨by simp, ?_⟩
      rw [HWr.out]
      exact HC.out
    | succ j =>
      rw [show ((j + 1 : Nat) : Int) - 1 = (j : Int) by omega]
      have hjl : o + j < bs.length := by have := HF.out; omega
      have hcell := byteCell HB.out hjl
      rw [← HWr.out] at hcell
      have hle : sl bs (o + j) (wd - j) = bs[o + j] :: sl bs (o + (j + 1)) (wd - (j + 1)) := by
        rw [show wd - j = (wd - (j + 1)) + 1 by omega, sl_cons' hjl]; rfl
      have hlt := leN_lt (sl bs (o + (j + 1)) (wd - (j + 1)))
      rw [sl_length (by have := HF.out; omega)] at hlt
      have hlt2 : (256 : Nat) ^ (wd - (j + 1)) ≤ 256 ^ 7 := Nat.pow_le_pow_right (by omega) (by omega)
      obtain ⟨Y, hY⟩ : ∃ Y, Y = leN (sl bs (o + (j + 1)) (wd - (j + 1))) := ⟨_, rfl⟩
      obtain ⟨b, hb⟩ : ∃ b, b = bs[o + j] := ⟨_, rfl⟩
      have hval : leN (sl bs (o + j) (wd - j)) = 256 * Y + b.toNat := by rw [hle, hb, hY, leN]; omega
      rw [← hb] at hcell
      rw [← hY] at hlt ⊢
      have HV := Mem.Aside.mk hval
      have hb256 := b.toNat_lt
      have hYb : Y < 256 ^ 7 := Nat.lt_of_lt_of_le hlt hlt2
      have e7 : (256 : Nat) ^ 7 = 72057594037927936 := by decide
      rw [e7] at hYb
      clear hval hle hY hb hlt hlt2 e7
      have hwm : IntKind.u64.wrap (256 * (Y : Int)) = 256 * (Y : Int) := by rw [IntKind.wrap_u64]; omega
      have hwa : IntKind.u64.wrap (256 * (Y : Int) + (b.toNat : Int)) = ((256 * Y + b.toNat : Nat) : Int) := by rw [IntKind.wrap_u64]; omega
      have hwo : IntKind.i64.wrap ((o : Int) + (j : Int)) = ((o + j : Nat) : Int) := IntWalk.i64_in _ (by omega)
      have hwj : IntKind.i64.wrap ((j : Int) - 1) = (j : Int) - 1 := IntWalk.i64_in _ (by omega)
      have hoj : (o : Int) + (j : Int) < (bs.length : Int) := by omega
      go_wp2
      exact ⟨⟨j, rfl, by rw [HV.out]; simp, by omega, HW.out.trans HWr.out.symm⟩, by simp [intOf]⟩

theorem u8V_set (l : List UInt8) (i Y : Nat) : u8V (l.set i (UInt8.ofNat Y)) = (u8V l).set i (.int .u8 (((Y % 256 : Nat)) : Int)) := by simp [u8V, List.map_set]
theorem splice_nil' {α : Type} (r : List α) (o : Nat) : splice r o [] = r := by simp [splice_def]
theorem refV_append (X Y : List RX) : refV (X ++ Y) = refV X ++ refV Y := by simp [refV]
theorem refV_cons (x : RX) (Y : List RX) : refV (x :: Y) = rxV x ++ refV Y := rfl
/-- One extent's bytes turn. -/
theorem RefAt.save {w w' : World} {q most : Nat} {A B : List RX} {x : RX} {lv : Value} (h : RefAt w q (A ++ x :: B) lv most) {bs : List UInt8} (hl : bs.length = x.bs.length) (hb : Blk w' x.blk 5 (u8V bs)) (hc : Chg [x.blk] w w') :
    RefAt w' q (A ++ ⟨x.id, bs, x.blk⟩ :: B) lv most := by
  have hx : x ∈ A ++ x :: B := by simp
  have hap := h.apart
  rw [List.map_append, List.map_cons, List.nodup_append, List.nodup_cons] at hap
  have hfar : ∀ y, y ∈ A ∨ y ∈ B → y.blk ≠ x.blk := fun y hy e => by
    rcases hy with hy | hy
    · exact hap.2.2 _ (List.mem_map_of_mem hy) _ (List.mem_cons_self ..) e
    · exact hap.2.1.1 (e ▸ List.mem_map_of_mem hy)
  have hrv : rxV ⟨x.id, bs, x.blk⟩ = rxV x := by simp [rxV, hl]
  refine ⟨h.cells.chg hc (by simpa using fun e => h.q_bytes _ hx e.symm), ?_, fun y hy => ?_, ?_, ?_, ?_⟩
  · have e : refV (A ++ ⟨x.id, bs, x.blk⟩ :: B) = refV (A ++ x :: B) := by rw [refV_append, refV_append, refV_cons, refV_cons, hrv]
    rw [e, show (A ++ (⟨x.id, bs, x.blk⟩ : RX) :: B).length = (A ++ x :: B).length by simp]
    exact h.row.chg hc (fun g hg hm => by simp at hm; exact h.row_bytes _ hx (hm ▸ hg))
  · rcases List.mem_append.1 hy with hy | hy
    · exact (h.bytes y (by simp [hy])).chg hc (by simpa using hfar y (.inl hy))
    · rcases List.mem_cons.1 hy with rfl | hy
      · exact hb
      · exact (h.bytes y (by simp [hy])).chg hc (by simpa using hfar y (.inr hy))
  · have := h.apart
    simpa using this
  · have := h.sorted
    simpa using this
  · refine ⟨by have := h.small.1; simpa using this, fun y hy => ?_, h.small.2.2⟩
    rcases List.mem_append.1 hy with hy | hy
    · exact h.small.2.1 y (by simp [hy])
    · rcases List.mem_cons.1 hy with rfl | hy
      · have := h.small.2.1 _ hx
        exact ⟨this.1, by simp only; omega⟩
      · exact h.small.2.1 y (by simp [hy])
theorem split_at {α : Type} (X : List α) {i : Nat} (hi : i < X.length) : X = X.take i ++ X[i] :: X.drop (i + 1) := by rw [← List.drop_eq_getElem_cons hi, List.take_append_drop]

set_option maxHeartbeats 4000000 in
theorem rsave_ok {w : World} {q most : Nat} {X : List RX} {lv : Value} (h : RefAt w q X lv most) {i : Nat} (hi : i < X.length) (hk : I64 (X[i].id : Int)) (o wd : Nat) (hw : wd = 1 ∨ wd = 2 ∨ wd = 4 ∨ wd = 8) (hfit : o + wd ≤ X[i].bs.length) (hm : o % wd = 0) (x : Nat) (hx : x < 18446744073709551616) :
    Calls Try.prog 74 #[.pointer (some ⟨q, 0, none⟩), .int .i64 (X[i].id : Int), .int .i64 (o : Int), .int .i64 (wd : Int), .int .u64 (x : Int)] w fun e w' => e = .returned (.int .i64 0) ∧
      RefAt w' q (X.take i ++ ⟨X[i].id, splice X[i].bs o (leB x wd), X[i].blk⟩ :: X.drop (i + 1)) lv most ∧ Chg [X[i].blk] w w' := by
  have C := Mem.Aside.mk (rfind_some h hi hk)
  have H := Mem.Aside.mk h
  have hi' : (i : Int) < (X.length : Int) := by omega
  have hl := h.small.1
  have hbl := (h.small.2.1 _ (List.getElem_mem hi)).2
  have hr0 : reachE X[i].bs.length o wd = 0 := reachE_ok hw hfit hm
  have CR := Mem.Aside.mk (fun w => rreach_calls X[i].bs.length (by omega) o wd ⟨by omega, by omega⟩ ⟨by omega, by omega⟩ w)
  rw [hr0] at CR
  obtain ⟨bs, hbs⟩ : ∃ bs, bs = X[i].bs := ⟨_, rfl⟩
  have HBS := Mem.Aside.mk hbs
  rw [← hbs] at CR hfit hbl ⊢
  have HF := Mem.Aside.mk hfit
  have hw8 : wd ≤ 8 := by omega
  obtain ⟨bk, hbk⟩ : ∃ bk, bk = X[i].blk := ⟨_, rfl⟩
  have HBK := Mem.Aside.mk hbk
  rw [← hbk]
  clear h hk hr0 hbs hw hm hfit hbk
  go_enter Try.func74, Try.ntmps74
  go_wp2_with (first
    | (go_at_call 116; (with_reducible refine C.out.mono ?_); rintro e w' ⟨rfl, hc⟩; have HC := Mem.Aside.mk hc; have h0 := (H.out.chg hc (by simp)).c0; obtain ⟨g, cap, rfl, e0, e1⟩ := (H.out.chg hc (by simp)).ext hi; have HB := Mem.Aside.mk ((H.out.chg hc (by simp)).bytes _ (List.getElem_mem hi)); rw [← HBS.out, ← HBK.out] at e1 HB; clear hc e0)
    | (go_at_call 117; (with_reducible refine (CR.out _).mono ?_); rintro e w2 ⟨rfl, rfl⟩))
  obtain ⟨W, hW⟩ : ∃ W, W = w' := ⟨_, rfl⟩
  have HW := Mem.Aside.mk hW
  clear hW
  go_loopw [4, 15] (fun x' i wr => ∃ j : Nat, i = .int .i64 (j : Int) ∧ x' = .int .u64 (x / 256 ^ j : Nat) ∧ j ≤ wd ∧ Mem.Aside (Blk wr bk 5 (u8V (splice bs o (leB x j)))) ∧ Mem.Aside (Chg [bk] w wr)) (fun _ i _ => wd - (intOf i).toNat)
  case atStart => exact ⟨0, rfl, by simp, Nat.zero_le _, ⟨by rw [show leB x 0 = [] from rfl, splice_nil']; exact HB.out⟩, ⟨HC.out.mono (by simp)⟩⟩
  case round =>
    obtain ⟨j, rfl, rfl, hj, HJ, HCJ⟩ := hrel
    by_cases d : j < wd
    · have hlen : (splice bs o (leB x j)).length = bs.length := length_splice _ _ _ (by rw [leB_length]; have := HF.out; omega)
      have hjl : o + j < (splice bs o (leB x j)).length := by rw [hlen]; have := HF.out; omega
      have hcell := byteCell HJ.out hjl
      have hfz := HJ.out.frozen (o + j)
      have d' : (j : Int) < (wd : Int) := by omega
      have hoj : (o : Int) + (j : Int) < (bs.length : Int) := by have := HF.out; omega
      obtain ⟨Y, hY⟩ : ∃ Y, Y = x / 256 ^ j := ⟨_, rfl⟩
      have hYx : Y ≤ x := by rw [hY]; exact Nat.div_le_self _ _
      have hdiv : x / 256 ^ (j + 1) = Y / 256 := by rw [hY, Nat.pow_succ, Nat.div_div_eq_div_mul]
      rw [← hY]
      have hstep : splice bs o (leB x (j + 1)) = (splice bs o (leB x j)).set (o + j) (UInt8.ofNat Y) := by
        rw [leB_succ, hY]
        have := splice_snoc (r := bs) (l := leB x j) (a := o) (b := UInt8.ofNat (x / 256 ^ j)) (by rw [leB_length]; have := HF.out; omega)
        rw [leB_length] at this
        exact this
      have HSt := Mem.Aside.mk hstep
      have HD := Mem.Aside.mk hdiv
      clear hstep hdiv hY hlen
      have hwo : IntKind.i64.wrap ((o : Int) + (j : Int)) = ((o + j : Nat) : Int) := IntWalk.i64_in _ (by omega)
      have hwj : IntKind.i64.wrap ((j : Int) + 1) = (j : Int) + 1 := IntWalk.i64_in _ (by omega)
      go_wp2
      refine ⟨⟨j + 1, by go_num, by rw [HD.out]; simp, by omega, ⟨?_⟩, ⟨HCJ.out.setCell (p := ⟨bk, o + j, none⟩) (.inl (by simp)) _⟩⟩, by simp [intOf]; omega⟩
      rw [HSt.out, u8V_set]
      have := HJ.out.set (o + j) (.int .u8 ((Y : Int) % 256))
      simpa using this
    · have hjw : j = wd := by omega
      have d' : (wd : Int) ≤ (j : Int) := by omega
      go_wp2
      go_ret
      subst hjw
      refine ⟨rfl, ?_, HCJ.out⟩
      have H' : RefAt w q (X.take i ++ X[i] :: X.drop (i + 1)) (.slice (some ⟨g, 0, none⟩) X.length cap) most := by rw [← split_at X hi]; exact H.out
      have h1 := HJ.out
      have h2 := HCJ.out
      rw [HBK.out] at h1 h2 ⊢
      exact H'.save (by rw [length_splice _ _ _ (by rw [leB_length]; exact HF.out), HBS.out]) h1 h2
end Go.Proofs.Ytgimcpnelogadaa.Sto
