/- Chapter 7: Unbox. -/
import Derived.Test.YtgimcpnelogadaaVaB
import Derived.Test.YtgimcpnelogadaaVaC
namespace Go.Proofs.Ytgimcpnelogadaa.Va
open Go.RowKit Go.Proofs.Ytgimcpnelogadaa.Mem Go.Proofs.Ytgimcpnelogadaa.Sto Go.Proofs.Ytgimcpnelogadaa.Wd Go.Proofs.Ytgimcpnelogadaa.Hp
set_option linter.unusedVariables false
set_option linter.unusedSimpArgs false
theorem underValue : ∃ d, Try.prog.underlying 83 = some d ∧ isRowD d = true := by
  refine ⟨_, Try.underlying83, rfl⟩
set_option maxRecDepth 100000 in
set_option maxHeartbeats 4000000 in
theorem unbox_float (p : Nat) (W : World) {x : Nat} (hx : x < 18446744073709551616) (hc : cls x = 1) : Calls Try.prog 48 #[.pointer (some ⟨p, 0, none⟩), .int .u64 (x : Nat)] W fun e w' => e = .returned (.tuple #[valV 3 0 (x : Int) noText 0, .int .i64 0]) ∧ Chg [] W w' := by
  have CC := Mem.Aside.mk (class_calls (x) hx)
  rw [hc, show ((1 : Nat) : Int) = 1 from rfl] at CC
  clear hx hc
  have hB : Blk (W.alloc (.cells #[.int .i64 0, .int .i64 0, .int .u64 0, .string noText, .int .u64 0] 83)) W.heap.size 83 [.int .i64 0, .int .i64 0, .int .u64 0, .string noText, .int .u64 0] := Blk.newL [_, _, _, _, _] rfl
  have e1 : Chg [] W (W.alloc (.cells #[.int .i64 0, .int .i64 0, .int .u64 0, .string noText, .int .u64 0] 83)) := (Chg.refl [] W).alloc _
  have HSZ : Mem.Aside (W.heap.size ≤ W.heap.size) := ⟨Nat.le_refl _⟩
  go_enter Try.func48, Try.ntmps48
  go_upto_region 1 with fail
  obtain ⟨b, hb⟩ : ∃ b, b = W.heap.size := ⟨_, rfl⟩
  have HSZ : Mem.Aside (W.heap.size ≤ b) := ⟨by rw [hb]; exact Nat.le_refl _⟩
  rw [← hb] at hB ⊢
  clear hb
  generalize W.alloc (.cells #[.int .i64 0, .int .i64 0, .int .u64 0, .string noText, .int .u64 0] 83) = W1 at hB e1 ⊢
  have z0 := hB.frozen 0
  have z1 := hB.frozen 1
  have z2 := hB.frozen 2
  have z3 := hB.frozen 3
  have z4 := hB.frozen 4
  have q0 := hB.cellAt (i := 0) rfl
  have q1 := hB.cellAt (i := 1) rfl
  have q2 := hB.cellAt (i := 2) rfl
  have q3 := hB.cellAt (i := 3) rfl
  have q4 := hB.cellAt (i := 4) rfl
  have HB := Mem.Aside.mk hB
  have HC := Mem.Aside.mk e1
  clear hB e1
  go_wp2_with (first
    | (go_at_call 102; (with_reducible refine (CC.out _).mono ?_); rintro e w' ⟨rfl, rfl⟩))
  obtain ⟨d, hd1, hd2⟩ := underValue
  have hbF := (((((HB.out).set 0 (.int .i64 3)).set 1 (.int .i64 0)).set 2 (.int .u64 (x : Int))).set 3 (.string noText)).set 4 (.int .u64 0)
  have hcF := (((((HC.out).setCell (p := ⟨b, 0, none⟩) (.inr HSZ.out) (.int .i64 3)).setCell (p := ⟨b, 1, none⟩) (.inr HSZ.out) (.int .i64 0)).setCell (p := ⟨b, 2, none⟩) (.inr HSZ.out) (.int .u64 (x : Int))).setCell (p := ⟨b, 3, none⟩) (.inr HSZ.out) (.string noText)).setCell (p := ⟨b, 4, none⟩) (.inr HSZ.out) (.int .u64 0)
  have hbF2 : Blk _ b 83 [.int .i64 3, .int .i64 0, .int .u64 (x : Int), .string noText, .int .u64 0] := hbF
  clear hbF
  refine bodyPost_ret (results_row_tmp rfl rfl hbF2 hd1 hd2 (by kernel_rfl)) rfl ⟨?_, ?_⟩
  · rfl
  · exact hcF
set_option maxRecDepth 100000 in
set_option maxHeartbeats 4000000 in
theorem unbox_int (p : Nat) (W : World) {i : Int} (h : Small i) : Calls Try.prog 48 #[.pointer (some ⟨p, 0, none⟩), .int .u64 (intW i : Nat)] W fun e w' => e = .returned (.tuple #[valV 2 i 0 noText 0, .int .i64 0]) ∧ Chg [] W w' := by
  have CC := Mem.Aside.mk (class_calls (intW i) (intW_lt i).1)
  rw [cls_int, show ((2 : Nat) : Int) = 2 from rfl] at CC
  have CT := Mem.Aside.mk (toInt_calls h)
  clear h
  obtain ⟨X, hX⟩ : ∃ X, X = intW i := ⟨_, rfl⟩
  rw [← hX] at CC CT ⊢
  clear hX
  have hB : Blk (W.alloc (.cells #[.int .i64 0, .int .i64 0, .int .u64 0, .string noText, .int .u64 0] 83)) W.heap.size 83 [.int .i64 0, .int .i64 0, .int .u64 0, .string noText, .int .u64 0] := Blk.newL [_, _, _, _, _] rfl
  have e1 : Chg [] W (W.alloc (.cells #[.int .i64 0, .int .i64 0, .int .u64 0, .string noText, .int .u64 0] 83)) := (Chg.refl [] W).alloc _
  have HSZ : Mem.Aside (W.heap.size ≤ W.heap.size) := ⟨Nat.le_refl _⟩
  go_enter Try.func48, Try.ntmps48
  go_upto_region 1 with fail
  obtain ⟨b, hb⟩ : ∃ b, b = W.heap.size := ⟨_, rfl⟩
  have HSZ : Mem.Aside (W.heap.size ≤ b) := ⟨by rw [hb]; exact Nat.le_refl _⟩
  rw [← hb] at hB ⊢
  clear hb
  generalize W.alloc (.cells #[.int .i64 0, .int .i64 0, .int .u64 0, .string noText, .int .u64 0] 83) = W1 at hB e1 ⊢
  have z0 := hB.frozen 0
  have z1 := hB.frozen 1
  have z2 := hB.frozen 2
  have z3 := hB.frozen 3
  have z4 := hB.frozen 4
  have q0 := hB.cellAt (i := 0) rfl
  have q1 := hB.cellAt (i := 1) rfl
  have q2 := hB.cellAt (i := 2) rfl
  have q3 := hB.cellAt (i := 3) rfl
  have q4 := hB.cellAt (i := 4) rfl
  have HB := Mem.Aside.mk hB
  have HC := Mem.Aside.mk e1
  clear hB e1
  go_wp2_with (first
    | (go_at_call 102; (with_reducible refine (CC.out _).mono ?_); rintro e w' ⟨rfl, rfl⟩)
    | (go_at_call 103; (with_reducible refine (CT.out _).mono ?_); rintro e w' ⟨rfl, rfl⟩))
  obtain ⟨d, hd1, hd2⟩ := underValue
  have hbF := (((((HB.out).set 0 (.int .i64 2)).set 1 (.int .i64 i)).set 2 (.int .u64 0)).set 3 (.string noText)).set 4 (.int .u64 0)
  have hcF := (((((HC.out).setCell (p := ⟨b, 0, none⟩) (.inr HSZ.out) (.int .i64 2)).setCell (p := ⟨b, 1, none⟩) (.inr HSZ.out) (.int .i64 i)).setCell (p := ⟨b, 2, none⟩) (.inr HSZ.out) (.int .u64 0)).setCell (p := ⟨b, 3, none⟩) (.inr HSZ.out) (.string noText)).setCell (p := ⟨b, 4, none⟩) (.inr HSZ.out) (.int .u64 0)
  have hbF2 : Blk _ b 83 [.int .i64 2, .int .i64 i, .int .u64 0, .string noText, .int .u64 0] := hbF
  clear hbF
  refine bodyPost_ret (results_row_tmp rfl rfl hbF2 hd1 hd2 (by kernel_rfl)) rfl ⟨?_, ?_⟩
  · rfl
  · exact hcF
set_option maxRecDepth 100000 in
set_option maxHeartbeats 4000000 in
theorem unbox_nil (p : Nat) (W : World)  : Calls Try.prog 48 #[.pointer (some ⟨p, 0, none⟩), .int .u64 (18444492273895866368 : Nat)] W fun e w' => e = .returned (.tuple #[valV 0 0 0 noText 0, .int .i64 0]) ∧ Chg [] W w' := by
  have CC := Mem.Aside.mk (class_calls (18444492273895866368) (by decide))
  rw [(by decide +kernel : cls 18444492273895866368 = 3), show ((3 : Nat) : Int) = 3 from rfl] at CC
  rw [show ((18444492273895866368 : Nat) : Int) = 18444492273895866368 from rfl] at CC
  have hB : Blk (W.alloc (.cells #[.int .i64 0, .int .i64 0, .int .u64 0, .string noText, .int .u64 0] 83)) W.heap.size 83 [.int .i64 0, .int .i64 0, .int .u64 0, .string noText, .int .u64 0] := Blk.newL [_, _, _, _, _] rfl
  have e1 : Chg [] W (W.alloc (.cells #[.int .i64 0, .int .i64 0, .int .u64 0, .string noText, .int .u64 0] 83)) := (Chg.refl [] W).alloc _
  have HSZ : Mem.Aside (W.heap.size ≤ W.heap.size) := ⟨Nat.le_refl _⟩
  go_enter Try.func48, Try.ntmps48
  go_upto_region 1 with fail
  obtain ⟨b, hb⟩ : ∃ b, b = W.heap.size := ⟨_, rfl⟩
  have HSZ : Mem.Aside (W.heap.size ≤ b) := ⟨by rw [hb]; exact Nat.le_refl _⟩
  rw [← hb] at hB ⊢
  clear hb
  generalize W.alloc (.cells #[.int .i64 0, .int .i64 0, .int .u64 0, .string noText, .int .u64 0] 83) = W1 at hB e1 ⊢
  have z0 := hB.frozen 0
  have z1 := hB.frozen 1
  have z2 := hB.frozen 2
  have z3 := hB.frozen 3
  have z4 := hB.frozen 4
  have q0 := hB.cellAt (i := 0) rfl
  have q1 := hB.cellAt (i := 1) rfl
  have q2 := hB.cellAt (i := 2) rfl
  have q3 := hB.cellAt (i := 3) rfl
  have q4 := hB.cellAt (i := 4) rfl
  have HB := Mem.Aside.mk hB
  have HC := Mem.Aside.mk e1
  clear hB e1
  go_wp2_with (first
    | (go_at_call 102; (with_reducible refine (CC.out _).mono ?_); rintro e w' ⟨rfl, rfl⟩))
  obtain ⟨d, hd1, hd2⟩ := underValue
  have hbF := (((((HB.out).set 0 (.int .i64 0)).set 1 (.int .i64 0)).set 2 (.int .u64 0)).set 3 (.string noText)).set 4 (.int .u64 0)
  have hcF := (((((HC.out).setCell (p := ⟨b, 0, none⟩) (.inr HSZ.out) (.int .i64 0)).setCell (p := ⟨b, 1, none⟩) (.inr HSZ.out) (.int .i64 0)).setCell (p := ⟨b, 2, none⟩) (.inr HSZ.out) (.int .u64 0)).setCell (p := ⟨b, 3, none⟩) (.inr HSZ.out) (.string noText)).setCell (p := ⟨b, 4, none⟩) (.inr HSZ.out) (.int .u64 0)
  have hbF2 : Blk _ b 83 [.int .i64 0, .int .i64 0, .int .u64 0, .string noText, .int .u64 0] := hbF
  clear hbF
  refine bodyPost_ret (results_row_tmp rfl rfl hbF2 hd1 hd2 (by kernel_rfl)) rfl ⟨?_, ?_⟩
  · rfl
  · exact hcF
set_option maxRecDepth 100000 in
set_option maxHeartbeats 4000000 in
theorem unbox_text (p : Nat) (W : World) {s : ByteArray} (h : s.size ≤ 5) : Calls Try.prog 48 #[.pointer (some ⟨p, 0, none⟩), .int .u64 (textW s : Nat)] W fun e w' => e = .returned (.tuple #[valV 4 0 0 s 0, .int .i64 0]) ∧ Chg [] W w' := by
  have CC := Mem.Aside.mk (class_calls (textW s) (textW_parts h).1)
  rw [cls_text h, show ((5 : Nat) : Int) = 5 from rfl] at CC
  have CT := Mem.Aside.mk (toText_calls h)
  clear h
  obtain ⟨X, hX⟩ : ∃ X, X = textW s := ⟨_, rfl⟩
  rw [← hX] at CC CT ⊢
  clear hX
  have hB : Blk (W.alloc (.cells #[.int .i64 0, .int .i64 0, .int .u64 0, .string noText, .int .u64 0] 83)) W.heap.size 83 [.int .i64 0, .int .i64 0, .int .u64 0, .string noText, .int .u64 0] := Blk.newL [_, _, _, _, _] rfl
  have e1 : Chg [] W (W.alloc (.cells #[.int .i64 0, .int .i64 0, .int .u64 0, .string noText, .int .u64 0] 83)) := (Chg.refl [] W).alloc _
  have HSZ : Mem.Aside (W.heap.size ≤ W.heap.size) := ⟨Nat.le_refl _⟩
  go_enter Try.func48, Try.ntmps48
  go_upto_region 1 with fail
  obtain ⟨b, hb⟩ : ∃ b, b = W.heap.size := ⟨_, rfl⟩
  have HSZ : Mem.Aside (W.heap.size ≤ b) := ⟨by rw [hb]; exact Nat.le_refl _⟩
  rw [← hb] at hB ⊢
  clear hb
  generalize W.alloc (.cells #[.int .i64 0, .int .i64 0, .int .u64 0, .string noText, .int .u64 0] 83) = W1 at hB e1 ⊢
  have z0 := hB.frozen 0
  have z1 := hB.frozen 1
  have z2 := hB.frozen 2
  have z3 := hB.frozen 3
  have z4 := hB.frozen 4
  have q0 := hB.cellAt (i := 0) rfl
  have q1 := hB.cellAt (i := 1) rfl
  have q2 := hB.cellAt (i := 2) rfl
  have q3 := hB.cellAt (i := 3) rfl
  have q4 := hB.cellAt (i := 4) rfl
  have HB := Mem.Aside.mk hB
  have HC := Mem.Aside.mk e1
  clear hB e1
  go_wp2_with (first
    | (go_at_call 102; (with_reducible refine (CC.out _).mono ?_); rintro e w' ⟨rfl, rfl⟩)
    | (go_at_call 105; (with_reducible refine (CT.out _).mono ?_); rintro e w2 ⟨rfl, hc2⟩; obtain ⟨HB'⟩ : Nonempty (Mem.Aside (Blk w2 b 83 [.int .i64 0, .int .i64 0, .int .u64 0, .string noText, .int .u64 0])) := ⟨⟨HB.out.chg hc2 (by simp)⟩⟩; obtain ⟨HC'⟩ : Nonempty (Mem.Aside (Chg [] W w2)) := ⟨⟨HC.out.trans hc2⟩⟩; clear z0 z1 z2 z3 z4 q0 q1 q2 q3 q4 hc2; have z0 := HB'.out.frozen 0; have z1 := HB'.out.frozen 1; have z2 := HB'.out.frozen 2; have z3 := HB'.out.frozen 3; have z4 := HB'.out.frozen 4; have q0 := HB'.out.cellAt (i := 0) rfl; have q1 := HB'.out.cellAt (i := 1) rfl; have q2 := HB'.out.cellAt (i := 2) rfl; have q3 := HB'.out.cellAt (i := 3) rfl; have q4 := HB'.out.cellAt (i := 4) rfl))
  obtain ⟨d, hd1, hd2⟩ := underValue
  have hbF := (((((HB'.out).set 0 (.int .i64 4)).set 1 (.int .i64 0)).set 2 (.int .u64 0)).set 3 (.string s)).set 4 (.int .u64 0)
  have hcF := (((((HC'.out).setCell (p := ⟨b, 0, none⟩) (.inr HSZ.out) (.int .i64 4)).setCell (p := ⟨b, 1, none⟩) (.inr HSZ.out) (.int .i64 0)).setCell (p := ⟨b, 2, none⟩) (.inr HSZ.out) (.int .u64 0)).setCell (p := ⟨b, 3, none⟩) (.inr HSZ.out) (.string s)).setCell (p := ⟨b, 4, none⟩) (.inr HSZ.out) (.int .u64 0)
  have hbF2 : Blk _ b 83 [.int .i64 4, .int .i64 0, .int .u64 0, .string s, .int .u64 0] := hbF
  clear hbF
  refine bodyPost_ret (results_row_tmp rfl rfl hbF2 hd1 hd2 (by kernel_rfl)) rfl ⟨?_, ?_⟩
  · rfl
  · exact hcF
set_option maxRecDepth 100000 in
set_option maxHeartbeats 4000000 in
theorem unbox_cint (p : Nat) (W : World) {x : Nat} (hx : x < 18446744073709551616) (hc : cls x = 6) (i : Int) (s : ByteArray) (hS : ∀ W2, Chg [] W W2 → Calls Try.prog 99 #[.pointer (some ⟨p, 0, none⟩), .int .u64 (x : Int)] W2 fun e w' => ∃ n : Int, e = .returned (.tuple #[.int .i64 2, .bool false, .int .i64 n, .bool true]) ∧ Chg [] W2 w') (hP : ∀ W2, Chg [] W W2 → Calls Try.prog 106 #[.pointer (some ⟨p, 0, none⟩), .int .u64 (x : Int)] W2 fun e w' => e = .returned (.tuple #[.int .i64 i, .string s]) ∧ Chg [] W2 w') : Calls Try.prog 48 #[.pointer (some ⟨p, 0, none⟩), .int .u64 (x : Nat)] W fun e w' => e = .returned (.tuple #[valV 2 i 0 s 0, .int .i64 0]) ∧ Chg [] W w' := by
  have CC := Mem.Aside.mk (class_calls (x) hx)
  rw [hc, show ((6 : Nat) : Int) = 6 from rfl] at CC
  have CS := Mem.Aside.mk hS
  have CP := Mem.Aside.mk hP
  clear hx hc hS hP
  have hB : Blk (W.alloc (.cells #[.int .i64 0, .int .i64 0, .int .u64 0, .string noText, .int .u64 0] 83)) W.heap.size 83 [.int .i64 0, .int .i64 0, .int .u64 0, .string noText, .int .u64 0] := Blk.newL [_, _, _, _, _] rfl
  have e1 : Chg [] W (W.alloc (.cells #[.int .i64 0, .int .i64 0, .int .u64 0, .string noText, .int .u64 0] 83)) := (Chg.refl [] W).alloc _
  have HSZ : Mem.Aside (W.heap.size ≤ W.heap.size) := ⟨Nat.le_refl _⟩
  go_enter Try.func48, Try.ntmps48
  go_upto_region 1 with fail
  obtain ⟨b, hb⟩ : ∃ b, b = W.heap.size := ⟨_, rfl⟩
  have HSZ : Mem.Aside (W.heap.size ≤ b) := ⟨by rw [hb]; exact Nat.le_refl _⟩
  rw [← hb] at hB ⊢
  clear hb
  generalize W.alloc (.cells #[.int .i64 0, .int .i64 0, .int .u64 0, .string noText, .int .u64 0] 83) = W1 at hB e1 ⊢
  have z0 := hB.frozen 0
  have z1 := hB.frozen 1
  have z2 := hB.frozen 2
  have z3 := hB.frozen 3
  have z4 := hB.frozen 4
  have q0 := hB.cellAt (i := 0) rfl
  have q1 := hB.cellAt (i := 1) rfl
  have q2 := hB.cellAt (i := 2) rfl
  have q3 := hB.cellAt (i := 3) rfl
  have q4 := hB.cellAt (i := 4) rfl
  have HB := Mem.Aside.mk hB
  have HC := Mem.Aside.mk e1
  clear hB e1
  go_wp2_with (first
    | (go_at_call 102; (with_reducible refine (CC.out _).mono ?_); rintro e w' ⟨rfl, rfl⟩)
    | (go_at_call 99; (with_reducible refine (CS.out _ HC.out).mono ?_); rintro e w2 ⟨n, rfl, hc2⟩; obtain ⟨HB'⟩ : Nonempty (Mem.Aside (Blk w2 b 83 [.int .i64 0, .int .i64 0, .int .u64 0, .string noText, .int .u64 0])) := ⟨⟨HB.out.chg hc2 (by simp)⟩⟩; obtain ⟨HC'⟩ : Nonempty (Mem.Aside (Chg [] W w2)) := ⟨⟨HC.out.trans hc2⟩⟩; clear z0 z1 z2 z3 z4 q0 q1 q2 q3 q4 hc2; have z0 := HB'.out.frozen 0; have z1 := HB'.out.frozen 1; have z2 := HB'.out.frozen 2; have z3 := HB'.out.frozen 3; have z4 := HB'.out.frozen 4; have q0 := HB'.out.cellAt (i := 0) rfl; have q1 := HB'.out.cellAt (i := 1) rfl; have q2 := HB'.out.cellAt (i := 2) rfl; have q3 := HB'.out.cellAt (i := 3) rfl; have q4 := HB'.out.cellAt (i := 4) rfl)
    | (go_at_call 106; (with_reducible refine (CP.out _ HC'.out).mono ?_); rintro e w3 ⟨rfl, hc3⟩; obtain ⟨HB''⟩ : Nonempty (Mem.Aside (Blk w3 b 83 [.int .i64 0, .int .i64 0, .int .u64 0, .string noText, .int .u64 0])) := ⟨⟨HB'.out.chg hc3 (by simp)⟩⟩; obtain ⟨HC''⟩ : Nonempty (Mem.Aside (Chg [] W w3)) := ⟨⟨HC'.out.trans hc3⟩⟩; clear z0 z1 z2 z3 z4 q0 q1 q2 q3 q4 hc3; have z0 := HB''.out.frozen 0; have z1 := HB''.out.frozen 1; have z2 := HB''.out.frozen 2; have z3 := HB''.out.frozen 3; have z4 := HB''.out.frozen 4; have q0 := HB''.out.cellAt (i := 0) rfl; have q1 := HB''.out.cellAt (i := 1) rfl; have q2 := HB''.out.cellAt (i := 2) rfl; have q3 := HB''.out.cellAt (i := 3) rfl; have q4 := HB''.out.cellAt (i := 4) rfl))
  obtain ⟨d, hd1, hd2⟩ := underValue
  have hbF := (((((HB''.out).set 0 (.int .i64 2)).set 1 (.int .i64 i)).set 2 (.int .u64 0)).set 3 (.string s)).set 4 (.int .u64 0)
  have hcF := (((((HC''.out).setCell (p := ⟨b, 0, none⟩) (.inr HSZ.out) (.int .i64 2)).setCell (p := ⟨b, 1, none⟩) (.inr HSZ.out) (.int .i64 i)).setCell (p := ⟨b, 2, none⟩) (.inr HSZ.out) (.int .u64 0)).setCell (p := ⟨b, 3, none⟩) (.inr HSZ.out) (.string s)).setCell (p := ⟨b, 4, none⟩) (.inr HSZ.out) (.int .u64 0)
  have hbF2 : Blk _ b 83 [.int .i64 2, .int .i64 i, .int .u64 0, .string s, .int .u64 0] := hbF
  clear hbF
  refine bodyPost_ret (results_row_tmp rfl rfl hbF2 hd1 hd2 (by kernel_rfl)) rfl ⟨?_, ?_⟩
  · rfl
  · exact hcF
set_option maxRecDepth 100000 in
set_option maxHeartbeats 4000000 in
theorem unbox_ctext (p : Nat) (W : World) {x : Nat} (hx : x < 18446744073709551616) (hc : cls x = 6) (i : Int) (s : ByteArray) (hS : ∀ W2, Chg [] W W2 → Calls Try.prog 99 #[.pointer (some ⟨p, 0, none⟩), .int .u64 (x : Int)] W2 fun e w' => ∃ n : Int, e = .returned (.tuple #[.int .i64 4, .bool false, .int .i64 n, .bool true]) ∧ Chg [] W2 w') (hP : ∀ W2, Chg [] W W2 → Calls Try.prog 106 #[.pointer (some ⟨p, 0, none⟩), .int .u64 (x : Int)] W2 fun e w' => e = .returned (.tuple #[.int .i64 i, .string s]) ∧ Chg [] W2 w') : Calls Try.prog 48 #[.pointer (some ⟨p, 0, none⟩), .int .u64 (x : Nat)] W fun e w' => e = .returned (.tuple #[valV 4 i 0 s 0, .int .i64 0]) ∧ Chg [] W w' := by
  have CC := Mem.Aside.mk (class_calls (x) hx)
  rw [hc, show ((6 : Nat) : Int) = 6 from rfl] at CC
  have CS := Mem.Aside.mk hS
  have CP := Mem.Aside.mk hP
  clear hx hc hS hP
  have hB : Blk (W.alloc (.cells #[.int .i64 0, .int .i64 0, .int .u64 0, .string noText, .int .u64 0] 83)) W.heap.size 83 [.int .i64 0, .int .i64 0, .int .u64 0, .string noText, .int .u64 0] := Blk.newL [_, _, _, _, _] rfl
  have e1 : Chg [] W (W.alloc (.cells #[.int .i64 0, .int .i64 0, .int .u64 0, .string noText, .int .u64 0] 83)) := (Chg.refl [] W).alloc _
  have HSZ : Mem.Aside (W.heap.size ≤ W.heap.size) := ⟨Nat.le_refl _⟩
  go_enter Try.func48, Try.ntmps48
  go_upto_region 1 with fail
  obtain ⟨b, hb⟩ : ∃ b, b = W.heap.size := ⟨_, rfl⟩
  have HSZ : Mem.Aside (W.heap.size ≤ b) := ⟨by rw [hb]; exact Nat.le_refl _⟩
  rw [← hb] at hB ⊢
  clear hb
  generalize W.alloc (.cells #[.int .i64 0, .int .i64 0, .int .u64 0, .string noText, .int .u64 0] 83) = W1 at hB e1 ⊢
  have z0 := hB.frozen 0
  have z1 := hB.frozen 1
  have z2 := hB.frozen 2
  have z3 := hB.frozen 3
  have z4 := hB.frozen 4
  have q0 := hB.cellAt (i := 0) rfl
  have q1 := hB.cellAt (i := 1) rfl
  have q2 := hB.cellAt (i := 2) rfl
  have q3 := hB.cellAt (i := 3) rfl
  have q4 := hB.cellAt (i := 4) rfl
  have HB := Mem.Aside.mk hB
  have HC := Mem.Aside.mk e1
  clear hB e1
  go_wp2_with (first
    | (go_at_call 102; (with_reducible refine (CC.out _).mono ?_); rintro e w' ⟨rfl, rfl⟩)
    | (go_at_call 99; (with_reducible refine (CS.out _ HC.out).mono ?_); rintro e w2 ⟨n, rfl, hc2⟩; obtain ⟨HB'⟩ : Nonempty (Mem.Aside (Blk w2 b 83 [.int .i64 0, .int .i64 0, .int .u64 0, .string noText, .int .u64 0])) := ⟨⟨HB.out.chg hc2 (by simp)⟩⟩; obtain ⟨HC'⟩ : Nonempty (Mem.Aside (Chg [] W w2)) := ⟨⟨HC.out.trans hc2⟩⟩; clear z0 z1 z2 z3 z4 q0 q1 q2 q3 q4 hc2; have z0 := HB'.out.frozen 0; have z1 := HB'.out.frozen 1; have z2 := HB'.out.frozen 2; have z3 := HB'.out.frozen 3; have z4 := HB'.out.frozen 4; have q0 := HB'.out.cellAt (i := 0) rfl; have q1 := HB'.out.cellAt (i := 1) rfl; have q2 := HB'.out.cellAt (i := 2) rfl; have q3 := HB'.out.cellAt (i := 3) rfl; have q4 := HB'.out.cellAt (i := 4) rfl)
    | (go_at_call 106; (with_reducible refine (CP.out _ HC'.out).mono ?_); rintro e w3 ⟨rfl, hc3⟩; obtain ⟨HB''⟩ : Nonempty (Mem.Aside (Blk w3 b 83 [.int .i64 0, .int .i64 0, .int .u64 0, .string noText, .int .u64 0])) := ⟨⟨HB'.out.chg hc3 (by simp)⟩⟩; obtain ⟨HC''⟩ : Nonempty (Mem.Aside (Chg [] W w3)) := ⟨⟨HC'.out.trans hc3⟩⟩; clear z0 z1 z2 z3 z4 q0 q1 q2 q3 q4 hc3; have z0 := HB''.out.frozen 0; have z1 := HB''.out.frozen 1; have z2 := HB''.out.frozen 2; have z3 := HB''.out.frozen 3; have z4 := HB''.out.frozen 4; have q0 := HB''.out.cellAt (i := 0) rfl; have q1 := HB''.out.cellAt (i := 1) rfl; have q2 := HB''.out.cellAt (i := 2) rfl; have q3 := HB''.out.cellAt (i := 3) rfl; have q4 := HB''.out.cellAt (i := 4) rfl))
  obtain ⟨d, hd1, hd2⟩ := underValue
  have hbF := (((((HB''.out).set 0 (.int .i64 4)).set 1 (.int .i64 i)).set 2 (.int .u64 0)).set 3 (.string s)).set 4 (.int .u64 0)
  have hcF := (((((HC''.out).setCell (p := ⟨b, 0, none⟩) (.inr HSZ.out) (.int .i64 4)).setCell (p := ⟨b, 1, none⟩) (.inr HSZ.out) (.int .i64 i)).setCell (p := ⟨b, 2, none⟩) (.inr HSZ.out) (.int .u64 0)).setCell (p := ⟨b, 3, none⟩) (.inr HSZ.out) (.string s)).setCell (p := ⟨b, 4, none⟩) (.inr HSZ.out) (.int .u64 0)
  have hbF2 : Blk _ b 83 [.int .i64 4, .int .i64 i, .int .u64 0, .string s, .int .u64 0] := hbF
  clear hbF
  refine bodyPost_ret (results_row_tmp rfl rfl hbF2 hd1 hd2 (by kernel_rfl)) rfl ⟨?_, ?_⟩
  · rfl
  · exact hcF
set_option maxRecDepth 100000 in
set_option maxHeartbeats 4000000 in
theorem unbox_thing (p : Nat) (W : World) {x : Nat} (hx : x < 18446744073709551616) (hc : cls x = 6) (i : Int) (s : ByteArray) (hS : ∀ W2, Chg [] W W2 → Calls Try.prog 99 #[.pointer (some ⟨p, 0, none⟩), .int .u64 (x : Int)] W2 fun e w' => ∃ n : Int, e = .returned (.tuple #[.int .i64 9, .bool false, .int .i64 n, .bool true]) ∧ Chg [] W2 w') (hP : ∀ W2, Chg [] W W2 → Calls Try.prog 106 #[.pointer (some ⟨p, 0, none⟩), .int .u64 (x : Int)] W2 fun e w' => e = .returned (.tuple #[.int .i64 i, .string s]) ∧ Chg [] W2 w') : Calls Try.prog 48 #[.pointer (some ⟨p, 0, none⟩), .int .u64 (x : Nat)] W fun e w' => e = .returned (.tuple #[valV 9 0 0 noText (x : Int), .int .i64 0]) ∧ Chg [] W w' := by
  have CC := Mem.Aside.mk (class_calls (x) hx)
  rw [hc, show ((6 : Nat) : Int) = 6 from rfl] at CC
  have CS := Mem.Aside.mk hS
  have CP := Mem.Aside.mk hP
  clear hx hc hS hP
  have hB : Blk (W.alloc (.cells #[.int .i64 0, .int .i64 0, .int .u64 0, .string noText, .int .u64 0] 83)) W.heap.size 83 [.int .i64 0, .int .i64 0, .int .u64 0, .string noText, .int .u64 0] := Blk.newL [_, _, _, _, _] rfl
  have e1 : Chg [] W (W.alloc (.cells #[.int .i64 0, .int .i64 0, .int .u64 0, .string noText, .int .u64 0] 83)) := (Chg.refl [] W).alloc _
  have HSZ : Mem.Aside (W.heap.size ≤ W.heap.size) := ⟨Nat.le_refl _⟩
  go_enter Try.func48, Try.ntmps48
  go_upto_region 1 with fail
  obtain ⟨b, hb⟩ : ∃ b, b = W.heap.size := ⟨_, rfl⟩
  have HSZ : Mem.Aside (W.heap.size ≤ b) := ⟨by rw [hb]; exact Nat.le_refl _⟩
  rw [← hb] at hB ⊢
  clear hb
  generalize W.alloc (.cells #[.int .i64 0, .int .i64 0, .int .u64 0, .string noText, .int .u64 0] 83) = W1 at hB e1 ⊢
  have z0 := hB.frozen 0
  have z1 := hB.frozen 1
  have z2 := hB.frozen 2
  have z3 := hB.frozen 3
  have z4 := hB.frozen 4
  have q0 := hB.cellAt (i := 0) rfl
  have q1 := hB.cellAt (i := 1) rfl
  have q2 := hB.cellAt (i := 2) rfl
  have q3 := hB.cellAt (i := 3) rfl
  have q4 := hB.cellAt (i := 4) rfl
  have HB := Mem.Aside.mk hB
  have HC := Mem.Aside.mk e1
  clear hB e1
  go_wp2_with (first
    | (go_at_call 102; (with_reducible refine (CC.out _).mono ?_); rintro e w' ⟨rfl, rfl⟩)
    | (go_at_call 99; (with_reducible refine (CS.out _ HC.out).mono ?_); rintro e w2 ⟨n, rfl, hc2⟩; obtain ⟨HB'⟩ : Nonempty (Mem.Aside (Blk w2 b 83 [.int .i64 0, .int .i64 0, .int .u64 0, .string noText, .int .u64 0])) := ⟨⟨HB.out.chg hc2 (by simp)⟩⟩; obtain ⟨HC'⟩ : Nonempty (Mem.Aside (Chg [] W w2)) := ⟨⟨HC.out.trans hc2⟩⟩; clear z0 z1 z2 z3 z4 q0 q1 q2 q3 q4 hc2; have z0 := HB'.out.frozen 0; have z1 := HB'.out.frozen 1; have z2 := HB'.out.frozen 2; have z3 := HB'.out.frozen 3; have z4 := HB'.out.frozen 4; have q0 := HB'.out.cellAt (i := 0) rfl; have q1 := HB'.out.cellAt (i := 1) rfl; have q2 := HB'.out.cellAt (i := 2) rfl; have q3 := HB'.out.cellAt (i := 3) rfl; have q4 := HB'.out.cellAt (i := 4) rfl)
    | (go_at_call 106; (with_reducible refine (CP.out _ HC'.out).mono ?_); rintro e w3 ⟨rfl, hc3⟩; obtain ⟨HB''⟩ : Nonempty (Mem.Aside (Blk w3 b 83 [.int .i64 0, .int .i64 0, .int .u64 0, .string noText, .int .u64 0])) := ⟨⟨HB'.out.chg hc3 (by simp)⟩⟩; obtain ⟨HC''⟩ : Nonempty (Mem.Aside (Chg [] W w3)) := ⟨⟨HC'.out.trans hc3⟩⟩; clear z0 z1 z2 z3 z4 q0 q1 q2 q3 q4 hc3; have z0 := HB''.out.frozen 0; have z1 := HB''.out.frozen 1; have z2 := HB''.out.frozen 2; have z3 := HB''.out.frozen 3; have z4 := HB''.out.frozen 4; have q0 := HB''.out.cellAt (i := 0) rfl; have q1 := HB''.out.cellAt (i := 1) rfl; have q2 := HB''.out.cellAt (i := 2) rfl; have q3 := HB''.out.cellAt (i := 3) rfl; have q4 := HB''.out.cellAt (i := 4) rfl))
  obtain ⟨d, hd1, hd2⟩ := underValue
  have hbF := (((((HB''.out).set 0 (.int .i64 9)).set 1 (.int .i64 0)).set 2 (.int .u64 0)).set 3 (.string noText)).set 4 (.int .u64 (x : Int))
  have hcF := (((((HC''.out).setCell (p := ⟨b, 0, none⟩) (.inr HSZ.out) (.int .i64 9)).setCell (p := ⟨b, 1, none⟩) (.inr HSZ.out) (.int .i64 0)).setCell (p := ⟨b, 2, none⟩) (.inr HSZ.out) (.int .u64 0)).setCell (p := ⟨b, 3, none⟩) (.inr HSZ.out) (.string noText)).setCell (p := ⟨b, 4, none⟩) (.inr HSZ.out) (.int .u64 (x : Int))
  have hbF2 : Blk _ b 83 [.int .i64 9, .int .i64 0, .int .u64 0, .string noText, .int .u64 (x : Int)] := hbF
  clear hbF
  refine bodyPost_ret (results_row_tmp rfl rfl hbF2 hd1 hd2 (by kernel_rfl)) rfl ⟨?_, ?_⟩
  · rfl
  · exact hcF
end Go.Proofs.Ytgimcpnelogadaa.Va
