/- Chapter 7: Box, over what Put answers. -/
import Derived.Test.YtgimcpnelogadaaVaA
namespace Go.Proofs.Ytgimcpnelogadaa.Va
open Go.RowKit Go.Proofs.Ytgimcpnelogadaa.Mem Go.Proofs.Ytgimcpnelogadaa.Sto Go.Proofs.Ytgimcpnelogadaa.Wd
set_option linter.unusedVariables false
set_option linter.unusedSimpArgs false
/-- A call of Put answers a word and a number, of which Post holds. -/
def Puts (p : Nat) (c rv : Value) (W : World) (Post : Nat → Int → World → Prop) : Prop :=
  ∀ W2, Chg [] W W2 → Calls Try.prog 39 #[.pointer (some ⟨p, 0, none⟩), c, rv] W2 fun e w' => ∃ (a : Nat) (er : Int), e = .returned (.tuple #[.int .u64 (a : Int), .int .i64 er]) ∧ Post a er w'
set_option maxRecDepth 100000 in
set_option maxHeartbeats 4000000 in
theorem box_nil (p : Nat) (rv : Value) (W : World)  : Calls Try.prog 46 #[.pointer (some ⟨p, 0, none⟩), valV 0 0 0 noText 0, rv] W fun e w' => e = .returned (.tuple #[.int .u64 18444492273895866368, .int .i64 0]) ∧ Chg [] W w' := by
  have CR := Mem.Aside.mk (right_nil (W.alloc (.cells #[.int .i64 0, .int .i64 0, .int .u64 0, .string noText, .int .u64 0] 83)))
  have CF := Mem.Aside.mk fromNil_calls
  unfold valV at CR ⊢
  go_enter Try.func46, Try.ntmps46
  go_wp2_with (first
    | (go_at_call 93; (with_reducible refine CR.out.mono ?_); rintro e w1 ⟨rfl, hc1⟩; have HC1 := Mem.Aside.mk (((Chg.refl [] W).alloc _).trans hc1); have hb := (Blk.newL (w := W) (t := 83) [.int .i64 0, .int .i64 0, .int .u64 0, .string noText, .int .u64 0] rfl).chg hc1 (by simp); have b0 := hb.cellAt (i := 0) rfl; have b1 := hb.cellAt (i := 1) rfl; have b2 := hb.cellAt (i := 2) rfl; have b3 := hb.cellAt (i := 3) rfl; have b4 := hb.cellAt (i := 4) rfl; clear hc1 hb)
    | (go_at_call 94; (with_reducible refine (CF.out _).mono ?_); rintro e w' ⟨rfl, rfl⟩))
  go_ret2
  exact ⟨rfl, HC1.out⟩
set_option maxRecDepth 100000 in
set_option maxHeartbeats 4000000 in
theorem box_true (p : Nat) (rv : Value) (W : World)  : Calls Try.prog 46 #[.pointer (some ⟨p, 0, none⟩), valV 1 1 0 noText 0, rv] W fun e w' => e = .returned (.tuple #[.int .u64 18444492273895866370, .int .i64 0]) ∧ Chg [] W w' := by
  have CR := Mem.Aside.mk (right_true (W.alloc (.cells #[.int .i64 1, .int .i64 1, .int .u64 0, .string noText, .int .u64 0] 83)))
  have CF := Mem.Aside.mk (fromBool_calls true)
  rw [show ((boolW true : Nat) : Int) = 18444492273895866370 from rfl] at CF
  unfold valV at CR ⊢
  go_enter Try.func46, Try.ntmps46
  go_wp2_with (first
    | (go_at_call 93; (with_reducible refine CR.out.mono ?_); rintro e w1 ⟨rfl, hc1⟩; have HC1 := Mem.Aside.mk (((Chg.refl [] W).alloc _).trans hc1); have hb := (Blk.newL (w := W) (t := 83) [.int .i64 1, .int .i64 1, .int .u64 0, .string noText, .int .u64 0] rfl).chg hc1 (by simp); have b0 := hb.cellAt (i := 0) rfl; have b1 := hb.cellAt (i := 1) rfl; have b2 := hb.cellAt (i := 2) rfl; have b3 := hb.cellAt (i := 3) rfl; have b4 := hb.cellAt (i := 4) rfl; clear hc1 hb)
    | (go_at_call 95; (with_reducible refine (CF.out _).mono ?_); rintro e w' ⟨rfl, rfl⟩))
  go_ret2
  exact ⟨rfl, HC1.out⟩
set_option maxRecDepth 100000 in
set_option maxHeartbeats 4000000 in
theorem box_false (p : Nat) (rv : Value) (W : World)  : Calls Try.prog 46 #[.pointer (some ⟨p, 0, none⟩), valV 1 0 0 noText 0, rv] W fun e w' => e = .returned (.tuple #[.int .u64 18444492273895866369, .int .i64 0]) ∧ Chg [] W w' := by
  have CR := Mem.Aside.mk (right_false (W.alloc (.cells #[.int .i64 1, .int .i64 0, .int .u64 0, .string noText, .int .u64 0] 83)))
  have CF := Mem.Aside.mk (fromBool_calls false)
  rw [show ((boolW false : Nat) : Int) = 18444492273895866369 from rfl] at CF
  unfold valV at CR ⊢
  go_enter Try.func46, Try.ntmps46
  go_wp2_with (first
    | (go_at_call 93; (with_reducible refine CR.out.mono ?_); rintro e w1 ⟨rfl, hc1⟩; have HC1 := Mem.Aside.mk (((Chg.refl [] W).alloc _).trans hc1); have hb := (Blk.newL (w := W) (t := 83) [.int .i64 1, .int .i64 0, .int .u64 0, .string noText, .int .u64 0] rfl).chg hc1 (by simp); have b0 := hb.cellAt (i := 0) rfl; have b1 := hb.cellAt (i := 1) rfl; have b2 := hb.cellAt (i := 2) rfl; have b3 := hb.cellAt (i := 3) rfl; have b4 := hb.cellAt (i := 4) rfl; clear hc1 hb)
    | (go_at_call 95; (with_reducible refine (CF.out _).mono ?_); rintro e w' ⟨rfl, rfl⟩))
  go_ret2
  exact ⟨rfl, HC1.out⟩
set_option maxRecDepth 100000 in
set_option maxHeartbeats 4000000 in
theorem box_small (p : Nat) (rv : Value) (W : World) {i : Int} (h : Small i) : Calls Try.prog 46 #[.pointer (some ⟨p, 0, none⟩), valV 2 i 0 noText 0, rv] W fun e w' => e = .returned (.tuple #[.int .u64 (intW i : Nat), .int .i64 0]) ∧ Chg [] W w' := by
  have CR := Mem.Aside.mk (right_int i (W.alloc (.cells #[.int .i64 2, .int .i64 i, .int .u64 0, .string noText, .int .u64 0] 83)))
  have CF := Mem.Aside.mk (fromInt_small h)
  clear h
  unfold valV at CR ⊢
  go_enter Try.func46, Try.ntmps46
  go_wp2_with (first
    | (go_at_call 93; (with_reducible refine CR.out.mono ?_); rintro e w1 ⟨rfl, hc1⟩; have HC1 := Mem.Aside.mk (((Chg.refl [] W).alloc _).trans hc1); have hb := (Blk.newL (w := W) (t := 83) [.int .i64 2, .int .i64 i, .int .u64 0, .string noText, .int .u64 0] rfl).chg hc1 (by simp); have b0 := hb.cellAt (i := 0) rfl; have b1 := hb.cellAt (i := 1) rfl; have b2 := hb.cellAt (i := 2) rfl; have b3 := hb.cellAt (i := 3) rfl; have b4 := hb.cellAt (i := 4) rfl; clear hc1 hb)
    | (go_at_call 96; (with_reducible refine (CF.out _).mono ?_); rintro e w' ⟨rfl, rfl⟩))
  go_ret2
  exact ⟨rfl, HC1.out⟩
set_option maxRecDepth 100000 in
set_option maxHeartbeats 4000000 in
theorem box_great (p : Nat) (rv : Value) (W : World) {i : Int} (h : ¬ Small i) {Post : Nat → Int → World → Prop} (hp : Puts p (.agg #[.int .i64 2, .bool false, .int .i64 i, .string noText, .slice none 0 0, .slice none 0 0, .int .u64 0, .int .i64 0, .int .i64 0]) rv W Post) : Calls Try.prog 46 #[.pointer (some ⟨p, 0, none⟩), valV 2 i 0 noText 0, rv] W fun e w' => ∃ (a : Nat) (er : Int), e = .returned (.tuple #[.int .u64 (a : Int), .int .i64 er]) ∧ Post a er w' := by
  have CR := Mem.Aside.mk (right_int i (W.alloc (.cells #[.int .i64 2, .int .i64 i, .int .u64 0, .string noText, .int .u64 0] 83)))
  have CF := Mem.Aside.mk (fromInt_great h)
  have HP := Mem.Aside.mk hp
  unfold Puts at HP
  clear h hp
  unfold valV at CR ⊢
  go_enter Try.func46, Try.ntmps46
  go_wp2_with (first
    | (go_at_call 93; (with_reducible refine CR.out.mono ?_); rintro e w1 ⟨rfl, hc1⟩; have HC1 := Mem.Aside.mk (((Chg.refl [] W).alloc _).trans hc1); have hb := (Blk.newL (w := W) (t := 83) [.int .i64 2, .int .i64 i, .int .u64 0, .string noText, .int .u64 0] rfl).chg hc1 (by simp); have b0 := hb.cellAt (i := 0) rfl; have b1 := hb.cellAt (i := 1) rfl; have b2 := hb.cellAt (i := 2) rfl; have b3 := hb.cellAt (i := 3) rfl; have b4 := hb.cellAt (i := 4) rfl; clear hc1 hb)
    | (go_at_call 96; (with_reducible refine (CF.out _).mono ?_); rintro e w' ⟨rfl, rfl⟩)
    | (go_at_call 39; (with_reducible refine (HP.out _ HC1.out).mono ?_); rintro e w2 ⟨a, er, rfl, hp⟩; have HPO := Mem.Aside.mk hp; clear hp))
  go_ret2
  exact ⟨a, er, rfl, HPO.out⟩
set_option maxRecDepth 100000 in
set_option maxHeartbeats 4000000 in
theorem box_float (p : Nat) (rv : Value) (W : World) {b : Nat} (h : b < 18446744073709551616) : Calls Try.prog 46 #[.pointer (some ⟨p, 0, none⟩), valV 3 0 (b : Int) noText 0, rv] W fun e w' => e = .returned (.tuple #[.int .u64 (floatW b : Nat), .int .i64 0]) ∧ Chg [] W w' := by
  have CR := Mem.Aside.mk (right_float b (W.alloc (.cells #[.int .i64 3, .int .i64 0, .int .u64 (b : Int), .string noText, .int .u64 0] 83)))
  have CF := Mem.Aside.mk (fromFloat_calls h)
  clear h
  unfold valV at CR ⊢
  go_enter Try.func46, Try.ntmps46
  go_wp2_with (first
    | (go_at_call 93; (with_reducible refine CR.out.mono ?_); rintro e w1 ⟨rfl, hc1⟩; have HC1 := Mem.Aside.mk (((Chg.refl [] W).alloc _).trans hc1); have hb := (Blk.newL (w := W) (t := 83) [.int .i64 3, .int .i64 0, .int .u64 (b : Int), .string noText, .int .u64 0] rfl).chg hc1 (by simp); have b0 := hb.cellAt (i := 0) rfl; have b1 := hb.cellAt (i := 1) rfl; have b2 := hb.cellAt (i := 2) rfl; have b3 := hb.cellAt (i := 3) rfl; have b4 := hb.cellAt (i := 4) rfl; clear hc1 hb)
    | (go_at_call 97; (with_reducible refine (CF.out _).mono ?_); rintro e w' ⟨rfl, rfl⟩))
  go_ret2
  exact ⟨rfl, HC1.out⟩
set_option maxRecDepth 100000 in
set_option maxHeartbeats 4000000 in
theorem box_short (p : Nat) (rv : Value) (W : World) {s : ByteArray} (h : s.size ≤ 5) : Calls Try.prog 46 #[.pointer (some ⟨p, 0, none⟩), valV 4 0 0 s 0, rv] W fun e w' => e = .returned (.tuple #[.int .u64 (textW s : Nat), .int .i64 0]) ∧ Chg [] W w' := by
  have CR := Mem.Aside.mk (right_text s (W.alloc (.cells #[.int .i64 4, .int .i64 0, .int .u64 0, .string s, .int .u64 0] 83)))
  have CF := Mem.Aside.mk (fromText_short h)
  have hs : ¬ (8388608 : Int) < (s.size : Int) := by omega
  clear h
  unfold valV at CR ⊢
  go_enter Try.func46, Try.ntmps46
  go_wp2_with (first
    | (go_at_call 93; (with_reducible refine CR.out.mono ?_); rintro e w1 ⟨rfl, hc1⟩; have HC1 := Mem.Aside.mk (((Chg.refl [] W).alloc _).trans hc1); have hb := (Blk.newL (w := W) (t := 83) [.int .i64 4, .int .i64 0, .int .u64 0, .string s, .int .u64 0] rfl).chg hc1 (by simp); have b0 := hb.cellAt (i := 0) rfl; have b1 := hb.cellAt (i := 1) rfl; have b2 := hb.cellAt (i := 2) rfl; have b3 := hb.cellAt (i := 3) rfl; have b4 := hb.cellAt (i := 4) rfl; clear hc1 hb)
    | (go_at_call 98; (with_reducible refine (CF.out _).mono ?_); rintro e w' ⟨rfl, rfl⟩))
  go_ret2
  exact ⟨rfl, HC1.out⟩
set_option maxRecDepth 100000 in
set_option maxHeartbeats 4000000 in
theorem box_long (p : Nat) (rv : Value) (W : World) {s : ByteArray} (h : 5 < s.size) (hl : s.size ≤ 8388608) {Post : Nat → Int → World → Prop} (hp : Puts p (.agg #[.int .i64 4, .bool false, .int .i64 0, .string s, .slice none 0 0, .slice none 0 0, .int .u64 0, .int .i64 0, .int .i64 0]) rv W Post) : Calls Try.prog 46 #[.pointer (some ⟨p, 0, none⟩), valV 4 0 0 s 0, rv] W fun e w' => ∃ (a : Nat) (er : Int), e = .returned (.tuple #[.int .u64 (a : Int), .int .i64 er]) ∧ Post a er w' := by
  have CR := Mem.Aside.mk (right_text s (W.alloc (.cells #[.int .i64 4, .int .i64 0, .int .u64 0, .string s, .int .u64 0] 83)))
  have CF := Mem.Aside.mk (fromText_long h)
  have HP := Mem.Aside.mk hp
  unfold Puts at HP
  have hs : ¬ (8388608 : Int) < (s.size : Int) := by omega
  clear h hp hl
  unfold valV at CR ⊢
  go_enter Try.func46, Try.ntmps46
  go_wp2_with (first
    | (go_at_call 93; (with_reducible refine CR.out.mono ?_); rintro e w1 ⟨rfl, hc1⟩; have HC1 := Mem.Aside.mk (((Chg.refl [] W).alloc _).trans hc1); have hb := (Blk.newL (w := W) (t := 83) [.int .i64 4, .int .i64 0, .int .u64 0, .string s, .int .u64 0] rfl).chg hc1 (by simp); have b0 := hb.cellAt (i := 0) rfl; have b1 := hb.cellAt (i := 1) rfl; have b2 := hb.cellAt (i := 2) rfl; have b3 := hb.cellAt (i := 3) rfl; have b4 := hb.cellAt (i := 4) rfl; clear hc1 hb)
    | (go_at_call 98; (with_reducible refine (CF.out _).mono ?_); rintro e w' ⟨rfl, rfl⟩)
    | (go_at_call 39; (with_reducible refine (HP.out _ HC1.out).mono ?_); rintro e w2 ⟨a, er, rfl, hp⟩; have HPO := Mem.Aside.mk hp; clear hp))
  go_ret2
  exact ⟨a, er, rfl, HPO.out⟩
end Go.Proofs.Ytgimcpnelogadaa.Va
