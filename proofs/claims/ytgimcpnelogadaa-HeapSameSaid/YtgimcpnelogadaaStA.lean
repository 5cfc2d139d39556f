/- Chapter 5, the store, by hand: rounding up; how extents are compared. -/
import Derived.Test.YtgimcpnelogadaaMemA
import Derived.Test.YtgimcpnelogadaaStQ
import Derived.Test.YtgimcpnelogadaaProg
import Derived.Lib.Hide
import Derived.WalkLawsBesides
import Derived.WalkSpells
import Derived.Deep.DeepFit
import Derived.Outline
import Derived.Lib.QuoteBits
namespace Go.Proofs.Ytgimcpnelogadaa.Sto
open Go.RowKit Go.Proofs.Ytgimcpnelogadaa.Mem
set_option linter.unusedVariables false
set_option linter.unusedSimpArgs false

theorem nat_hi8 (m : Nat) (h : m < 2 ^ 64) : m &&& 18446744073709551608 = m / 8 * 8 := by
  apply Nat.eq_of_testBit_eq
  intro i
  rw [Nat.testBit_and, show (18446744073709551608 : Nat) = (2 ^ 61 - 1) <<< 3 by decide, show m / 8 * 8 = (m >>> 3) <<< 3 by rw [Nat.shiftLeft_eq, Nat.shiftRight_eq_div_pow], Nat.testBit_shiftLeft, Nat.testBit_shiftLeft, Nat.testBit_shiftRight, Nat.testBit_two_pow_sub_one]
  by_cases c : 3 ≤ i
  · by_cases d : i < 64
    · simp [c, show i - 3 < 61 by omega, show 3 + (i - 3) = i by omega]
    · have : m.testBit i = false := Nat.testBit_lt_two_pow (Nat.lt_of_lt_of_le h (Nat.pow_le_pow_right (by omega) (by omega)))
      simp [c, this, show 3 + (i - 3) = i by omega]
  · simp [c]
theorem andNot7 (n : Nat) (h : n ≤ 1000000000000) : bits .andNot .i64 ((n : Int) + 7) 7 = (up n : Nat) := by
  have e : ((n : Int) + 7) = ((n + 7 : Nat) : Int) := by omega
  rw [e]
  show IntKind.i64.wrap ((BitVec.ofInt 64 ((n + 7 : Nat) : Int) &&& ~~~BitVec.ofInt 64 ((7 : Nat) : Int)).toNat : Int) = _
  rw [BitVec.toNat_and, BitVec.toNat_not, ofInt_u64 _ (by omega), ofInt_u64 7 (by omega), show 2 ^ 64 - 1 - 7 = 18446744073709551608 by decide, nat_hi8 _ (by omega)]
  exact Go.Lib.wrap_i64_small _ (by omega)
theorem ret_int {k : IntKind} {a b : Int} (h : a = b) : Ending.returned (.int k a) = .returned (.int k b) := by rw [h]
theorem ret_bool {a b : Bool} (h : a = b) : Ending.returned (.bool a) = .returned (.bool b) := by rw [h]

theorem up_calls (n : Nat) (w : World) (h : n ≤ 1000000000000) : Calls Try.prog 61 #[.int .i64 (n : Int)] w fun e w' => e = .returned (.int .i64 (up n : Nat)) ∧ w = w' := by
  have hb := Aside.mk (andNot7 n h)
  go_enter Try.func61, Try.ntmps61
  go_wp2
  go_ret
  exact ⟨ret_int hb.out, rfl⟩

theorem nan_calls (x : Int) (w : World) : Calls Try.prog 127 #[.int .i64 x] w fun e w' => e = .returned (.bool false) ∧ w = w' := by
  go_enter Try.func127, Try.ntmps127
  go_wp2
  go_ret
  exact ⟨ret_bool (by simp), rfl⟩

/-- cmp.Compare. -/
def cmpI (x y : Int) : Int := if x < y then -1 else if y < x then 1 else 0
theorem compare_calls (x y : Int) (w : World) : Calls Try.prog 111 #[.int .i64 x, .int .i64 y] w fun e w' => e = .returned (.int .i64 (cmpI x y)) ∧ w = w' := by
  go_enter Try.func111, Try.ntmps111
  go_wp2_with (go_at_call 127; (with_reducible refine (nan_calls _ _).mono ?_); rintro e w' ⟨rfl, rfl⟩)
  all_goals go_ret
  · exact ⟨ret_int (by unfold cmpI; rw [if_pos (by assumption)]), rfl⟩
  · exact ⟨ret_int (by unfold cmpI; rw [if_neg (by omega), if_pos (by assumption)]), rfl⟩
  · exact ⟨ret_int (by unfold cmpI; rw [if_neg (by omega), if_neg (by omega)]), rfl⟩

/-- cmp.Or of two. -/
def orI (x y : Int) : Int := if x = 0 then y else x
theorem or_calls (B : Nat) (x y : Int) (w : World) (h : Blk w B 3 [.int .i64 x, .int .i64 y]) :
    Calls Try.prog 110 #[.slice (some ⟨B, 0, none⟩) 2 2] w fun e w' => e = .returned (.int .i64 (orI x y)) ∧ w = w' := by
  have h0 := h.cellAt (i := 0) rfl
  have h1 := h.cellAt (i := 1) rfl
  clear h
  go_enter Try.func110, Try.ntmps110
  go_wp2
  by_cases c : x = 0
  · subst c
    by_cases d : y = 0
    · subst d
      refine wp_loop_rounds 3 ?_
      iterate 3 (rw [rounds_succ]; go_wp2)
      go_ret
      exact ⟨ret_int (by simp [orI]), rfl⟩
    · refine wp_loop_rounds 2 ?_
      iterate 2 (rw [rounds_succ]; go_wp2)
      go_ret
      exact ⟨ret_int (by simp [orI]), rfl⟩
  · refine wp_loop_rounds 1 ?_
    rw [rounds_succ]; go_wp2
    go_ret
    exact ⟨ret_int (by simp [orI, c]), rfl⟩

/-- How two extents are compared. -/
def ordI (i1 a1 i2 a2 : Int) : Int := orI (cmpI a1 a2) (cmpI i1 i2)
set_option maxRecDepth 100000 in
theorem order_calls (i1 a1 l1 i2 a2 l2 : Int) (w : World) :
    Calls Try.prog 64 #[.agg #[.int .i64 i1, .int .i64 a1, .int .i64 l1], .agg #[.int .i64 i2, .int .i64 a2, .int .i64 l2]] w fun e w' => e = .returned (.int .i64 (ordI i1 a1 i2 a2)) ∧ Below w.heap.size w w' := by
  have hu := Try.underlying114
  go_enter Try.func64, Try.ntmps64
  go_wp2
  refine region_tail 10 (by kernel_rfl) (by kernel_rfl) ?_
  simp only [List.take_succ_cons, List.take_zero, List.drop_succ_cons, List.drop_zero]
  repeat (first | still_step | still_call (calls_same (compare_calls _ _ _)))
  refine wpStill_nil ?_
  go_wp2_with (go_at_call 110; (with_reducible refine (or_calls _ _ _ _ (Blk.newL _ (by simp)).drew).mono ?_); rintro e w' ⟨rfl, rfl⟩)
  go_ret
  exact ⟨rfl, ((((Below.refl _ _).alloc (Nat.le_refl _) _).alloc (by simp) _).alloc (by simp; omega) _).drew⟩
end Go.Proofs.Ytgimcpnelogadaa.Sto
