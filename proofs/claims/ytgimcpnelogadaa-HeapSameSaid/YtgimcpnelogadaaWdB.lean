/- Chapter 1: the functions on words that a heap asks. -/
import Derived.Test.YtgimcpnelogadaaWdA
import Derived.Test.YtgimcpnelogadaaStI
namespace Go.Proofs.Ytgimcpnelogadaa.Wd
open Go.RowKit Go.Proofs.Ytgimcpnelogadaa.Mem Go.Proofs.Ytgimcpnelogadaa.Sto
set_option linter.unusedVariables false
set_option linter.unusedSimpArgs false

theorem u64_in {n : Nat} (h : n < 18446744073709551616) : IntKind.u64.wrap (n : Int) = (n : Int) := by rw [IntKind.wrap_u64]; omega
theorem and_mask (w k : Nat) (hw : w < 2 ^ 64) (hk : k ≤ 64) : bits .and .u64 (w : Int) (((2 ^ k - 1 : Nat)) : Int) = ((w % 2 ^ k : Nat) : Int) := by
  have hk2 : 2 ^ k ≤ 2 ^ 64 := Nat.pow_le_pow_right (by omega) hk
  have hp : 0 < 2 ^ k := Nat.pow_pos (by omega)
  show IntKind.u64.wrap ((BitVec.ofInt 64 (w : Int) &&& BitVec.ofInt 64 ((2 ^ k - 1 : Nat) : Int)).toNat : Int) = _
  rw [BitVec.toNat_and, ofInt_u64 _ hw, ofInt_u64 _ (by omega), Nat.and_two_pow_sub_one_eq_mod]
  exact u64_in (by have := Nat.mod_lt w hp; omega)

theorem nan_calls (w : Nat) (hw : w < 18446744073709551616) (W : World) : Calls Try.prog 125 #[.int .u64 (w : Int)] W fun e w' => e = .returned (.bool (nanB w)) ∧ W = w' := by
  have hwr : IntKind.u64.wrap ((w : Int) * 2) = ((2 * w % 18446744073709551616 : Nat) : Int) := by rw [IntKind.wrap_u64]; omega
  have HW := Mem.Aside.mk hwr
  clear hwr
  go_enter Try.func125, Try.ntmps125
  go_wp2
  all_goals go_ret
  refine ⟨ret_bool ?_, rfl⟩
  rw [HW.out]
  unfold nanB
  congr 1
  exact propext ⟨fun h => by omega, fun h => by omega⟩
theorem class_calls (w : Nat) (hw : w < 18446744073709551616) (W : World) : Calls Try.prog 102 #[.int .u64 (w : Int)] W fun e w' => e = .returned (.int .i64 (cls w : Nat)) ∧ W = w' := by
  have CN := Mem.Aside.mk (nan_calls w hw)
  have hL := and_mask w 48 (by omega) (by omega)
  rw [show (2 ^ 48 - 1 : Nat) = 281474976710655 by decide, show (2 : Nat) ^ 48 = 281474976710656 by decide] at hL
  have hT : bits .and .u64 ((w : Int) / 281474976710656) 7 = ((w / 281474976710656 % 8 : Nat) : Int) := by
    have := and_mask (w / 281474976710656) 3 (by omega) (by omega)
    rw [show (2 ^ 3 - 1 : Nat) = 7 by decide, show (2 : Nat) ^ 3 = 8 by decide] at this
    rw [← this]; simp
  have hA40 : bits .and .u64 ((w : Int) % 281474976710656) 1099511627775 = ((w % 1099511627776 : Nat) : Int) := by
    rw [show (w : Int) % 281474976710656 = ((w % 281474976710656 : Nat) : Int) by omega]
    have := and_mask (w % 281474976710656) 40 (by omega) (by omega)
    rw [show (2 ^ 40 - 1 : Nat) = 1099511627775 by decide, show (2 : Nat) ^ 40 = 1099511627776 by decide, show w % 281474976710656 % 1099511627776 = w % 1099511627776 by omega] at this
    exact this
  obtain ⟨V, hV⟩ : ∃ V, V = w % 1099511627776 / 2 ^ (8 * (w % 281474976710656 / 1099511627776)) := ⟨_, rfl⟩
  have hKI : (((w : Int) % 1099511627776) / 2 ^ (8 * (w % 281474976710656 / 1099511627776)) = 0) ↔ V = 0 := by
    rw [show (w : Int) % 1099511627776 = ((w % 1099511627776 : Nat) : Int) by omega, hV, ← Int.natCast_eq_zero, Int.natCast_ediv, Int.natCast_pow]; rfl
  have HKI := Mem.Aside.mk hKI
  have HV := Mem.Aside.mk hV
  clear hKI hV
  obtain ⟨B, hB⟩ : ∃ B, B = nanB w := ⟨_, rfl⟩
  rw [← hB] at CN
  have hL' : bits .and .u64 (w : Int) 281474976710655 = ((w % 281474976710656 : Nat) : Int) := hL
  clear hL
  have HB := Mem.Aside.mk hB
  clear hB
  cases B with
  | false =>
    go_enter Try.func102, Try.ntmps102
    go_wp2_with (go_at_call 125; (with_reducible refine (CN.out _).mono ?_); rintro e w' ⟨rfl, rfl⟩)
    all_goals (try go_wp2)
    all_goals go_ret
    all_goals exact ⟨ret_int (by unfold cls; rw [← HB.out]; simp), rfl⟩
  | true =>
    by_cases c1 : w = 9221120237041090560
    · have c1' : ((w : Int) == 9221120237041090560) = true := by rw [c1]; decide
      have HC1 := Mem.Aside.mk c1
      clear c1
      go_enter Try.func102, Try.ntmps102
      go_wp2_with (go_at_call 125; (with_reducible refine (CN.out _).mono ?_); rintro e w' ⟨rfl, rfl⟩)
      all_goals go_ret
      all_goals exact ⟨ret_int (by unfold cls; rw [if_pos (.inr HC1.out)]; rfl), rfl⟩
    · have c1' : ((w : Int) == 9221120237041090560) = false := by simpa using fun h => c1 (by omega)
      have HC : Mem.Aside (¬ (nanB w = false ∨ w = 9221120237041090560)) := ⟨by rw [← HB.out]; simpa using c1⟩
      go_enter Try.func102, Try.ntmps102
      go_wp2_with (go_at_call 125; (with_reducible refine (CN.out _).mono ?_); rintro e w' ⟨rfl, rfl⟩)
      all_goals go_ret
      all_goals refine ⟨ret_int ?_, rfl⟩
      all_goals unfold cls
      all_goals rw [if_neg HC.out, ← HV.out]
      all_goals simp only [HKI.out, bne_iff_ne, beq_iff_eq, bne_eq_false_iff_eq, beq_eq_false_iff_ne, ne_eq, decide_eq_true_eq, decide_eq_false_iff_not, Bool.and_eq_true, Bool.and_eq_false_iff] at *
      all_goals (repeat' split) <;> first | rfl | omega | skip
end Go.Proofs.Ytgimcpnelogadaa.Wd
