/- Chapter 1, the reference: classes of words, doubles. -/
import Derived.Test.YtgimcpnelogadaaWdD
namespace Go.Proofs.Ytgimcpnelogadaa.Wd
open Go.RowKit Go.Proofs.Ytgimcpnelogadaa.Mem Go.Proofs.Ytgimcpnelogadaa.Sto
set_option linter.unusedVariables false
set_option linter.unusedSimpArgs false
theorem nanB_iff (w : Nat) (hw : w < 18446744073709551616) : nanB w = true ↔ w / 4503599627370496 % 2048 = 2047 ∧ w % 4503599627370496 ≠ 0 := by
  unfold nanB
  rw [decide_eq_true_iff]
  omega
theorem rnan_calls (w : Nat) (hw : w < 18446744073709551616) (W : World) : Calls Try.prog 100 #[.int .u64 (w : Int)] W fun e w' => e = .returned (.bool (nanB w)) ∧ W = w' := by
  have hB := nanB_iff w hw
  by_cases c1 : w / 4503599627370496 % 2048 = 2047
  · have c1' : ((w : Int) / 4503599627370496 % 2048 == 2047) = true := by simpa using (by omega : (w : Int) / 4503599627370496 % 2048 = 2047)
    by_cases c2 : w % 4503599627370496 = 0
    · have c2' : ((w : Int) % 4503599627370496 != 0) = false := by simpa using (by omega : (w : Int) % 4503599627370496 = 0)
      have e : nanB w = false := by rw [← Bool.not_eq_true, hB]; omega
      rw [e]
      clear hB e c1 c2
      go_enter Try.func100, Try.ntmps100
      go_wp2
      go_ret
      exact ⟨rfl, rfl⟩
    · have c2' : ((w : Int) % 4503599627370496 != 0) = true := by simpa using (by omega : ¬ (w : Int) % 4503599627370496 = 0)
      have e : nanB w = true := hB.2 ⟨c1, c2⟩
      rw [e]
      clear hB e c1 c2
      go_enter Try.func100, Try.ntmps100
      go_wp2
      go_ret
      exact ⟨rfl, rfl⟩
  · have c1' : ((w : Int) / 4503599627370496 % 2048 == 2047) = false := by simpa using (by omega : ¬ (w : Int) / 4503599627370496 % 2048 = 2047)
    have e : nanB w = false := by rw [← Bool.not_eq_true, hB]; omega
    rw [e]
    clear hB e c1
    go_enter Try.func100, Try.ntmps100
    go_wp2
    go_ret
    exact ⟨rfl, rfl⟩
theorem rfloat_calls {b : Nat} (hb : b < 18446744073709551616) (W : World) : Calls Try.prog 49 #[.int .u64 (b : Int)] W fun e w' => e = .returned (.int .u64 (floatW b : Nat)) ∧ W = w' := by
  have CN := Mem.Aside.mk (rnan_calls b hb)
  unfold floatW
  cases hB : nanB b with
  | false =>
    rw [hB] at CN
    clear hB
    go_enter Try.func49, Try.ntmps49
    go_wp2_with (go_at_call 100; (with_reducible refine (CN.out _).mono ?_); rintro e w' ⟨rfl, rfl⟩)
    go_ret
    exact ⟨rfl, rfl⟩
  | true =>
    rw [hB] at CN
    clear hB
    go_enter Try.func49, Try.ntmps49
    go_wp2_with (go_at_call 100; (with_reducible refine (CN.out _).mono ?_); rintro e w' ⟨rfl, rfl⟩)
    go_ret
    exact ⟨rfl, rfl⟩
theorem power_calls (n : Nat) (hn : n < 64) (W : World) : Calls Try.prog 101 #[.int .i64 (n : Int)] W fun e w' => e = .returned (.int .u64 (2 ^ n : Nat)) ∧ W = w' := by
  go_enter Try.func101, Try.ntmps101
  go_wp2
  go_loop [3, 4] (fun x i => ∃ k : Nat, k ≤ n ∧ i = .int .i64 (k : Int) ∧ x = .int .u64 ((2 ^ k : Nat) : Int)) (fun _ i => n - (intOf i).toNat)
  case atStart => exact ⟨0, Nat.zero_le _, rfl, rfl⟩
  case round =>
    obtain ⟨k, hk, rfl, rfl⟩ := hrel
    by_cases c : k < n
    · have hp : 2 ^ (k + 1) ≤ 2 ^ 63 := Nat.pow_le_pow_right (by omega) (by omega)
      have he : IntKind.u64.wrap (2 * ((2 ^ k : Nat) : Int)) = ((2 ^ (k + 1) : Nat) : Int) := by
        rw [Nat.pow_succ] at hp ⊢
        rw [IntKind.wrap_u64]
        omega
      have c' : (k : Int) < (n : Int) := by omega
      obtain ⟨P, hP⟩ : ∃ P, P = 2 ^ k := ⟨_, rfl⟩
      obtain ⟨Q, hQ⟩ : ∃ Q, Q = 2 ^ (k + 1) := ⟨_, rfl⟩
      rw [← hP, ← hQ] at he
      rw [← hP]
      have HQ := Mem.Aside.mk hQ
      clear hP hQ hp
      go_wp2
      exact ⟨⟨k + 1, by omega, by go_num, by rw [← HQ.out]⟩, by simp [intOf]; omega⟩
    · have c' : ¬ (k : Int) < (n : Int) := by omega
      go_wp2
      obtain rfl : k = n := by omega
      go_ret
      exact ⟨rfl, rfl⟩
set_option maxRecDepth 100000 in
set_option maxHeartbeats 4000000 in
theorem rclass_calls (w : Nat) (hw : w < 18446744073709551616) (W : World) : Calls Try.prog 47 #[.int .u64 (w : Int)] W fun e w' => e = .returned (.int .i64 (cls w : Nat)) ∧ Chg [] W w' := by
  have CN := Mem.Aside.mk (rnan_calls w hw)
  have CP := Mem.Aside.mk (power_calls 40 (by omega))
  rw [show ((2 ^ 40 : Nat) : Int) = 1099511627776 by decide, show ((40 : Nat) : Int) = 40 from rfl] at CP
  cases hB : nanB w with
  | false =>
    rw [hB] at CN
    have e : cls w = 1 := by unfold cls; rw [if_pos (.inl hB)]
    rw [e]
    clear hB e
    go_enter Try.func47, Try.ntmps47
    go_wp2_with (go_at_call 100; (with_reducible refine (CN.out _).mono ?_); rintro e w' ⟨rfl, rfl⟩)
    go_ret
    exact ⟨rfl, Chg.refl _ _⟩
  | true =>
    rw [hB] at CN
    by_cases c1 : w = 9221120237041090560
    · have e : cls w = 1 := by unfold cls; rw [if_pos (.inr c1)]
      have c1' : ((w : Int) == 9221120237041090560) = true := by simpa using (by omega : (w : Int) = 9221120237041090560)
      rw [e]
      clear hB e c1
      go_enter Try.func47, Try.ntmps47
      go_wp2_with (go_at_call 100; (with_reducible refine (CN.out _).mono ?_); rintro e w' ⟨rfl, rfl⟩)
      go_ret
      exact ⟨rfl, Chg.refl _ _⟩
    · have c1' : ((w : Int) == 9221120237041090560) = false := by simpa using fun h => c1 (by omega)
      have hcl : cls w = if w / 2251799813685248 ≠ 8191 then 7 else if w / 281474976710656 % 8 = 0 then (if w % 281474976710656 = 0 then 3 else if w % 281474976710656 = 1 ∨ w % 281474976710656 = 2 then 4 else 7)
          else if w / 281474976710656 % 8 = 1 then 2 else if w / 281474976710656 % 8 = 2 then (if w % 281474976710656 / 1099511627776 ≤ 5 ∧ w % 1099511627776 / 2 ^ (8 * (w % 281474976710656 / 1099511627776)) = 0 then 5 else 7) else if w / 281474976710656 % 8 = 3 then 6 else 7 := by
        unfold cls
        rw [if_neg (by rw [hB]; simpa using c1)]
      by_cases c2 : w < 18444492273895866368
      · have e : cls w = 7 := by rw [hcl, if_pos (by omega)]
        have c2' : (w : Int) < 18444492273895866368 := by omega
        rw [e]
        clear hB e hcl
        go_enter Try.func47, Try.ntmps47
        go_wp2_with (go_at_call 100; (with_reducible refine (CN.out _).mono ?_); rintro e w' ⟨rfl, rfl⟩)
        go_ret
        exact ⟨rfl, Chg.refl _ _⟩
      · obtain ⟨T, hT⟩ : ∃ T, T = w / 281474976710656 % 8 := ⟨_, rfl⟩
        obtain ⟨l, hl⟩ : ∃ l, l = w % 281474976710656 := ⟨_, rfl⟩
        have hll : l < 281474976710656 := by omega
        have hm : w % 1099511627776 = l % 1099511627776 := by omega
        rw [if_neg (by omega), ← hT, ← hl, hm] at hcl
        have c2' : decide ((w : Int) < 18444492273895866368) = false := decide_eq_false (by omega)
        obtain ⟨D, hD⟩ : ∃ D, D = w - 18444492273895866368 := ⟨_, rfl⟩
        have f0 : IntKind.u64.wrap ((w : Int) - 18444492273895866368) = (D : Int) := by rw [IntKind.wrap_u64]; omega
        have f1 : (D : Int) / 281474976710656 = (T : Int) := by omega
        have f2 : (w : Int) % 281474976710656 = (l : Int) := by omega
        have hT8 : T < 8 := by omega
        have HH := Mem.Aside.mk hcl
        clear hB hcl hm hT hl c2 hw hD c1
        have hT' : T = 0 ∨ T = 1 ∨ T = 2 ∨ T = 3 ∨ (4 ≤ T) := by omega
        rcases hT' with rfl | rfl | rfl | rfl | h4
        · have hl' : l = 0 ∨ (l = 1 ∨ l = 2) ∨ 3 ≤ l := by omega
          rcases hl' with rfl | h1 | h3
          · rw [show cls w = 3 by rw [HH.out]; rfl]
            clear HH
            go_enter Try.func47, Try.ntmps47
            go_wp2_with (go_at_call 100; (with_reducible refine (CN.out _).mono ?_); rintro e w' ⟨rfl, rfl⟩)
            go_ret
            exact ⟨rfl, Chg.refl _ _⟩
          · rw [show cls w = 4 by rw [HH.out, if_pos rfl, if_neg (by omega), if_pos h1]]
            have g1 : ((l : Int) == 0) = false := by simpa using (by omega : ¬ l = 0)
            have g2 : (l : Int) ≤ 2 := by omega
            clear HH h1
            go_enter Try.func47, Try.ntmps47
            go_wp2_with (go_at_call 100; (with_reducible refine (CN.out _).mono ?_); rintro e w' ⟨rfl, rfl⟩)
            go_ret
            exact ⟨rfl, Chg.refl _ _⟩
          · rw [show cls w = 7 by rw [HH.out, if_pos rfl, if_neg (by omega), if_neg (by omega)]]
            have g1 : ((l : Int) == 0) = false := by simpa using (by omega : ¬ l = 0)
            have g2 : ¬ (l : Int) ≤ 2 := by omega
            have g3 : decide ((l : Int) ≤ 2) = false := decide_eq_false g2
            clear HH h3
            go_enter Try.func47, Try.ntmps47
            go_wp2_with (go_at_call 100; (with_reducible refine (CN.out _).mono ?_); rintro e w' ⟨rfl, rfl⟩)
            go_ret
            exact ⟨rfl, Chg.refl _ _⟩
        · rw [show cls w = 2 by rw [HH.out]; rfl]
          clear HH
          go_enter Try.func47, Try.ntmps47
          go_wp2_with (go_at_call 100; (with_reducible refine (CN.out _).mono ?_); rintro e w' ⟨rfl, rfl⟩)
          go_ret
          exact ⟨rfl, Chg.refl _ _⟩
        · obtain ⟨N, hN⟩ : ∃ N, N = l / 1099511627776 := ⟨_, rfl⟩
          have hN' : (l : Int) / 1099511627776 = (N : Int) := by omega
          have hwN : IntKind.i64.wrap (N : Int) = (N : Int) := IntWalk.i64_in _ (by omega)
          by_cases h5 : N ≤ 5
          · have g5 : (N : Int) ≤ 5 := by omega
            have CQ := Mem.Aside.mk (power_calls (8 * N) (by omega))
            have hmod : (l : Int) % 1099511627776 = ((l % 1099511627776 : Nat) : Int) := by omega
            have hcast : ((8 * N : Nat) : Int) = 8 * (N : Int) := by omega
            rw [hcast] at CQ
            obtain ⟨V, hV⟩ : ∃ V, V = 2 ^ (8 * N) := ⟨_, rfl⟩
            rw [← hV] at CQ
            have hdiv : (l % 1099511627776 / V = 0) ↔ l % 1099511627776 < V := Nat.div_eq_zero_iff_lt (by rw [hV]; exact Nat.pow_pos (by omega))
            have h8 : IntKind.i64.wrap (8 * (N : Int)) = 8 * (N : Int) := IntWalk.i64_in _ (by omega)
            by_cases h6 : l % 1099511627776 < V
            · rw [show cls w = 5 by rw [HH.out, ← hN, ← hV, if_neg (by omega), if_neg (by omega), if_pos rfl, if_pos ⟨h5, hdiv.2 h6⟩]]
              have g6 : (l : Int) % 1099511627776 < (V : Int) := by omega
              clear HH hV hdiv hmod hN h6
              go_enter Try.func47, Try.ntmps47
              go_upto_region 14 with (first
                | (go_at_call 100; (with_reducible refine (CN.out _).mono ?_); rintro e w' ⟨rfl, rfl⟩)
                | (go_at_call 101; (with_reducible refine (CP.out _).mono ?_); rintro e w' ⟨rfl, rfl⟩))
              go_quiet (first | (go_at_call 101; with_reducible refine Calls.quiet_of_same (calls_same (CP.out _))) | (go_at_call 101; with_reducible refine Calls.quiet_of_same (calls_same (CQ.out _))))
              go_wp2
              go_ret
              exact ⟨rfl, (Chg.refl [] _).drewN _⟩
            · rw [show cls w = 7 by rw [HH.out, ← hN, ← hV, if_neg (by omega), if_neg (by omega), if_pos rfl, if_neg (fun h => h6 (hdiv.1 h.2))]]
              have g6 : decide ((l : Int) % 1099511627776 < (V : Int)) = false := decide_eq_false (by omega)
              clear HH hV hdiv hmod hN h6
              go_enter Try.func47, Try.ntmps47
              go_upto_region 14 with (first
                | (go_at_call 100; (with_reducible refine (CN.out _).mono ?_); rintro e w' ⟨rfl, rfl⟩)
                | (go_at_call 101; (with_reducible refine (CP.out _).mono ?_); rintro e w' ⟨rfl, rfl⟩))
              go_quiet (first | (go_at_call 101; with_reducible refine Calls.quiet_of_same (calls_same (CP.out _))) | (go_at_call 101; with_reducible refine Calls.quiet_of_same (calls_same (CQ.out _))))
              go_wp2
              go_ret
              exact ⟨rfl, (Chg.refl [] _).drewN _⟩
          · have g5 : decide ((N : Int) ≤ 5) = false := decide_eq_false (by omega)
            rw [show cls w = 7 by rw [HH.out, ← hN, if_neg (by omega), if_neg (by omega), if_pos rfl, if_neg (fun h => h5 h.1)]]
            clear HH hN h5
            go_enter Try.func47, Try.ntmps47
            go_upto_region 14 with (first
              | (go_at_call 100; (with_reducible refine (CN.out _).mono ?_); rintro e w' ⟨rfl, rfl⟩)
              | (go_at_call 101; (with_reducible refine (CP.out _).mono ?_); rintro e w' ⟨rfl, rfl⟩))
            go_quiet (fail)
            go_wp2
            go_ret
            exact ⟨rfl, (Chg.refl [] _).drewN _⟩
        · rw [show cls w = 6 by rw [HH.out]; rfl]
          clear HH
          go_enter Try.func47, Try.ntmps47
          go_wp2_with (go_at_call 100; (with_reducible refine (CN.out _).mono ?_); rintro e w' ⟨rfl, rfl⟩)
          go_ret
          exact ⟨rfl, Chg.refl _ _⟩
        · rw [show cls w = 7 by rw [HH.out, if_neg (by omega), if_neg (by omega), if_neg (by omega), if_neg (by omega)]]
          have g0 : ((T : Int) == 0) = false := by simpa using (by omega : ¬ T = 0)
          have g1 : ((T : Int) == 1) = false := by simpa using (by omega : ¬ (T : Int) = 1)
          have g2 : ((T : Int) == 2) = false := by simpa using (by omega : ¬ (T : Int) = 2)
          have g3 : ((T : Int) == 3) = false := by simpa using (by omega : ¬ (T : Int) = 3)
          clear HH
          go_enter Try.func47, Try.ntmps47
          go_wp2_with (go_at_call 100; (with_reducible refine (CN.out _).mono ?_); rintro e w' ⟨rfl, rfl⟩)
          go_ret
          exact ⟨rfl, Chg.refl _ _⟩
end Go.Proofs.Ytgimcpnelogadaa.Wd
