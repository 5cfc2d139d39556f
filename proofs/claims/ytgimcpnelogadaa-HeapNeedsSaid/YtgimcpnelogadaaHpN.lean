/- Chapter 6: HeapNeeds walks. -/
import Derived.Test.YtgimcpnelogadaaHpM
namespace Go.Proofs.Ytgimcpnelogadaa.Hp
open Go.RowKit Go.Proofs.Ytgimcpnelogadaa.Mem Go.Proofs.Ytgimcpnelogadaa.Sto Go.Proofs.Ytgimcpnelogadaa.Wd
set_option linter.unusedVariables false
set_option linter.unusedSimpArgs false

theorem eights (n : Nat) : (1 + (n + 7) / 8 : Nat) = 1 + n / 8 + (n % 8 + 7) / 8 := by omega
set_option maxHeartbeats 16000000 in
set_option maxRecDepth 100000 in
theorem needs_walk (k : Int) (view : Bool) (i : Int) (tx : ByteArray) (a1 a2 : Option Addr) (n1 c1 n2 c2 : Nat) (b f l : Int) (w : World) :
    Calls Try.prog 8 #[.agg #[.int .i64 k, .bool view, .int .i64 i, .string tx, .slice a1 n1 c1, .slice a2 n2 c2, .int .u64 b, .int .i64 f, .int .i64 l]] w fun e w' => e = .returned (.bool true) ∧ Below w.heap.size w w' := by
  have hAl : Chg [] w (w.alloc (.cells #[.int .i64 k, .bool view, .int .i64 i, .string tx, .slice a1 n1 c1, .slice a2 n2 c2, .int .u64 b, .int .i64 f, .int .i64 l] 60)) := (Chg.refl [] w).alloc _
  by_cases t0 : 10000 < tx.size
  · have t0' : (10000 : Int) < (tx.size : Int) := by omega
    go_enter Try.func8, Try.ntmps8
    go_wp2
    go_ret
    exact ⟨rfl, hAl.below⟩
  have t0' : ¬ (10000 : Int) < (tx.size : Int) := by omega
  by_cases t1 : 10000 < n1
  · have t1' : (10000 : Int) < (n1 : Int) := by omega
    go_enter Try.func8, Try.ntmps8
    go_wp2
    go_ret
    exact ⟨rfl, hAl.below⟩
  have t1' : ¬ (10000 : Int) < (n1 : Int) := by omega
  by_cases t2 : 10000 < n2
  · have t2' : (10000 : Int) < (n2 : Int) := by omega
    go_enter Try.func8, Try.ntmps8
    go_wp2
    go_ret
    exact ⟨rfl, hAl.below⟩
  have t2' : ¬ (10000 : Int) < (n2 : Int) := by omega
  have CN := Mem.Aside.mk (need_calls k view i tx a1 a2 n1 c1 n2 c2 b f l (by omega) (by omega) (by omega))
  have HA := Mem.Aside.mk hAl
  obtain ⟨TL, hTL⟩ : ∃ TL, TL = tx.size := ⟨_, rfl⟩
  have w1 : IntKind.i64.wrap (1 + (TL : Int) / 8) = 1 + (TL : Int) / 8 := IntWalk.i64_in _ (by omega)
  have w2 : IntKind.i64.wrap ((TL : Int) % 8 + 7) = (TL : Int) % 8 + 7 := IntWalk.i64_in _ (by omega)
  have w3 : IntKind.i64.wrap (1 + (TL : Int) / 8 + ((TL : Int) % 8 + 7) / 8) = 1 + (TL : Int) / 8 + ((TL : Int) % 8 + 7) / 8 := IntWalk.i64_in _ (by omega)
  have v1 : IntKind.i64.wrap (1 + (n1 : Int) / 8) = 1 + (n1 : Int) / 8 := IntWalk.i64_in _ (by omega)
  have v2 : IntKind.i64.wrap ((n1 : Int) % 8 + 7) = (n1 : Int) % 8 + 7 := IntWalk.i64_in _ (by omega)
  have v3 : IntKind.i64.wrap (1 + (n1 : Int) / 8 + ((n1 : Int) % 8 + 7) / 8) = 1 + (n1 : Int) / 8 + ((n1 : Int) % 8 + 7) / 8 := IntWalk.i64_in _ (by omega)
  have u1 : IntKind.i64.wrap (1 + (n2 : Int)) = 1 + (n2 : Int) := IntWalk.i64_in _ (by omega)
  rw [← hTL] at CN t0'
  have sz : (tx.size : Int) = (TL : Int) := by omega
  have HTL := Mem.Aside.mk hTL
  clear hTL t0 t1 t2 hAl
  cases view with
  | true =>
    rw [show needN true k TL n1 n2 = 1 from rfl] at CN
    go_enter Try.func8, Try.ntmps8
    go_wp2_with (first
      | (go_at_call 36; (with_reducible refine (CN.out _).mono ?_); rintro e w4 ⟨rfl, hc4⟩; have HC4 := Mem.Aside.mk (HA.out.then hc4 (by simp)); clear hc4)
      | (go_at_call 37; (with_reducible refine (awake6_calls _).mono ?_); rintro e w9 ⟨rfl, hc9⟩; have HC9 := Mem.Aside.mk (HC4.out.then hc9 (by simp)); clear hc9))
    go_ret
    exact ⟨rfl, HC9.out.below⟩
  | false =>
    by_cases k2 : k = 2
    · subst k2
      rw [show needN false 2 TL n1 n2 = 2 from rfl] at CN
      go_enter Try.func8, Try.ntmps8
      go_wp2_with (first
        | (go_at_call 36; (with_reducible refine (CN.out _).mono ?_); rintro e w4 ⟨rfl, hc4⟩; have HC4 := Mem.Aside.mk (HA.out.then hc4 (by simp)); clear hc4)
        | (go_at_call 37; (with_reducible refine (awake6_calls _).mono ?_); rintro e w9 ⟨rfl, hc9⟩; have HC9 := Mem.Aside.mk (HC4.out.then hc9 (by simp)); clear hc9))
      go_ret
      exact ⟨rfl, HC9.out.below⟩
    by_cases k4 : k = 4
    · subst k4
      rw [show needN false 4 TL n1 n2 = 1 + (TL + 7) / 8 from rfl, eights] at CN
      have ee : ((1 + TL / 8 + (TL % 8 + 7) / 8 : Nat) : Int) = 1 + (TL : Int) / 8 + ((TL : Int) % 8 + 7) / 8 := by omega
      rw [ee] at CN
      go_enter Try.func8, Try.ntmps8
      go_wp2_with (first
        | (go_at_call 36; (with_reducible refine (CN.out _).mono ?_); rintro e w4 ⟨rfl, hc4⟩; have HC4 := Mem.Aside.mk (HA.out.then hc4 (by simp)); clear hc4)
        | (go_at_call 37; (with_reducible refine (awake6_calls _).mono ?_); rintro e w9 ⟨rfl, hc9⟩; have HC9 := Mem.Aside.mk (HC4.out.then hc9 (by simp)); clear hc9))
      go_ret
      exact ⟨rfl, HC9.out.below⟩
    by_cases k9 : k = 9
    · subst k9
      rw [show needN false 9 TL n1 n2 = 1 + n2 from rfl] at CN
      rw [show ((1 + n2 : Nat) : Int) = 1 + (n2 : Int) by omega] at CN
      go_enter Try.func8, Try.ntmps8
      go_wp2_with (first
        | (go_at_call 36; (with_reducible refine (CN.out _).mono ?_); rintro e w4 ⟨rfl, hc4⟩; have HC4 := Mem.Aside.mk (HA.out.then hc4 (by simp)); clear hc4)
        | (go_at_call 37; (with_reducible refine (awake6_calls _).mono ?_); rintro e w9 ⟨rfl, hc9⟩; have HC9 := Mem.Aside.mk (HC4.out.then hc9 (by simp)); clear hc9))
      go_ret
      exact ⟨rfl, HC9.out.below⟩
    by_cases k58 : k = 5 ∨ k = 6 ∨ k = 7 ∨ k = 8
    · have hn : needN false k TL n1 n2 = 1 + n1 / 8 + (n1 % 8 + 7) / 8 := by
        rw [← eights]
        rcases k58 with rfl | rfl | rfl | rfl <;> rfl
      rw [hn] at CN
      have ee : ((1 + n1 / 8 + (n1 % 8 + 7) / 8 : Nat) : Int) = 1 + (n1 : Int) / 8 + ((n1 : Int) % 8 + 7) / 8 := by omega
      rw [ee] at CN
      clear hn
      rcases k58 with rfl | rfl | rfl | rfl
      all_goals
        go_enter Try.func8, Try.ntmps8
        go_wp2_with (first
          | (go_at_call 36; (with_reducible refine (CN.out _).mono ?_); rintro e w4 ⟨rfl, hc4⟩; have HC4 := Mem.Aside.mk (HA.out.then hc4 (by simp)); clear hc4)
          | (go_at_call 37; (with_reducible refine (awake6_calls _).mono ?_); rintro e w9 ⟨rfl, hc9⟩; have HC9 := Mem.Aside.mk (HC4.out.then hc9 (by simp)); clear hc9))
        go_ret
        exact ⟨rfl, HC9.out.below⟩
    · have hn : needN false k TL n1 n2 = 1 := by
        have hw : widthN k = 0 := by unfold widthN; rw [if_neg (by omega), if_neg (by omega), if_neg (by omega), if_neg (by omega)]
        unfold needN
        rw [if_neg (by simp), if_neg k2, if_neg k4, if_neg k9, hw, if_neg (by decide)]
      rw [hn] at CN
      have e2 : (k == 2) = false := by simpa using k2
      have e4 : (k == 4) = false := by simpa using k4
      have e9 : (k == 9) = false := by simpa using k9
      have e5 : (k == 5) = false := by simp; omega
      have e6 : (k == 6) = false := by simp; omega
      have e7 : (k == 7) = false := by simp; omega
      have e8 : (k == 8) = false := by simp; omega
      clear hn k2 k4 k9 k58
      go_enter Try.func8, Try.ntmps8
      go_wp2_with (first
        | (go_at_call 36; (with_reducible refine (CN.out _).mono ?_); rintro e w4 ⟨rfl, hc4⟩; have HC4 := Mem.Aside.mk (HA.out.then hc4 (by simp)); clear hc4)
        | (go_at_call 37; (with_reducible refine (awake6_calls _).mono ?_); rintro e w9 ⟨rfl, hc9⟩; have HC9 := Mem.Aside.mk (HC4.out.then hc9 (by simp)); clear hc9))
      go_ret
      exact ⟨rfl, HC9.out.below⟩
end Go.Proofs.Ytgimcpnelogadaa.Hp
