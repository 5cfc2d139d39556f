/- Chapter 1: handles in words and out of them. -/
import Derived.Test.YtgimcpnelogadaaWdB
import Derived.Test.YtgimcpnelogadaaStH
namespace Go.Proofs.Ytgimcpnelogadaa.Wd
open Go.RowKit Go.Proofs.Ytgimcpnelogadaa.Mem Go.Proofs.Ytgimcpnelogadaa.Sto
set_option linter.unusedVariables false
set_option linter.unusedSimpArgs false

theorem hdl_mod {w n : Nat} (h : hdl w = some n) : n = w % 281474976710656 := by
  unfold hdl at h
  split at h
  · cases h; rfl
  · cases h
theorem toHandle_some {w n : Nat} (hw : w < 18446744073709551616) (h : hdl w = some n) (W : World) : Calls Try.prog 121 #[.int .u64 (w : Int)] W fun e w' => e = .returned (.tuple #[.int .u64 (n : Int), .bool true]) ∧ W = w' := by
  have CC := Mem.Aside.mk (class_calls w hw)
  have hc : cls w = 6 := (cls_hdl hw).2 (by rw [h]; rfl)
  rw [hc, show ((6 : Nat) : Int) = 6 from rfl] at CC
  have hL := and_mask w 48 (by omega) (by omega)
  have hL' : bits .and .u64 (w : Int) 281474976710655 = ((w % 281474976710656 : Nat) : Int) := hL
  have HN := Mem.Aside.mk (hdl_mod h)
  clear hL hc h
  go_enter Try.func121, Try.ntmps121
  go_wp2_with (go_at_call 102; (with_reducible refine (CC.out _).mono ?_); rintro e w' ⟨rfl, rfl⟩)
  go_ret2
  rw [HN.out]
  exact ⟨rfl, rfl⟩
theorem toHandle_none {w : Nat} (hw : w < 18446744073709551616) (h : hdl w = none) (W : World) : Calls Try.prog 121 #[.int .u64 (w : Int)] W fun e w' => e = .returned (.tuple #[.int .u64 0, .bool false]) ∧ W = w' := by
  have CC := Mem.Aside.mk (class_calls w hw)
  have hc : cls w ≠ 6 := fun e => by have := (cls_hdl hw).1 e; rw [h] at this; cases this
  obtain ⟨C, hC⟩ : ∃ C, C = cls w := ⟨_, rfl⟩
  rw [← hC] at CC hc
  have hc' : ((C : Int) != 6) = true := by simpa using fun e => hc (by omega)
  clear hC h hc
  go_enter Try.func121, Try.ntmps121
  go_wp2_with (go_at_call 102; (with_reducible refine (CC.out _).mono ?_); rintro e w' ⟨rfl, rfl⟩)
  go_ret2
  exact ⟨rfl, rfl⟩

/-- Two numbers without a bit in common. -/
theorem or_add (a b k : Nat) (ha : a < 18446744073709551616) (hb : b < 2 ^ k) (hk : k ≤ 64) (hm : a % 2 ^ k = 0) (hs : a + b < 18446744073709551616) : bits .or .u64 (a : Int) (b : Int) = ((a + b : Nat) : Int) := by
  have hk2 : 2 ^ k ≤ 2 ^ 64 := Nat.pow_le_pow_right (by omega) hk
  rw [u64_or_nat a b ha (by omega)]
  congr 1
  have e : a = 2 ^ k * (a / 2 ^ k) := by have := Nat.div_add_mod a (2 ^ k); omega
  rw [e, ← Nat.two_pow_add_eq_or_of_lt hb]
theorem fromHandle_calls (n : Nat) (hn : n < 281474976710656) (W : World) : Calls Try.prog 87 #[.int .u64 (n : Int)] W fun e w' => e = .returned (.tuple #[.int .u64 (hw n : Nat), .bool true]) ∧ W = w' := by
  go_enter Try.func87, Try.ntmps87
  go_wp2
  go_ret2
  have h1 : bits .or .u64 18444492273895866368 844424930131968 = 18445336698825998336 := or_add 18444492273895866368 844424930131968 50 (by decide) (by decide) (by decide) (by decide) (by decide)
  have h2 := or_add 18445336698825998336 n 48 (by decide) (by omega) (by decide) (by decide) (by omega)
  have h3 : bits .or .u64 (bits .or .u64 18444492273895866368 844424930131968) (n : Int) = (hw n : Nat) := by rw [h1]; exact h2
  refine ⟨?_, rfl⟩
  rw [← h3]
  rfl
end Go.Proofs.Ytgimcpnelogadaa.Wd
