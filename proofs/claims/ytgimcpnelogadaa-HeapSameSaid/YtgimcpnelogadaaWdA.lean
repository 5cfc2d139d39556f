/- Chapter 1, plain: what a word is. No program in sight. -/
import Derived.Test.YtgimcpnelogadaaStA
namespace Go.Proofs.Ytgimcpnelogadaa.Wd
set_option linter.unusedVariables false

/-- A NaN's pattern. -/
def nanB (w : Nat) : Bool := decide (18437736874454810624 < 2 * w % 18446744073709551616)
/-- Which class a word has. -/
def cls (w : Nat) : Nat :=
  if nanB w = false ∨ w = 9221120237041090560 then 1
  else if w / 2251799813685248 ≠ 8191 then 7
  else if w / 281474976710656 % 8 = 0 then (if w % 281474976710656 = 0 then 3 else if w % 281474976710656 = 1 ∨ w % 281474976710656 = 2 then 4 else 7)
  else if w / 281474976710656 % 8 = 1 then 2
  else if w / 281474976710656 % 8 = 2 then (if w % 281474976710656 / 1099511627776 ≤ 5 ∧ w % 1099511627776 / 2 ^ (8 * (w % 281474976710656 / 1099511627776)) = 0 then 5 else 7)
  else if w / 281474976710656 % 8 = 3 then 6
  else 7
/-- The number of a word's handle. -/
def hdl (w : Nat) : Option Nat := if w / 281474976710656 = 65531 then some (w % 281474976710656) else none
/-- The word of a handle. -/
def hw (n : Nat) : Nat := 18445336698825998336 + n
theorem hdl_hw {n : Nat} (h : n < 281474976710656) : hdl (hw n) = some n := by
  unfold hdl hw
  rw [if_pos (by omega)]
  congr 1
  omega
theorem hw_hdl {w n : Nat} (h : hdl w = some n) : w = hw n ∧ n < 281474976710656 := by
  unfold hdl at h
  split at h
  · cases h; unfold hw; omega
  · cases h
theorem cls_hdl {w : Nat} (h : w < 18446744073709551616) : cls w = 6 ↔ (hdl w).isSome := by
  unfold cls hdl nanB
  by_cases c : w / 281474976710656 = 65531
  · rw [if_pos c]
    have h1 : ¬ (decide (18437736874454810624 < 2 * w % 18446744073709551616) = false ∨ w = 9221120237041090560) := by
      rw [decide_eq_false_iff_not]; omega
    rw [if_neg h1, if_neg (by omega), if_neg (by omega), if_neg (by omega), if_neg (by omega), if_pos (by omega)]
    simp
  · rw [if_neg c]
    simp only [Option.isSome_none, Bool.false_eq_true, iff_false]
    intro he
    split at he
    · cases he
    · split at he
      · cases he
      · rename_i h2
        split at he
        · split at he
          · cases he
          · split at he <;> cases he
        · split at he
          · cases he
          · split at he
            · split at he <;> cases he
            · split at he
              · omega
              · cases he
end Go.Proofs.Ytgimcpnelogadaa.Wd
