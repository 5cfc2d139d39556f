/- Chapter 7: right. -/
import Derived.Test.YtgimcpnelogadaaWdD
namespace Go.Proofs.Ytgimcpnelogadaa.Va
open Go.RowKit Go.Proofs.Ytgimcpnelogadaa.Mem Go.Proofs.Ytgimcpnelogadaa.Sto Go.Proofs.Ytgimcpnelogadaa.Wd
set_option linter.unusedVariables false
set_option linter.unusedSimpArgs false
abbrev noText : ByteArray := { data := #[] }
/-- A value: kind, number, bits, text, reference. -/
def valV (k i b : Int) (s : ByteArray) (r : Int) : Value := .agg #[.int .i64 k, .int .i64 i, .int .u64 b, .string s, .int .u64 r]
set_option maxRecDepth 100000 in
theorem right_nil (W : World) : Calls Try.prog 93 #[valV 0 0 0 noText 0] W fun e w' => e = .returned (.bool true) ∧ Chg [] W w' := by
  unfold valV
  go_enter Try.func93, Try.ntmps93
  go_wp2
  go_ret
  exact ⟨rfl, ((Chg.refl _ _).alloc _).alloc _⟩
set_option maxRecDepth 100000 in
theorem right_false (W : World) : Calls Try.prog 93 #[valV 1 0 0 noText 0] W fun e w' => e = .returned (.bool true) ∧ Chg [] W w' := by
  unfold valV
  go_enter Try.func93, Try.ntmps93
  go_wp2
  go_ret
  exact ⟨rfl, ((Chg.refl _ _).alloc _).alloc _⟩
set_option maxRecDepth 100000 in
theorem right_true (W : World) : Calls Try.prog 93 #[valV 1 1 0 noText 0] W fun e w' => e = .returned (.bool true) ∧ Chg [] W w' := by
  unfold valV
  go_enter Try.func93, Try.ntmps93
  go_wp2
  go_ret
  exact ⟨rfl, ((Chg.refl _ _).alloc _).alloc _⟩
set_option maxRecDepth 100000 in
theorem right_int (i : Int) (W : World) : Calls Try.prog 93 #[valV 2 i 0 noText 0] W fun e w' => e = .returned (.bool true) ∧ Chg [] W w' := by
  unfold valV
  go_enter Try.func93, Try.ntmps93
  go_wp2
  go_ret
  exact ⟨rfl, ((Chg.refl _ _).alloc _).alloc _⟩
set_option maxRecDepth 100000 in
theorem right_float (b : Int) (W : World) : Calls Try.prog 93 #[valV 3 0 b noText 0] W fun e w' => e = .returned (.bool true) ∧ Chg [] W w' := by
  unfold valV
  go_enter Try.func93, Try.ntmps93
  go_wp2
  go_ret
  exact ⟨rfl, ((Chg.refl _ _).alloc _).alloc _⟩
set_option maxRecDepth 100000 in
theorem right_text (s : ByteArray) (W : World) : Calls Try.prog 93 #[valV 4 0 0 s 0] W fun e w' => e = .returned (.bool true) ∧ Chg [] W w' := by
  unfold valV
  go_enter Try.func93, Try.ntmps93
  go_wp2
  go_ret
  exact ⟨rfl, ((Chg.refl _ _).alloc _).alloc _⟩
end Go.Proofs.Ytgimcpnelogadaa.Va
