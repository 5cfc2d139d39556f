/- Chapter 8: Compare. -/
import Derived.Test.YtgimcpnelogadaaTxA
import Derived.Lib.Strings
import Derived.Lib.Bytealg
namespace Go.Proofs.Ytgimcpnelogadaa.Tx
open Go.RowKit Go.Proofs.Ytgimcpnelogadaa.Mem Go.Proofs.Ytgimcpnelogadaa.Sto Go.Proofs.Ytgimcpnelogadaa.Wd Go.Proofs.Ytgimcpnelogadaa.Hp Go.Proofs.Ytgimcpnelogadaa.Va
set_option linter.unusedVariables false
set_option linter.unusedSimpArgs false
set_option maxRecDepth 100000 in
theorem bytecmp_calls (a b : ByteArray) (w : World) : Calls Try.prog 126 #[.string a, .string b] w fun e w' => e = .returned (.int .i64 (Lib.compareBytes a.data.toList b.data.toList)) ∧ w = w' := by
  go_enter Try.func126, Try.ntmps126
  go_wp2
  rw [run_callFunc_extern Try.func140 (by kernel_rfl) (by kernel_rfl) (by kernel_rfl) (e := Extern.BytealgCompare.compare) (by kernel_rfl), Lib.run_compareString]
  simp only [Result.andThen]
  rw [Oper.upon_value]
  go_wp2
  go_ret
  exact ⟨rfl, rfl⟩
set_option maxRecDepth 100000 in
theorem strcmp_calls (a b : ByteArray) (w : World) : Calls Try.prog 109 #[.string a, .string b] w fun e w' => e = .returned (.int .i64 (Lib.compareBytes a.data.toList b.data.toList)) ∧ w = w' := by
  have C := Mem.Aside.mk (bytecmp_calls a b)
  go_enter Try.func109, Try.ntmps109
  go_wp2_with (go_at_call 126; (with_reducible refine (C.out _).mono ?_); rintro e w' ⟨rfl, rfl⟩)
  go_ret
  exact ⟨rfl, rfl⟩
section
variable {W W' W1 : World} {p units : Nat} {L : List (Nat × Cel)} {G : List Nat} {x y : Nat} {s t : ByteArray}
set_option maxRecDepth 100000 in
theorem compare_k (h : HeapK p units L G W) (hs : Stands L x (.text s)) (ht : Stands L y (.text t)) (hok : s.size ≤ 8388608) (hot : t.size ≤ 8388608) :
    Calls Try.prog 55 #[.pointer (some ⟨p, 0, none⟩), .int .u64 (x : Int), .int .u64 (y : Int)] W fun e w' => e = .returned (.tuple #[.int .i64 (Lib.compareBytes s.data.toList t.data.toList), .int .i64 0]) ∧ Chg [] W w' := by
  have CT := Mem.Aside.mk (two_k h hs ht hok hot)
  have CC := Mem.Aside.mk (strcmp_calls s t)
  clear h hs ht
  go_enter Try.func55, Try.ntmps55
  go_wp2_with (first
    | (go_at_call 107; (with_reducible refine CT.out.mono ?_); rintro e w1 ⟨rfl, hc1⟩; have HC1 := Mem.Aside.mk hc1; clear hc1)
    | (go_at_call 109; (with_reducible refine (CC.out _).mono ?_); rintro e w' ⟨rfl, rfl⟩))
  go_ret2
  exact ⟨rfl, HC1.out⟩
end
end Go.Proofs.Ytgimcpnelogadaa.Tx
