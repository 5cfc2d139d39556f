/- Chapter 7: ValueNeeds: its cases joined. -/
import Derived.Test.YtgimcpnelogadaaVaK
namespace Go.Proofs.Ytgimcpnelogadaa.Va
open Go.RowKit Go.Proofs.Ytgimcpnelogadaa.Mem Go.Proofs.Ytgimcpnelogadaa.Sto Go.Proofs.Ytgimcpnelogadaa.Wd Go.Proofs.Ytgimcpnelogadaa.Hp
set_option linter.unusedVariables false
set_option linter.unusedSimpArgs false
set_option maxHeartbeats 16000000 in
set_option maxRecDepth 100000 in
theorem needs_walk {w : World} (k i b : Int) (s : ByteArray) (r u : Int) (hb : 0 ≤ b ∧ b < 18446744073709551616) :
    Calls Try.prog 16 #[.agg #[.int .i64 k, .int .i64 i, .int .u64 b, .string s, .int .u64 r], .int .i64 u] w fun e w' => e = .returned (.bool true) ∧ Chg [] w w' := by
  have HB0 : Mem.Aside (Blk (w.alloc (.cells #[.int .i64 k, .int .i64 i, .int .u64 b, .string s, .int .u64 r] 83)) w.heap.size 83 [.int .i64 k, .int .i64 i, .int .u64 b, .string s, .int .u64 r]) := ⟨Blk.newL [_, _, _, _, _] rfl⟩
  have HC0 : Mem.Aside (Chg [] w (w.alloc (.cells #[.int .i64 k, .int .i64 i, .int .u64 b, .string s, .int .u64 r] 83))) := ⟨(Chg.refl [] w).alloc _⟩
  rcases plain_at k i b s r hb.1 (w.alloc (.cells #[.int .i64 k, .int .i64 i, .int .u64 b, .string s, .int .u64 r] 83)) with ⟨⟨v, hv⟩, hp⟩ | hp
  · have CP := Mem.Aside.mk hp
    have HV := Mem.Aside.mk hv
    clear hp hv
    by_cases n1 : 300 < s.size
    · have n1' : (300 : Int) < (s.size : Int) := by omega
      clear n1
      go_enter Try.func16, Try.ntmps16
      go_wp2_with (go_at_call 51; (with_reducible refine CP.out.mono ?_); rintro e w1 ⟨rfl, hc1⟩; have HC1 := Mem.Aside.mk (HC0.out.then hc1 (by simp)); have b3 := (HB0.out.chg hc1 (by simp)).cellAt (i := 3) rfl; clear hc1)
      go_ret
      exact ⟨rfl, HC1.out⟩
    have n1' : (s.size : Int) ≤ 300 := by omega
    by_cases n2 : u < 0
    · clear n1
      go_enter Try.func16, Try.ntmps16
      go_wp2_with (go_at_call 51; (with_reducible refine CP.out.mono ?_); rintro e w1 ⟨rfl, hc1⟩; have HC1 := Mem.Aside.mk (HC0.out.then hc1 (by simp)); have b3 := (HB0.out.chg hc1 (by simp)).cellAt (i := 3) rfl; clear hc1)
      go_ret
      exact ⟨rfl, HC1.out⟩
    by_cases n3 : 100 < u
    · clear n1
      go_enter Try.func16, Try.ntmps16
      go_wp2_with (go_at_call 51; (with_reducible refine CP.out.mono ?_); rintro e w1 ⟨rfl, hc1⟩; have HC1 := Mem.Aside.mk (HC0.out.then hc1 (by simp)); have b3 := (HB0.out.chg hc1 (by simp)).cellAt (i := 3) rfl; clear hc1)
      go_ret
      exact ⟨rfl, HC1.out⟩
    obtain ⟨m, rfl⟩ : ∃ m : Nat, u = (m : Int) := ⟨u.toNat, by omega⟩
    have hm : m ≤ 100 := by omega
    have hmi : (m : Int) ≤ 100 := by omega
    obtain ⟨rfl, rfl, rfl, rfl, rfl⟩ := HV.out
    clear n2 n3 HB0 HC0 HV
    cases v with
    | nil => exact n_nil m 0 rfl ⟨hm, trivial, rfl⟩ hmi CP
    | bool c =>
      cases c with
      | true => exact n_true m 0 rfl ⟨hm, trivial, rfl⟩ hmi CP
      | false => exact n_false m 0 rfl ⟨hm, trivial, rfl⟩ hmi CP
    | int i =>
      by_cases c : Small i
      · exact n_small i c.1 c.2 m 0 rfl ⟨hm, trivial, by unfold Val.need Val.cel; simp [c]⟩ hmi CP
      · have e2 : (Val.int i).need = 2 := by unfold Val.need Val.cel; simp [c, intC]
        by_cases f1 : i < -140737488355328
        · exact n_below i f1 m 2 rfl ⟨hm, trivial, e2.symm⟩ hmi CP
        · exact n_above i (decide_eq_false f1) (by unfold Small at c; omega) m 2 rfl ⟨hm, trivial, e2.symm⟩ hmi CP
    | float b => exact n_float b m 0 rfl ⟨hm, by have := hb.2; show b < _; simp only [Val.b] at this; omega, rfl⟩ hmi CP
    | text s =>
      simp only [Val.t] at n1 n1'
      by_cases c : s.size ≤ 5
      · exact n_short s (decide_eq_false (by omega)) n1' m 0 rfl ⟨hm, by show s.size ≤ _; omega, by unfold Val.need Val.cel; simp [c]⟩ hmi CP
      · have e2 : (Val.text s).need = 1 + (s.size + 7) / 8 := by unfold Val.need Val.cel; simp [c, textC]
        exact n_long s (by omega) n1' m (1 + (s.size + 7) / 8) (by omega) (by omega) ⟨hm, by show s.size ≤ _; omega, e2.symm⟩ hmi CP
  · have CP := Mem.Aside.mk hp
    clear hp
    go_enter Try.func16, Try.ntmps16
    go_wp2_with (go_at_call 51; (with_reducible refine CP.out.mono ?_); rintro e w1 ⟨rfl, hc1⟩; have HC1 := Mem.Aside.mk (HC0.out.then hc1 (by simp)); clear hc1)
    go_ret
    exact ⟨rfl, HC1.out⟩
end Go.Proofs.Ytgimcpnelogadaa.Va
