/- Chapter 7: awake. -/
import Derived.Test.YtgimcpnelogadaaVaF
import Derived.Test.YtgimcpnelogadaaWdE
namespace Go.Proofs.Ytgimcpnelogadaa.Va
open Go.RowKit Go.Proofs.Ytgimcpnelogadaa.Mem Go.Proofs.Ytgimcpnelogadaa.Sto Go.Proofs.Ytgimcpnelogadaa.Wd Go.Proofs.Ytgimcpnelogadaa.Hp
set_option linter.unusedVariables false
set_option linter.unusedSimpArgs false
theorem Val.v_int (i : Int) : (Val.int i).v = .agg #[.int .i64 2, .int .i64 i, .int .u64 0, .string noText, .int .u64 0] := rfl
set_option maxHeartbeats 8000000 in
set_option maxRecDepth 100000 in
theorem awake7_calls (w : World) : Calls Try.prog 50 #[] w fun e w' => e = .returned (.bool true) ∧ Chg [] w w' := by
  have CN := Mem.Aside.mk (new_k 9 (by decide) w)
  rw [show ((9 : Nat) : Int) = 9 from rfl] at CN
  go_enter Try.func50, Try.ntmps50
  go_upto_region 5 with (first
    | (go_at_call 38; (with_reducible refine CN.out.mono ?_); rintro e w1 ⟨p, G, rfl, h1, hc1, hg1⟩; have H1 := Mem.Aside.mk h1; have HC1 := Mem.Aside.mk (And.intro hc1 hg1); have CB1 := Mem.Aside.mk (box_ok h1 (.int 5) trivial (rv := .slice none 0 0) (rs := []) (Row.nil _ _ _) (by simp) (by simp) (by simp) (by simp [hwC]) (by decide)); rw [Val.v_int] at CB1; clear h1 hc1 hg1)
    | (go_at_call 46; (with_reducible refine CB1.out.mono ?_); rintro e w2 ⟨a, K, G2, rfl, hc2, hg2, hs, h2, hn, hy, hk⟩; obtain rfl : K = [] := hk rfl; obtain rfl : a = 18444773748872577029 := hs.small; have H2 := Mem.Aside.mk h2; have HG2 := Mem.Aside.mk hg2; have HC2 := Mem.Aside.mk (HC1.out.1.then hc2 (fun x hx => .inr (HC1.out.2 x hx))); have CB2 := Mem.Aside.mk (box_ok h2 (.int 140737488355328) trivial (rv := .slice none 0 0) (rs := []) (Row.nil _ _ _) (by simp) (by simp) (by simp) (by simp [hwC]) (by decide)); rw [Val.v_int] at CB2; clear h2 hc2 hg2 hs hn hy hk))
  go_upto_region 7 with (first
    | (go_at_call 46; (with_reducible refine CB2.out.mono ?_); rintro e w3 ⟨b, K3, G3, rfl, hc3, hg3, hs3, h3, hn3, hy3, hk3⟩; have H3 := Mem.Aside.mk h3; have HC3 := Mem.Aside.mk (HC2.out.then hc3 (fun x hx => .inr (by rcases HG2.out x hx with e | e; exact HC1.out.2 x e; exact Nat.le_trans HC1.out.1.size e))); have CU := Mem.Aside.mk (unbox_k h3 (hs3.more (fun q hq => List.mem_append_right _ hq)) trivial (by simp)); rw [show (Val.int 140737488355328).u = .agg #[.int .i64 2, .int .i64 140737488355328, .int .u64 0, .string noText, .int .u64 0] from rfl] at CU; clear h3 hc3 hg3 hs3 hn3 hy3 hk3)
    | (go_at_call 48; (with_reducible refine CU.out.mono ?_); rintro e w4 ⟨rfl, hc4⟩; have HC4 := Mem.Aside.mk (HC3.out.then hc4 (by simp)); clear hc4))
  go_wp2
  go_ret
  exact ⟨rfl, HC4.out.alloc _⟩
end Go.Proofs.Ytgimcpnelogadaa.Va
