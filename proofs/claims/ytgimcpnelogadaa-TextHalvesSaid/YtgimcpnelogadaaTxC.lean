/- Chapter 8: awake. -/
import Derived.Test.YtgimcpnelogadaaTxB
namespace Go.Proofs.Ytgimcpnelogadaa.Tx
open Go.RowKit Go.Proofs.Ytgimcpnelogadaa.Mem Go.Proofs.Ytgimcpnelogadaa.Sto Go.Proofs.Ytgimcpnelogadaa.Wd Go.Proofs.Ytgimcpnelogadaa.Hp Go.Proofs.Ytgimcpnelogadaa.Va
set_option linter.unusedVariables false
set_option linter.unusedSimpArgs false
theorem v_text (s : ByteArray) : (Val.text s).v = .agg #[.int .i64 4, .int .i64 0, .int .u64 0, .string s, .int .u64 0] := rfl
abbrev abc : ByteArray := { data := #[97, 98, 99] }
abbrev abcabc : ByteArray := { data := #[97, 98, 99, 97, 98, 99] }
set_option maxHeartbeats 8000000 in
set_option maxRecDepth 100000 in
theorem awake8_calls (w : World) : Calls Try.prog 57 #[] w fun e w' => e = .returned (.bool true) ∧ Chg [] w w' := by
  have CN := Mem.Aside.mk (new_k 9 (by decide) w)
  rw [show ((9 : Nat) : Int) = 9 from rfl] at CN
  go_enter Try.func57, Try.ntmps57
  go_wp2_with (first
    | (go_at_call 38; (with_reducible refine CN.out.mono ?_); rintro e w1 ⟨p, G, rfl, h1, hc1, hg1⟩; have H1 := Mem.Aside.mk h1; have HC1 := Mem.Aside.mk (And.intro hc1 hg1); have CB1 := Mem.Aside.mk (box_ok h1 (.text abc) (by show (3 : Nat) ≤ _; decide) (rv := .slice none 0 0) (rs := []) (Row.nil _ _ _) (by simp) (by simp) (by simp) (by simp [hwC]) (by decide)); rw [v_text] at CB1; clear h1 hc1 hg1)
    | (go_at_call 46; (with_reducible refine CB1.out.mono ?_); rintro e w2 ⟨a, K, G2, rfl, hc2, hg2, hs, h2, hn, hy, hk⟩; obtain rfl : K = [] := hk rfl; have H2 := Mem.Aside.mk h2; have HS2 := Mem.Aside.mk hs; have HG2 := Mem.Aside.mk hg2; have HC2 := Mem.Aside.mk (HC1.out.1.then hc2 (fun x hx => .inr (HC1.out.2 x hx))); have CC := Mem.Aside.mk (concat_k h2 (hs.more (fun q hq => by simp at hq)) (hs.more (fun q hq => by simp at hq)) (by show (3 : Nat) ≤ _; decide) (by show (3 : Nat) ≤ _; decide) (by show (abc ++ abc).size ≤ _; decide) (by show _ ≤ _; decide) (rv := .slice none 0 0) (rs := []) (Row.nil _ _ _) (by simp) (by simp) (by simp) (by simp [hwC])); rw [show abc ++ abc = abcabc from by decide] at CC; clear h2 hc2 hg2 hs hn hy hk)
    | (go_at_call 54; (with_reducible refine CC.out.mono ?_); rintro e w3 ⟨b, K3, G3, rfl, hc3, hg3, hs3, h3, hn3, hy3⟩; have HC3 := Mem.Aside.mk (HC2.out.then hc3 (fun x hx => .inr (by rcases HG2.out x hx with e | e; exact HC1.out.2 x e; exact Nat.le_trans HC1.out.1.size e))); have CO := Mem.Aside.mk (of_k h3 (hs3.more (fun q hq => List.mem_append_right _ hq)) (by show (6 : Nat) ≤ _; decide)); have CL := Mem.Aside.mk (fun (W : World) (hc : Chg [] w3 W) => len_k (h3.chg hc (by simp)) (hs3.more (fun q hq => List.mem_append_right _ hq)) (by show (6 : Nat) ≤ _; decide)); clear h3 hc3 hg3 hs3 hn3 hy3)
    | (go_at_call 56; (with_reducible refine CO.out.mono ?_); rintro e w4 ⟨rfl, hc4⟩; have HC4 := Mem.Aside.mk hc4; clear hc4)
    | (go_at_call 58; (with_reducible refine (CL.out _ HC4.out).mono ?_); rintro e w5 ⟨rfl, hc5⟩; have HC5 := Mem.Aside.mk (HC3.out.then (HC4.out.trans hc5) (by simp)); clear hc5))
  go_ret
  exact ⟨rfl, HC5.out⟩
end Go.Proofs.Ytgimcpnelogadaa.Tx
