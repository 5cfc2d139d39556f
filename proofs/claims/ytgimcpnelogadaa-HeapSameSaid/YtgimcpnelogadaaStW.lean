/- Chapter 5, the store: what is used; casketlaw5.awake. -/
import Derived.Test.YtgimcpnelogadaaStV
namespace Go.Proofs.Ytgimcpnelogadaa.Sto
open Go.RowKit Go.Proofs.Ytgimcpnelogadaa.Mem
set_option linter.unusedVariables false
set_option linter.unusedSimpArgs false

theorem used_holds {w : World} {p m : Nat} {F : List Nat} {L : List (Nat × List UInt8)} (h : Holds w p F L m) :
    Calls Try.prog 29 #[.pointer (some ⟨p, 0, none⟩)] w fun e w' => e = .returned (.int .i64 (totalL L : Nat)) ∧ w = w' := by
  obtain ⟨⟨s, h1, h2, h3, h4⟩, _⟩ := h
  have e : totalL L = s.used := by
    rw [h2.used]
    unfold totalL
    rw [← (h3.map fun x => up x.2.length).sum_nat]
    unfold St.pairs
    rw [List.map_map]
    unfold Sto.total
    congr 1
    exact List.map_congr_left fun x hx => by simp [bytes_length h2 hx]
  rw [e]
  exact used_calls h1

/-- What 'awake' does. -/
theorem awake_calls (w : World) : Calls Try.prog 25 #[] w fun e w' => e = .returned (.bool true) ∧ Chg [] w w' := by
  have CN := Mem.Aside.mk (new_holds w)
  go_enter Try.func25, Try.ntmps25
  go_wp2_with (first
    | (go_at_call 21; (with_reducible refine CN.out.mono ?_); rintro e w1 ⟨p, F, rfl, h1, hc1, hF⟩; have H1 := Mem.Aside.mk h1; have HC1 := Mem.Aside.mk hc1; have HF := Mem.Aside.mk hF; have CT := Mem.Aside.mk (take_holds h1 3 (by decide) (by decide) (by decide)); rw [show (((3 : Nat) : Int)) = 3 from rfl] at CT; clear h1 hc1 hF)
    | (go_at_call 22; (with_reducible refine CT.out.mono ?_); rintro e w2 ⟨id, F2, rfl, h2, hl2, hn2, hc2, hF2⟩; obtain rfl : id = 0 := (by { cases id with | zero => rfl | succ j => exact absurd (hl2 j (Nat.lt_succ_self j)) (by simp) }); have H2 := Mem.Aside.mk h2; have HC2 := Mem.Aside.mk (HC1.out.then hc2 (fun x hx => .inr (HF.out x hx))); have HF2 := Mem.Aside.mk (fun x (hx : x ∈ F2) => (hF2 x hx).elim (HF.out x) (fun h => Nat.le_trans HC1.out.size h)); have CS := Mem.Aside.mk (save_holds h2 0 2 (by decide) (by decide) (by decide) 258 (by decide)); rw [show ((0 : Nat) : Int) = 0 from rfl, show ((2 : Nat) : Int) = 2 from rfl, show ((258 : Nat) : Int) = 258 from rfl] at CS; clear h2 hl2 hn2 hc2 hF2)
    | (go_at_call 23; (with_reducible refine CS.out.mono ?_); rintro e w3 ⟨rfl, h3, hc3⟩; have H3 := Mem.Aside.mk h3; have HC3 := Mem.Aside.mk (HC2.out.then hc3 (fun x hx => .inr (HF2.out x hx))); have CL := Mem.Aside.mk (load_holds h3 (List.mem_cons_self ..) 1 1 (by decide) (by decide) (by decide)); rw [show leN (sl (splice (List.replicate 3 (0 : UInt8)) 0 (leB 258 2)) 1 1) = 1 by decide] at CL; rw [show ((0 : Nat) : Int) = 0 from rfl, show ((1 : Nat) : Int) = 1 from rfl] at CL; clear h3 hc3)
    | (go_at_call 24; (with_reducible refine CL.out.mono ?_); rintro e w4 ⟨rfl, hc4⟩; have H4 := Mem.Aside.mk (H3.out.chg hc4 (by simp)); have HC4 := Mem.Aside.mk (HC3.out.then hc4 (by simp)); have CU := Mem.Aside.mk (used_holds H4.out); rw [show totalL [(0, splice (List.replicate 3 (0 : UInt8)) 0 (leB 258 2))] = 8 by decide] at CU; rw [show ((8 : Nat) : Int) = 8 from rfl] at CU; clear hc4)
    | (go_at_call 29; (with_reducible refine CU.out.mono ?_); rintro e w5 ⟨rfl, rfl⟩))
  go_ret
  exact ⟨rfl, HC4.out⟩
end Go.Proofs.Ytgimcpnelogadaa.Sto
