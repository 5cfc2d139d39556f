/- TextDigits: the row, and the tied card: for every input the law answers true; the arguments read behind the call as before. The listed variables of Go's library are tied to the program's text (in a pruned copy of the project). -/
import Derived.Test.YtjdnneomkocghaaDoorRows
import Derived.Test.YtjdnneomkocghaaDoorCards
import Derived.Test.YtjdnneomkocghaaDoorTie
import Derived.Test.YtjdnneomkocghaaDoorLaid
import Derived.Test.YtjdnneomkocghaaDoorPrint6
import Derived.Test.YtjdnneomkocghaaDoorSpN
import Derived.Test.YtjdnneomkocghaaDoorSpK
import Derived.WalkKit
import Derived.ProofKit
import Derived.OpenShut
import Derived.ShutString
import Derived.ChangeOld
import Derived.Below
import Derived.SizedLaws
import Derived.SevenTiedAt
import Derived.Lib.SmallJoins
import Derived.Deep.Strs
/- The statement TextDigits, plain: a digit behind a whole number's text. No condition. -/
namespace Go.Proofs.YtjdnneomkocghaaDoor.Pure
open Go.RowKit Go.Proofs.YtjdnneomkocghaaDoorW.PrintWords Go.Proofs.YtjdnneomkocghaaDoorW.PrintMore Go.Proofs.YtjdnneomkocghaaDoor.Given Go.Proofs.YtjdnneomkocghaaDoor.Print Go.Proofs.YtjdnneomkocghaaDoor.Sp
open Go.Lib (decDigits itoa nDigits)
set_option linter.unusedVariables false
theorem td_i64 {a : Int} (h : (Lit.int .i64 a).wf = true) : -9223372036854775808 ≤ a ∧ a ≤ 9223372036854775807 := by
  simpa [Lit.wf, IntKind.min, IntKind.max, IntKind.signed, IntKind.bits] using h
theorem td_true (i : Int) (d : Nat) : Ev (fun k => casketlaw4_TextDigits.j0 k i (d : Int) true) true := by
  refine Ev.step (fun k => by rw [casketlaw4_TextDigits.j0]) ?_
  exact Ev.yes rfl (Ev.ret rfl)
theorem dec_len30 {n : Nat} (h : n < 100000000000000000000) : (decDigits n).length ≤ 30 := by
  rw [Lib.decDigits_length]
  exact Nat.le_trans (nDigits_le 20 n h (by omega)) (by omega)
theorem td_main (i : Int) (d : Nat) (hi : -9223372036854775808 ≤ i ∧ i ≤ 9223372036854775807) (h0 : i ≠ 0) (hd : d < 10) : Ev (fun k => casketlaw4_TextDigits.j0 k i (d : Int) false) true := by
  refine Ev.step (fun k => by rw [casketlaw4_TextDigits.j0]) ?_
  have hdi : itoa (d : Int) = decDigits d := by unfold itoa; rw [if_neg (by omega), Int.toNat_natCast]
  have hdl : (decDigits d).length ≤ 5 := dec_len5 (by omega)
  refine Ev.no (by simp) (Ev.bind0 (int_f' hi) (Ev.bind0 (int_f' (by omega)) ?_))
  have hl := itoa_len30 hi
  simp only [bs_app, bs_size]
  rw [hdi]
  refine Ev.yes (by omega) (Ev.bind0 (parseInt_f _ (by simp only [List.length_append]; omega)) ?_)
  have a1 : wrap64 (9223372036854775807 - (d : Int)) = ((9223372036854775807 - d : Nat) : Int) := by rw [w64 (by omega) (by omega)]; omega
  have a2 : wrap64 ((-9223372036854775808) + (d : Int)) = -((9223372036854775808 - d : Nat) : Int) := by rw [w64 (by omega) (by omega)]; omega
  rw [a1, a2, tdiv_nn (a := ((9223372036854775807 - d : Nat) : Int)) (by omega), Int.neg_tdiv, tdiv_nn (a := ((9223372036854775808 - d : Nat) : Int)) (by omega)]
  rw [w64 (x := ((9223372036854775807 - d : Nat) : Int) / 10) (by omega) (by omega), w64 (x := -(((9223372036854775808 - d : Nat) : Int) / 10)) (by omega) (by omega)]
  have yes : ∀ v : Int, (i < 0 → v = 10 * i - d) → (¬ i < 0 → v = 10 * i + d) → -9223372036854775808 ≤ v → v ≤ 9223372036854775807 → Ev (fun k => casketlaw4_TextDigits.j1 k i (d : Int) v 0 true) true := by
    intro v hv1 hv2 hv3 hv4
    refine Ev.step (fun k => by rw [casketlaw4_TextDigits.j1]) ?_
    refine Ev.yes rfl ?_
    by_cases hn : i < 0
    · refine Ev.yes hn (Ev.yes rfl (Ev.yes ?_ (Ev.bind awake_ev (Ev.ret rfl))))
      have := hv1 hn
      unfold wrap64; omega
    · refine Ev.no hn (Ev.yes rfl (Ev.yes ?_ (Ev.bind awake_ev (Ev.ret rfl))))
      have := hv2 hn
      unfold wrap64; omega
  have no : Ev (fun k => casketlaw4_TextDigits.j1 k i (d : Int) 0 13 false) true := by
    refine Ev.step (fun k => by rw [casketlaw4_TextDigits.j1]) ?_
    exact Ev.no (by simp) (Ev.yes rfl (Ev.yes rfl (Ev.bind awake_ev (Ev.ret rfl))))
  by_cases hn : i < 0
  · have e1 : itoa i ++ decDigits d = 45 :: decDigits (10 * i.natAbs + d) := by
      unfold itoa; rw [if_pos hn, List.cons_append, dec_app (by omega) hd]
    have hlen := dec_len30 (n := 10 * i.natAbs + d) (by omega)
    rw [e1, parse_neg _ (by omega) (by omega)]
    refine Ev.yes (by omega) ?_
    unfold resI
    rw [if_pos rfl]
    by_cases hf : 10 * i.natAbs + d ≤ 9223372036854775808
    · rw [if_pos hf, show decide (i ≥ -(((9223372036854775808 - d : Nat) : Int) / 10)) = true from decide_eq_true (by omega)]
      exact yes _ (fun _ => by omega) (fun g => absurd hn g) (by omega) (by omega)
    · rw [if_neg hf, show decide (i ≥ -(((9223372036854775808 - d : Nat) : Int) / 10)) = false from decide_eq_false (by omega)]
      exact no
  · have e1 : itoa i ++ decDigits d = decDigits (10 * i.toNat + d) := by
      unfold itoa; rw [if_neg hn, dec_app (by omega) hd]
    have hlen := dec_len30 (n := 10 * i.toNat + d) (by omega)
    rw [e1, parse_dec _ (by omega) (by omega)]
    unfold resI
    rw [if_neg (show ¬ false = true by decide)]
    by_cases hf : 10 * i.toNat + d < 9223372036854775808
    · rw [if_pos hf]
      refine Ev.yes (by omega) ?_
      rw [show decide (i ≥ -(((9223372036854775808 - d : Nat) : Int) / 10)) = true from decide_eq_true (by omega)]
      exact yes _ (fun g => absurd g hn) (fun _ => by omega) (by omega) (by omega)
    · rw [if_neg hf]
      exact Ev.no (by omega) no
theorem TextDigits : casketlaw4_TextDigits.Pure := by
  intro i d hi hd
  have hi := td_i64 hi
  have hd := td_i64 hd
  refine Ev.rounds ?_
  unfold casketlaw4_TextDigits.f
  have stop : ∀ d : Int, Ev (fun k => casketlaw4_TextDigits.j0 k i d true) true := fun d => by
    refine Ev.step (fun k => by rw [casketlaw4_TextDigits.j0]) ?_
    exact Ev.yes rfl (Ev.ret rfl)
  by_cases h1 : d < 0
  · exact Ev.yes h1 (stop _)
  · refine Ev.no h1 ?_
    by_cases h2 : d > 9
    · exact Ev.yes h2 (stop _)
    · refine Ev.no h2 ?_
      obtain ⟨n, rfl⟩ := Int.eq_ofNat_of_zero_le (show 0 ≤ d by omega)
      by_cases h3 : i = 0
      · rw [beq_iff_eq.2 h3]; exact stop _
      · rw [beq_eq_false_iff_ne.2 h3]
        exact td_main i n hi h3 (by omega)
end Go.Proofs.YtjdnneomkocghaaDoor.Pure

namespace Go.Proofs.YtjdnneomkocghaaDoor.textDigits
open Go.ChangeShapes Go.WideShapes Go.ChangeAt Go.RowKit Go.Joins
open Go.ChangeMaps (open_string shut_string)
set_option linter.unusedVariables false
set_option maxRecDepth 100000 in
theorem lifted (os : Os) (started : os.Started) (H : Type) (enc : TypeId × Value → H) :
    ReturnsInHanded {} Tryd.checked os 4 .any (fun w args => (Rows.textDigitsSpec.pre enc Tryd.prog Tryd.f4 [] false w args ∧ laidMetH Tryd.prog Laid.laid w) ∧ sizedMet enc Tryd.prog Tryd.f4 (OpenSpec.ofChange Rows.textDigitsSpec) false w args) (Rows.textDigitsSpec.post enc Tryd.prog Tryd.f4 false true false false) := by
  refine returnsInHanded_of_change_and (C := Tryd.checked) (X := fun w _ => laidMetH Tryd.prog Laid.laid w) (fun _ _ _ hh h => h.of_heap hh) Laid.own started (by kernel_rfl) Tryd.func4
    (ChangeSpec.witness_shaped (enc := enc) (C := Tryd.checked) (os := os) (X := fun w _ => laidMetH Tryd.prog Laid.laid w) false (World.doorLaid Tryd.prog 62 os) #[.int .i64 0, .int .i64 0] 8 rfl (World.shaped_of_RefB (by kernel_rfl) (by kernel_rfl)) (by kernel_rfl) (by kernel_rfl) (by kernel_rfl) (Laid.door_met os _)) ?_
  intro W base args ds gs before hval0 hW hcnd hsz0 hL _
  have hsz : (DataW.weightsEach Tryd.prog (Tryd.f4.params.toList ++ Rows.textDigitsSpec.plain.varTypes Tryd.prog) (ds ++ gs)).all (· ≤ reachBytes) = true := hsz0
  have hval : ∀ (j : Nat) t v, Tryd.f4.params[j]? = some t → args[j]? = some v → Value.okWide Tryd.prog W .any base t v := hval0
  have hW' := hW
  obtain ⟨p, q, hA0, hV, rfl, hfz, hnd⟩ := hW
  have hA : DataW.TrodAll enc Tryd.prog W 0 (fun _ => true) true Tryd.f4.params.toList args.toList ds p := hA0
  rw [Tryd.params4] at hA hval hsz
  obtain ⟨v0, vs0, d0, ds0, p0, q0, hargs, rfl, rfl, h0, r0⟩ := trodAll_cons hA
  obtain ⟨v1, vs1, d1, ds1, p1, q1, rfl, rfl, rfl, h1, r1⟩ := trodAll_cons r0
  obtain ⟨rfl, rfl, rfl⟩ := trodAll_nil r1
  obtain rfl : args = #[v0, v1] := by cases args; simp_all
  obtain ⟨rfl, rfl⟩ := trodVars_none hV
  have hG : Given.Glob W := Laid.of_laid hL
  obtain ⟨a0, rfl, rfl, rfl, w0⟩ := open_int Tryd.underlying2 (hval 0 2 v0 rfl rfl) h0
  obtain ⟨a1, rfl, rfl, rfl, w1⟩ := open_int Tryd.underlying3 (hval 1 3 v1 rfl rfl) h1
  clear hA0 hval0 hsz0 hsz
  refine (Print.casketlaw4_TextDigits.walk Pure.TextDigits a0 a1 W hG w0 w1).mono fun e W' ⟨he, bel⟩ => ?_
  subst he
  exact ⟨_, rfl, _, _, _, [], _, [], hW', trodAll_mk1 (shut_bool Tryd.underlying4 _), (trodAll_cons_mk (shut_int Tryd.underlying2 w0) (trodAll_cons_mk (shut_int Tryd.underlying3 w1) trodAll_mk0)), rfl, bel.frame _, fun h => by cases h⟩
theorem over : Rows.textDigitsRow.holds Tryd.pinned (OpenSpec.ofChange Rows.textDigitsSpec) :=
  OpenClaim.holds_of_wide 4 Tryd.f4 rfl rfl rfl rfl rfl rfl rfl ⟨rfl, rfl, rfl, rfl, rfl⟩ rfl rfl rfl rfl rfl (by kernel_rfl) Tryd.func4 (by kernel_rfl)
    (of_decide_eq_true (by kernel_rfl)) (by unfold Func.isWrapper; first | (rw [if_pos (by decide +kernel)]; kernel_rfl) | (rw [if_neg (by decide +kernel)]; exact ⟨rfl, rfl⟩))
    (fun os started H enc _ => lifted os started H enc)
theorem card_holds : Rows.TextDigitsCardSaid :=
  Claim7.holds_tied_plain_at .later [] [.data, .data, .data, .sentinel, .sentinel] true (true, "ad15c43d92773aa6568aae07c966bf4115df40cfb2d27db2d73bcd3fa37724bd") true
    over (fun _ h => by cases h) (by kernel_rfl) (fun _ h => by cases h) textDigits_row_tie rfl ⟨rfl, rfl⟩ (by kernel_rfl) rfl
    (fun f fn hf hfn => by
      obtain rfl : f = 4 := Option.some.inj ((show Tryd.prog.funcNamed "casket/casketlaw4.TextDigits" = some 4 by kernel_rfl).symm.trans hf) |>.symm
      obtain rfl : fn = Tryd.f4 := (Option.some.inj (Tryd.func4.symm.trans hfn)).symm
      exact ⟨by kernel_rfl, fun j t ht => by
        rw [Tryd.params4] at ht
        have hm : t ∈ [2, 3] := by simpa using Array.mem_of_getElem? ht
        have hall : ([2, 3].all fun u => !Tryd.prog.wantsStandIn u) = true := by kernel_rfl
        exact (show Tryd.prog.wantsStandIn t = false by simpa using List.all_eq_true.1 hall t hm)⟩)
    (by kernel_rfl)
#print axioms card_holds
end Go.Proofs.YtjdnneomkocghaaDoor.textDigits
namespace Go.Proofs.YtjdnneomkocghaaDoor
/-- The tied card, under a short name, for the claim. -/
theorem textDigits_card : Rows.TextDigitsCardSaid := textDigits.card_holds
end Go.Proofs.YtjdnneomkocghaaDoor
