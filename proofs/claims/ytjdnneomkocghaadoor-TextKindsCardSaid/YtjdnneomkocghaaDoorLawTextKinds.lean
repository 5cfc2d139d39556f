/- TextKinds: the row, and the tied card: for every input the law answers true; the arguments read behind the call as before. The listed variables of Go's library are tied to the program's text (in a pruned copy of the project). -/
import Derived.Test.YtjdnneomkocghaaDoorRows
import Derived.Test.YtjdnneomkocghaaDoorCards
import Derived.Test.YtjdnneomkocghaaDoorTie
import Derived.Test.YtjdnneomkocghaaDoorLaid
import Derived.Test.YtjdnneomkocghaaDoorPrint16
import Derived.Test.YtjdnneomkocghaaDoorSpN
import Derived.Test.YtjdnneomkocghaaDoorSpJ
import Derived.Test.YtjdnneomkocghaaDoorSpL
import Derived.WalkKit
import Derived.ProofKit
import Derived.OpenShut
import Derived.ShutString
import Derived.ChangeOld
import Derived.Below
import Derived.SizedLaws
import Derived.SevenTiedAt
import Derived.Lib.SmallJoins
import Derived.Deep.Strs
/- The statement TextKinds, plain: a number's text says whether it is whole. No condition. -/
namespace Go.Proofs.YtjdnneomkocghaaDoor.Pure
open Go.RowKit Go.Proofs.YtjdnneomkocghaaDoorW.PrintWords Go.Proofs.YtjdnneomkocghaaDoorW.PrintMore Go.Proofs.YtjdnneomkocghaaDoor.Given Go.Proofs.YtjdnneomkocghaaDoor.Print Go.Proofs.YtjdnneomkocghaaDoor.Sp
open Go.Lib (decDigits itoa nDigits)
set_option linter.unusedVariables false
theorem tk_i64 {a : Int} (h : (Lit.int .i64 a).wf = true) : -9223372036854775808 ≤ a ∧ a ≤ 9223372036854775807 := by
  simpa [Lit.wf, IntKind.min, IntKind.max, IntKind.signed, IntKind.bits] using h
theorem tk_u64 {a : Int} (h : (Lit.int .u64 a).wf = true) : 0 ≤ a ∧ a ≤ 18446744073709551615 := by
  simpa [Lit.wf, IntKind.min, IntKind.max, IntKind.signed, IntKind.bits] using h
theorem tk_from (b : Nat) (hb : b < 18446744073709551616) : casketref1_FromFloat.f (b : Int) = some ((canonN b : Nat) : Int) := by
  unfold casketref1_FromFloat.f canonN
  rw [nan_f b hb]
  show (if decide (9218868437227405312 < b % 9223372036854775808) = true then some 9221120237041090560 else some (b : Int)) = _
  by_cases h : 9218868437227405312 < b % 9223372036854775808
  · rw [if_pos (decide_eq_true h), if_pos h]; rfl
  · rw [if_neg (by simpa using h), if_neg h]
theorem TextKinds (x : Bool) (i b : Int) (hi : (Lit.int .i64 i).wf = true) (hb : (Lit.int .u64 b).wf = true) : ∃ k, casketlaw4_TextKinds.f k x i b = some true := by
  have hi := tk_i64 hi
  have hb := tk_u64 hb
  obtain ⟨n, rfl⟩ := Int.eq_ofNat_of_zero_le hb.1
  have hn : n < 18446744073709551616 := by omega
  refine Ev.rounds ?_
  unfold casketlaw4_TextKinds.f
  have h1 := itoa_len30 hi
  have h2 := float_len n
  refine Ev.bind (text_ev x i n hi hn) (Ev.bind (parse_ev _ (by cases x; (· show (floatT n).length ≤ _; omega); (· show (itoa i).length ≤ _; omega))) ?_)
  cases x with
  | true =>
    rw [show textS true i (n : Int) = itoa i from rfl, parse_int i hi]
    refine Ev.yes rfl ?_
    refine Ev.step (fun k => by rw [casketlaw4_TextKinds.j0]) ?_
    exact Ev.no (by simp) (Ev.yes rfl (Ev.yes rfl (Ev.yes rfl (Ev.bind awake_ev (Ev.ret rfl)))))
  | false =>
    rw [show textS false i (n : Int) = floatT n from rfl, parse_float n hn]
    refine Ev.yes rfl ?_
    refine Ev.step (fun k => by rw [casketlaw4_TextKinds.j0]) ?_
    exact Ev.no (by simp) (Ev.no (by simp) (Ev.yes rfl (Ev.bind0 (tk_from n hn) (Ev.yes rfl (Ev.bind awake_ev (Ev.ret rfl))))))
end Go.Proofs.YtjdnneomkocghaaDoor.Pure
namespace Go.Proofs.YtjdnneomkocghaaDoor.Print
open Go.RowKit Go.Proofs.YtjdnneomkocghaaDoorW.PrintWords Go.Proofs.YtjdnneomkocghaaDoor.Given
theorem casketlaw4_TextKinds.walk (x : Bool) (i b : Int) (w : World) (hG : Given.Glob w) (wi : (Lit.int .i64 i).wf = true) (wb : (Lit.int .u64 b).wf = true) :
    Calls Tryd.prog 9 #[.agg #[.bool x, .int .i64 i, .int .u64 b]] w fun e w' => e = .returned (.bool true) ∧ Below w.heap.size w w' := by
  obtain ⟨k, h⟩ := Pure.TextKinds x i b wi wb
  refine (casketlaw4_TextKinds.calls (hG := hG) k x i b true w h).mono ?_
  rintro e w' ⟨rfl, hd⟩
  exact ⟨rfl, hd⟩
end Go.Proofs.YtjdnneomkocghaaDoor.Print

namespace Go.Proofs.YtjdnneomkocghaaDoor.textKinds
open Go.ChangeShapes Go.WideShapes Go.ChangeAt Go.RowKit Go.Joins
open Go.ChangeMaps (open_string shut_string)
set_option linter.unusedVariables false
set_option maxRecDepth 100000 in
theorem lifted (os : Os) (started : os.Started) (H : Type) (enc : TypeId × Value → H) :
    ReturnsInHanded {} Tryd.checked os 9 .any (fun w args => (Rows.textKindsSpec.pre enc Tryd.prog Tryd.f9 [] false w args ∧ laidMetH Tryd.prog Laid.laid w) ∧ sizedMet enc Tryd.prog Tryd.f9 (OpenSpec.ofChange Rows.textKindsSpec) false w args) (Rows.textKindsSpec.post enc Tryd.prog Tryd.f9 false true false false) := by
  refine returnsInHanded_of_change_and (C := Tryd.checked) (X := fun w _ => laidMetH Tryd.prog Laid.laid w) (fun _ _ _ hh h => h.of_heap hh) Laid.own started (by kernel_rfl) Tryd.func9
    (ChangeSpec.witness_shaped (enc := enc) (C := Tryd.checked) (os := os) (X := fun w _ => laidMetH Tryd.prog Laid.laid w) false (World.doorLaid Tryd.prog 62 os) #[.agg #[.bool false, .int .i64 0, .int .u64 0]] 8 rfl (World.shaped_of_RefB (by kernel_rfl) (by kernel_rfl)) (by kernel_rfl) (by kernel_rfl) (by kernel_rfl) (Laid.door_met os _)) ?_
  intro W base args ds gs before hval0 hW hcnd hsz0 hL _
  have hsz : (DataW.weightsEach Tryd.prog (Tryd.f9.params.toList ++ Rows.textKindsSpec.plain.varTypes Tryd.prog) (ds ++ gs)).all (· ≤ reachBytes) = true := hsz0
  have hval : ∀ (j : Nat) t v, Tryd.f9.params[j]? = some t → args[j]? = some v → Value.okWide Tryd.prog W .any base t v := hval0
  have hW' := hW
  obtain ⟨p, q, hA0, hV, rfl, hfz, hnd⟩ := hW
  have hA : DataW.TrodAll enc Tryd.prog W 0 (fun _ => true) true Tryd.f9.params.toList args.toList ds p := hA0
  rw [Tryd.params9] at hA hval hsz
  obtain ⟨v0, vs0, d0, ds0, p0, q0, hargs, rfl, rfl, h0, r0⟩ := trodAll_cons hA
  obtain ⟨rfl, rfl, rfl⟩ := trodAll_nil r0
  obtain rfl : args = #[v0] := by cases args; simp_all
  obtain ⟨rfl, rfl⟩ := trodVars_none hV
  have hG : Given.Glob W := Laid.of_laid hL
  obtain ⟨c0, c1, c2, y0, y1, y2, m, rfl, rfl, rfl, e0, e1, e2⟩ := open_agg3 Tryd.underlying36 (by kernel_rfl) (show Tryd.prog.cellsOf 36 = 3 by kernel_rfl) (hval 0 36 v0 rfl rfl) h0
  obtain ⟨a0, g0, rfl⟩ := DataW.trod_bool Tryd.underlying4 e0
  obtain ⟨a1, g1, rfl, w1⟩ := DataW.trod_int Tryd.underlying2 e1
  obtain ⟨a2, g2, rfl, w2⟩ := DataW.trod_int Tryd.underlying22 e2
  simp at g0 g1 g2
  subst g0 g1 g2
  simp only [List.append_nil] at hW'
  clear hA0 hval0 hsz0 hsz
  refine (Print.casketlaw4_TextKinds.walk  a0 a1 a2 W hG w1 w2).mono fun e W' ⟨he, bel⟩ => ?_
  subst he
  exact ⟨_, rfl, _, _, _, [], _, [], hW', trodAll_mk1 (shut_bool Tryd.underlying4 _), (trodAll_cons_mk (shut_agg3 (y0 := (.lit (.bool a0), [])) (y1 := (.lit (.int .i64 a1), [])) (y2 := (.lit (.int .u64 a2), [])) Tryd.underlying36 (by kernel_rfl) (show Tryd.prog.cellsOf 36 = 3 by kernel_rfl) (shut_bool Tryd.underlying4 a0) ⟨1, trod_int_mk 0 Tryd.underlying2 w1⟩ ⟨1, trod_int_mk 0 Tryd.underlying22 w2⟩) trodAll_mk0), rfl, bel.frame _, fun h => by cases h⟩
theorem over : Rows.textKindsRow.holds Tryd.pinned (OpenSpec.ofChange Rows.textKindsSpec) :=
  OpenClaim.holds_of_wide 9 Tryd.f9 rfl rfl rfl rfl rfl rfl rfl ⟨rfl, rfl, rfl, rfl, rfl⟩ rfl rfl rfl rfl rfl (by kernel_rfl) Tryd.func9 (by kernel_rfl)
    (of_decide_eq_true (by kernel_rfl)) (by unfold Func.isWrapper; first | (rw [if_pos (by decide +kernel)]; kernel_rfl) | (rw [if_neg (by decide +kernel)]; exact ⟨rfl, rfl⟩))
    (fun os started H enc _ => lifted os started H enc)
theorem card_holds : Rows.TextKindsCardSaid :=
  Claim7.holds_tied_plain_at .later [] [.data, .data, .data, .sentinel, .sentinel] true (true, "ad15c43d92773aa6568aae07c966bf4115df40cfb2d27db2d73bcd3fa37724bd") true
    over (fun _ h => by cases h) (by kernel_rfl) (fun _ h => by cases h) textKinds_row_tie rfl ⟨rfl, rfl⟩ (by kernel_rfl) rfl
    (fun f fn hf hfn => by
      obtain rfl : f = 9 := Option.some.inj ((show Tryd.prog.funcNamed "casket/casketlaw4.TextKinds" = some 9 by kernel_rfl).symm.trans hf) |>.symm
      obtain rfl : fn = Tryd.f9 := (Option.some.inj (Tryd.func9.symm.trans hfn)).symm
      exact ⟨by kernel_rfl, fun j t ht => by
        rw [Tryd.params9] at ht
        have hm : t ∈ [36] := by simpa using Array.mem_of_getElem? ht
        have hall : ([36].all fun u => !Tryd.prog.wantsStandIn u) = true := by kernel_rfl
        exact (show Tryd.prog.wantsStandIn t = false by simpa using List.all_eq_true.1 hall t hm)⟩)
    (by kernel_rfl)
#print axioms card_holds
end Go.Proofs.YtjdnneomkocghaaDoor.textKinds
namespace Go.Proofs.YtjdnneomkocghaaDoor
/-- The tied card, under a short name, for the claim. -/
theorem textKinds_card : Rows.TextKindsCardSaid := textKinds.card_holds
end Go.Proofs.YtjdnneomkocghaaDoor
