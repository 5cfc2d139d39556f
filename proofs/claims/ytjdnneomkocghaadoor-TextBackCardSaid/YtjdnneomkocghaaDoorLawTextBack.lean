/- TextBack: the row, and the tied card: for every input the law answers true; the arguments read behind the call as before. The listed variables of Go's library are tied to the program's text (in a pruned copy of the project). -/
import Derived.Test.YtjdnneomkocghaaDoorRows
import Derived.Test.YtjdnneomkocghaaDoorCards
import Derived.Test.YtjdnneomkocghaaDoorTie
import Derived.Test.YtjdnneomkocghaaDoorLaid
import Derived.Test.YtjdnneomkocghaaDoorPrint15
import Derived.Test.YtjdnneomkocghaaDoorSpN
import Derived.Test.YtjdnneomkocghaaDoorSpJ
import Derived.Test.YtjdnneomkocghaaDoorSpL
import Derived.WalkKit
import Derived.ProofKit
import Derived.OpenShut
import Derived.ShutString
import Derived.ChangeOld
import Derived.Below
import Derived.SizedLaws
import Derived.SevenTiedAt
import Derived.Lib.SmallJoins
import Derived.Deep.Strs
/- The statement TextBack, plain: what is printed is read back. No condition. -/
namespace Go.Proofs.YtjdnneomkocghaaDoor.Pure
open Go.RowKit Go.Proofs.YtjdnneomkocghaaDoorW.PrintWords Go.Proofs.YtjdnneomkocghaaDoorW.PrintMore Go.Proofs.YtjdnneomkocghaaDoor.Given Go.Proofs.YtjdnneomkocghaaDoor.Print Go.Proofs.YtjdnneomkocghaaDoor.Sp
open Go.Lib (itoa)
set_option linter.unusedVariables false
theorem i64_of' {a : Int} (h : (Lit.int .i64 a).wf = true) : -9223372036854775808 ≤ a ∧ a ≤ 9223372036854775807 := by
  simpa [Lit.wf, IntKind.min, IntKind.max, IntKind.signed, IntKind.bits] using h
theorem u64_of' {a : Int} (h : (Lit.int .u64 a).wf = true) : 0 ≤ a ∧ a ≤ 18446744073709551615 := by
  simpa [Lit.wf, IntKind.min, IntKind.max, IntKind.signed, IntKind.bits] using h
theorem from_f (b : Nat) (hb : b < 18446744073709551616) : casketref1_FromFloat.f (b : Int) = some ((canonN b : Nat) : Int) := by
  unfold casketref1_FromFloat.f canonN
  rw [nan_f b hb]
  show (if decide (9218868437227405312 < b % 9223372036854775808) = true then some 9221120237041090560 else some (b : Int)) = _
  by_cases h : 9218868437227405312 < b % 9223372036854775808
  · rw [if_pos (decide_eq_true h), if_pos h]; rfl
  · rw [if_neg (by simpa using h), if_neg h]
theorem tb_j2 (l : List UInt8) (hl : l.length ≤ 1000) : Ev (fun k => casketlaw4_TextBack.j2 k (bs l) false) true := by
  refine Ev.step (fun k => by rw [casketlaw4_TextBack.j2]) ?_
  refine Ev.no (by simp) (Ev.bind (parseFloat_ev l (by omega)) ?_)
  by_cases h : (pfS l).2 = 0
  · obtain ⟨b, h1, h2, h3⟩ := pfS_good l h
    simp only [if_pos h]
    rw [h1]
    have hl := float_len b
    refine Ev.bind (float_ev b h2) (Ev.bind (parseFloat_ev _ (by omega)) ?_)
    rw [float_back b h2, h3]
    refine Ev.yes rfl (Ev.yes rfl (Ev.bind0 (from_f b h2) ?_))
    rw [h3]
    exact Ev.yes rfl (Ev.bind awake_ev (Ev.ret rfl))
  · simp only [if_neg h]
    exact Ev.bind awake_ev (Ev.ret rfl)
theorem TextBack : casketlaw4_TextBack.Pure := by
  intro i b s hi hb _
  have hi := i64_of' hi
  have hb := u64_of' hb
  obtain ⟨n, rfl⟩ := Int.eq_ofNat_of_zero_le hb.1
  have hn : n < 18446744073709551616 := by omega
  rw [bs_of s]
  generalize s.data.toList = l
  refine Ev.rounds ?_
  unfold casketlaw4_TextBack.f
  rw [bs_size]
  by_cases h : 1000 < l.length
  · exact Ev.yes (by omega) (Ev.ret rfl)
  · refine Ev.no (by omega) ?_
    have hl1 := itoa_len30 hi
    have hl2 := float_len n
    refine Ev.bind0 (int_f' hi) (Ev.bind0 (parseInt_f _ (by omega)) (Ev.bind (float_ev n hn) (Ev.bind (parseFloat_ev _ (by omega)) ?_)))
    rw [int_back i hi, float_back n hn]
    refine Ev.yes rfl (Ev.yes rfl (Ev.yes rfl (Ev.bind0 (from_f n hn) ?_)))
    rw [bne_self_eq_false]
    refine Ev.step (fun k => by rw [casketlaw4_TextBack.j0]) ?_
    refine Ev.no (by simp) ?_
    have h1 := text_ev true i 0 hi (by omega)
    have h2 := text_ev false 0 n (by omega) (by omega)
    refine Ev.bind h1 (Ev.bind (parse_ev _ (by show (itoa i).length ≤ _; omega)) (Ev.bind h2 (Ev.bind (parse_ev _ (by show (floatT n).length ≤ _; omega)) ?_)))
    rw [show textS true i ((0 : Nat) : Int) = itoa i from rfl, show textS false 0 (n : Int) = floatT n from rfl, parse_int i hi, parse_float n hn]
    refine Ev.yes rfl (Ev.yes rfl (Ev.no (by simp) (Ev.bind0 (from_f n hn) ?_)))
    have e : (false || (!((0 : Int) == 0) || !(((canonN n : Nat) : Int) == ((canonN n : Nat) : Int)))) = false := by simp
    rw [e]
    refine Ev.step (fun k => by rw [casketlaw4_TextBack.j1]) ?_
    refine Ev.no (by simp) (Ev.bind0 (parseInt_f l (by omega)) ?_)
    by_cases h0 : (parseIntT l).2 = 0
    · obtain ⟨b1, b2⟩ := back_int l h0
      simp only [if_pos h0]
      refine Ev.bind0 (int_f' b2) ?_
      rw [b1, bne_self_eq_false]
      exact tb_j2 l (by omega)
    · simp only [if_neg h0]
      exact tb_j2 l (by omega)
end Go.Proofs.YtjdnneomkocghaaDoor.Pure

namespace Go.Proofs.YtjdnneomkocghaaDoor.textBack
open Go.ChangeShapes Go.WideShapes Go.ChangeAt Go.RowKit Go.Joins
open Go.ChangeMaps (open_string shut_string)
set_option linter.unusedVariables false
set_option maxRecDepth 100000 in
theorem lifted (os : Os) (started : os.Started) (H : Type) (enc : TypeId × Value → H) :
    ReturnsInHanded {} Tryd.checked os 8 .any (fun w args => (Rows.textBackSpec.pre enc Tryd.prog Tryd.f8 [] false w args ∧ laidMetH Tryd.prog Laid.laid w) ∧ sizedMet enc Tryd.prog Tryd.f8 (OpenSpec.ofChange Rows.textBackSpec) false w args) (Rows.textBackSpec.post enc Tryd.prog Tryd.f8 false true false false) := by
  refine returnsInHanded_of_change_and (C := Tryd.checked) (X := fun w _ => laidMetH Tryd.prog Laid.laid w) (fun _ _ _ hh h => h.of_heap hh) Laid.own started (by kernel_rfl) Tryd.func8
    (ChangeSpec.witness_shaped (enc := enc) (C := Tryd.checked) (os := os) (X := fun w _ => laidMetH Tryd.prog Laid.laid w) false (World.doorLaid Tryd.prog 62 os) #[.int .i64 0, .int .u64 0, .string ByteArray.empty] 8 rfl (World.shaped_of_RefB (by kernel_rfl) (by kernel_rfl)) (by kernel_rfl) (by kernel_rfl) (by kernel_rfl) (Laid.door_met os _)) ?_
  intro W base args ds gs before hval0 hW hcnd hsz0 hL _
  have hsz : (DataW.weightsEach Tryd.prog (Tryd.f8.params.toList ++ Rows.textBackSpec.plain.varTypes Tryd.prog) (ds ++ gs)).all (· ≤ reachBytes) = true := hsz0
  have hval : ∀ (j : Nat) t v, Tryd.f8.params[j]? = some t → args[j]? = some v → Value.okWide Tryd.prog W .any base t v := hval0
  have hW' := hW
  obtain ⟨p, q, hA0, hV, rfl, hfz, hnd⟩ := hW
  have hA : DataW.TrodAll enc Tryd.prog W 0 (fun _ => true) true Tryd.f8.params.toList args.toList ds p := hA0
  rw [Tryd.params8] at hA hval hsz
  obtain ⟨v0, vs0, d0, ds0, p0, q0, hargs, rfl, rfl, h0, r0⟩ := trodAll_cons hA
  obtain ⟨v1, vs1, d1, ds1, p1, q1, rfl, rfl, rfl, h1, r1⟩ := trodAll_cons r0
  obtain ⟨v2, vs2, d2, ds2, p2, q2, rfl, rfl, rfl, h2, r2⟩ := trodAll_cons r1
  obtain ⟨rfl, rfl, rfl⟩ := trodAll_nil r2
  obtain rfl : args = #[v0, v1, v2] := by cases args; simp_all
  obtain ⟨rfl, rfl⟩ := trodVars_none hV
  have hG : Given.Glob W := Laid.of_laid hL
  obtain ⟨a0, rfl, rfl, rfl, w0⟩ := open_int Tryd.underlying2 (hval 0 2 v0 rfl rfl) h0
  obtain ⟨a1, rfl, rfl, rfl, w1⟩ := open_int Tryd.underlying22 (hval 1 22 v1 rfl rfl) h1
  obtain ⟨a2, rfl, rfl, rfl, y2⟩ := open_string Tryd.underlying9 (hval 2 9 v2 rfl rfl) h2
  have w2 : a2.size ≤ 140737488351232 := by
    have z := sized_string hsz (j := 2) (t := 9) rfl rfl
    rw [Array.length_toList] at z
    exact z
  clear hA0 hval0 hsz0 hsz
  refine (Print.casketlaw4_TextBack.walk Pure.TextBack a0 a1 a2 W hG w0 w1 w2).mono fun e W' ⟨he, bel⟩ => ?_
  subst he
  exact ⟨_, rfl, _, _, _, [], _, [], hW', trodAll_mk1 (shut_bool Tryd.underlying4 _), (trodAll_cons_mk (shut_int Tryd.underlying2 w0) (trodAll_cons_mk (shut_int Tryd.underlying22 w1) (trodAll_cons_mk (shut_string Tryd.underlying9 y2) trodAll_mk0))), rfl, bel.frame _, fun h => by cases h⟩
theorem over : Rows.textBackRow.holds Tryd.pinned (OpenSpec.ofChange Rows.textBackSpec) :=
  OpenClaim.holds_of_wide 8 Tryd.f8 rfl rfl rfl rfl rfl rfl rfl ⟨rfl, rfl, rfl, rfl, rfl⟩ rfl rfl rfl rfl rfl (by kernel_rfl) Tryd.func8 (by kernel_rfl)
    (of_decide_eq_true (by kernel_rfl)) (by unfold Func.isWrapper; first | (rw [if_pos (by decide +kernel)]; kernel_rfl) | (rw [if_neg (by decide +kernel)]; exact ⟨rfl, rfl⟩))
    (fun os started H enc _ => lifted os started H enc)
theorem card_holds : Rows.TextBackCardSaid :=
  Claim7.holds_tied_plain_at .later [] [.data, .data, .data, .sentinel, .sentinel] true (true, "ad15c43d92773aa6568aae07c966bf4115df40cfb2d27db2d73bcd3fa37724bd") true
    over (fun _ h => by cases h) (by kernel_rfl) (fun _ h => by cases h) textBack_row_tie rfl ⟨rfl, rfl⟩ (by kernel_rfl) rfl
    (fun f fn hf hfn => by
      obtain rfl : f = 8 := Option.some.inj ((show Tryd.prog.funcNamed "casket/casketlaw4.TextBack" = some 8 by kernel_rfl).symm.trans hf) |>.symm
      obtain rfl : fn = Tryd.f8 := (Option.some.inj (Tryd.func8.symm.trans hfn)).symm
      exact ⟨by kernel_rfl, fun j t ht => by
        rw [Tryd.params8] at ht
        have hm : t ∈ [2, 22, 9] := by simpa using Array.mem_of_getElem? ht
        have hall : ([2, 22, 9].all fun u => !Tryd.prog.wantsStandIn u) = true := by kernel_rfl
        exact (show Tryd.prog.wantsStandIn t = false by simpa using List.all_eq_true.1 hall t hm)⟩)
    (by kernel_rfl)
#print axioms card_holds
end Go.Proofs.YtjdnneomkocghaaDoor.textBack
namespace Go.Proofs.YtjdnneomkocghaaDoor
/-- The tied card, under a short name, for the claim. -/
theorem textBack_card : Rows.TextBackCardSaid := textBack.card_holds
end Go.Proofs.YtjdnneomkocghaaDoor
