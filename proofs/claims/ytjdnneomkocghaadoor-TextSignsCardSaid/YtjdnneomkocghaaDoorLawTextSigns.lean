/- TextSigns: the row, and the tied card: for every input the law answers true; the arguments read behind the call as before. The listed variables of Go's library are tied to the program's text (in a pruned copy of the project). -/
import Derived.Test.YtjdnneomkocghaaDoorRows
import Derived.Test.YtjdnneomkocghaaDoorCards
import Derived.Test.YtjdnneomkocghaaDoorTie
import Derived.Test.YtjdnneomkocghaaDoorLaid
import Derived.Test.YtjdnneomkocghaaDoorPrint8
import Derived.Test.YtjdnneomkocghaaDoorSpN
import Derived.Test.YtjdnneomkocghaaDoorSpJ
import Derived.Test.YtjdnneomkocghaaDoorSpK
import Derived.WalkKit
import Derived.ProofKit
import Derived.OpenShut
import Derived.ShutString
import Derived.ChangeOld
import Derived.Below
import Derived.SizedLaws
import Derived.SevenTiedAt
import Derived.Lib.SmallJoins
import Derived.Deep.Strs
/- The statement TextSigns, plain: a sign ahead turns the number. No condition. -/
namespace Go.Proofs.YtjdnneomkocghaaDoor.Pure
open Go.RowKit Go.Proofs.YtjdnneomkocghaaDoorW.PrintWords Go.Proofs.YtjdnneomkocghaaDoorW.PrintMore Go.Proofs.YtjdnneomkocghaaDoor.Given Go.Proofs.YtjdnneomkocghaaDoor.Print Go.Proofs.YtjdnneomkocghaaDoor.Sp
set_option linter.unusedVariables false
theorem ts_u64 {a : Int} (h : (Lit.int .u64 a).wf = true) : 0 ≤ a ∧ a ≤ 18446744073709551615 := by
  simpa [Lit.wf, IntKind.min, IntKind.max, IntKind.signed, IntKind.bits] using h
theorem neg_f (n : Nat) (h : n < 18446744073709551616) (hn : ¬ 9218868437227405312 < n % 9223372036854775808) : soft_Neg.f (n : Int) = some (((n + 9223372036854775808) % 18446744073709551616 : Nat) : Int) := by
  have h1 : nanB n = false := decide_eq_false hn
  have h2 := xor63 n h
  generalize (((n + 9223372036854775808) % 18446744073709551616 : Nat) : Int) = y at h2 ⊢
  unfold soft_Neg.f negS
  rw [if_pos ⟨by omega, by omega⟩, Int.toNat_natCast, h1, if_neg Bool.false_ne_true, h2]
theorem TextSigns : casketlaw4_TextSigns.Pure := by
  intro b hb
  have hb := ts_u64 hb
  obtain ⟨n, rfl⟩ := Int.eq_ofNat_of_zero_le hb.1
  have hn : n < 18446744073709551616 := by omega
  refine Ev.rounds ?_
  unfold casketlaw4_TextSigns.f
  refine Ev.bind0 (nan_f n hn) ?_
  by_cases h : 9218868437227405312 < n % 9223372036854775808
  · refine Ev.yes (decide_eq_true h) (Ev.bind (float_ev n hn) ?_)
    have : floatT n = [110, 97, 110] := by unfold floatT floatM; rw [if_pos h]
    rw [this]
    exact Ev.yes (bs_toList _) (Ev.bind awake_ev (Ev.ret rfl))
  · refine Ev.no (by simpa using h) (Ev.bind (float_ev n hn) ?_)
    have hlen := float_len n
    simp only [bs_size]
    by_cases hs : 9223372036854775808 ≤ n
    · obtain ⟨m, hm⟩ : ∃ m, m = n - 9223372036854775808 := ⟨_, rfl⟩
      have hmod : n % 9223372036854775808 = m := by omega
      rw [hmod] at h
      have hneg : soft_Neg.f (n : Int) = some (m : Int) := by
        rw [neg_f n hn (by omega), show (n + 9223372036854775808) % 18446744073709551616 = m by omega]
      have ht : floatT n = 45 :: floatT m := by
        rw [floatT_neg hs hn, ← hm, floatM_sign h, floatT_pos (by omega)]
      have hm63 : m < 18446744073709551616 := by omega
      have hc : canonN m = m := by unfold canonN; rw [if_neg (by omega)]
      clear hm hmod
      rw [ht]
      refine Ev.no (by simp) (Ev.yes (by simp <;> omega) ?_)
      rw [bt0]
      refine Ev.yes rfl (Ev.yes (by simp <;> omega) ?_)
      have e1 : ∀ t : List UInt8, (bs (45 :: t)).extract 1 (45 :: t).length = bs t := fun t => by rw [← bs_size]; exact bs_from _ 1
      rw [e1]
      have hl2 := float_len m
      refine Ev.bind (parseFloat_ev _ (by omega)) ?_
      rw [float_back m hm63, hc]
      refine Ev.yes rfl (Ev.bind0 hneg ?_)
      exact Ev.yes rfl (Ev.bind awake_ev (Ev.ret rfl))
    · have hm : n % 9223372036854775808 = n := by omega
      rw [hm] at h
      obtain ⟨c, r, hcr, hc⟩ := floatM_head h
      have ht : floatT n = c :: r := by rw [floatT_pos (by omega), hcr]
      have hback := float_back (n + 9223372036854775808) (by omega)
      have ht2 : floatT (n + 9223372036854775808) = 45 :: c :: r := by
        rw [floatT_neg (by omega) (by omega), show n + 9223372036854775808 - 9223372036854775808 = n by omega, floatM_sign h, hcr]
      have hcn : canonN (n + 9223372036854775808) = n + 9223372036854775808 := by unfold canonN; rw [if_neg (by omega)]
      rw [ht2, hcn] at hback
      rw [ht] at hlen ⊢
      have hlen' : r.length ≤ 39 := by simpa using hlen
      refine Ev.no (by simp) (Ev.yes (by simp <;> omega) ?_)
      rw [bt0, show (⟨#[45]⟩ : ByteArray) = bs [45] from rfl, show (⟨#[43]⟩ : ByteArray) = bs [43] from rfl, show (⟨#[45, 45]⟩ : ByteArray) = bs [45, 45] from rfl, show (⟨#[32]⟩ : ByteArray) = bs [32] from rfl]
      simp only [bs_app, List.cons_append, List.nil_append]
      refine Ev.no (fun e => hc (u8_eq (n := 45) e (by decide))) (Ev.yes (by simp; omega) ?_)
      refine Ev.bind (parseFloat_ev _ (by simp; omega)) (Ev.bind (parseFloat_ev _ (by simp; omega)) (Ev.yes (by simp; omega) (Ev.bind (parseFloat_ev _ (by simp; omega)) (Ev.bind (parseFloat_ev _ (by simp; omega)) ?_))))
      rw [hback, pfS_form 43 _ (by simp; omega) (by decide) (by decide) (by decide) (by decide), pfS_form 32 _ (by simp; omega) (by decide) (by decide) (by decide) (by decide), pfS_twice _ (by simp; omega)]
      refine Ev.yes rfl (Ev.bind0 (neg_f n hn (by omega)) ?_)
      rw [show (n + 9223372036854775808) % 18446744073709551616 = n + 9223372036854775808 by omega]
      exact Ev.yes rfl (Ev.yes rfl (Ev.yes rfl (Ev.yes rfl (Ev.bind awake_ev (Ev.ret rfl)))))
end Go.Proofs.YtjdnneomkocghaaDoor.Pure

namespace Go.Proofs.YtjdnneomkocghaaDoor.textSigns
open Go.ChangeShapes Go.WideShapes Go.ChangeAt Go.RowKit Go.Joins
open Go.ChangeMaps (open_string shut_string)
set_option linter.unusedVariables false
set_option maxRecDepth 100000 in
theorem lifted (os : Os) (started : os.Started) (H : Type) (enc : TypeId × Value → H) :
    ReturnsInHanded {} Tryd.checked os 6 .any (fun w args => (Rows.textSignsSpec.pre enc Tryd.prog Tryd.f6 [] false w args ∧ laidMetH Tryd.prog Laid.laid w) ∧ sizedMet enc Tryd.prog Tryd.f6 (OpenSpec.ofChange Rows.textSignsSpec) false w args) (Rows.textSignsSpec.post enc Tryd.prog Tryd.f6 false true false false) := by
  refine returnsInHanded_of_change_and (C := Tryd.checked) (X := fun w _ => laidMetH Tryd.prog Laid.laid w) (fun _ _ _ hh h => h.of_heap hh) Laid.own started (by kernel_rfl) Tryd.func6
    (ChangeSpec.witness_shaped (enc := enc) (C := Tryd.checked) (os := os) (X := fun w _ => laidMetH Tryd.prog Laid.laid w) false (World.doorLaid Tryd.prog 62 os) #[.int .u64 0] 8 rfl (World.shaped_of_RefB (by kernel_rfl) (by kernel_rfl)) (by kernel_rfl) (by kernel_rfl) (by kernel_rfl) (Laid.door_met os _)) ?_
  intro W base args ds gs before hval0 hW hcnd hsz0 hL _
  have hsz : (DataW.weightsEach Tryd.prog (Tryd.f6.params.toList ++ Rows.textSignsSpec.plain.varTypes Tryd.prog) (ds ++ gs)).all (· ≤ reachBytes) = true := hsz0
  have hval : ∀ (j : Nat) t v, Tryd.f6.params[j]? = some t → args[j]? = some v → Value.okWide Tryd.prog W .any base t v := hval0
  have hW' := hW
  obtain ⟨p, q, hA0, hV, rfl, hfz, hnd⟩ := hW
  have hA : DataW.TrodAll enc Tryd.prog W 0 (fun _ => true) true Tryd.f6.params.toList args.toList ds p := hA0
  rw [Tryd.params6] at hA hval hsz
  obtain ⟨v0, vs0, d0, ds0, p0, q0, hargs, rfl, rfl, h0, r0⟩ := trodAll_cons hA
  obtain ⟨rfl, rfl, rfl⟩ := trodAll_nil r0
  obtain rfl : args = #[v0] := by cases args; simp_all
  obtain ⟨rfl, rfl⟩ := trodVars_none hV
  have hG : Given.Glob W := Laid.of_laid hL
  obtain ⟨a0, rfl, rfl, rfl, w0⟩ := open_int Tryd.underlying22 (hval 0 22 v0 rfl rfl) h0
  clear hA0 hval0 hsz0 hsz
  refine (Print.casketlaw4_TextSigns.walk Pure.TextSigns a0 W hG w0).mono fun e W' ⟨he, bel⟩ => ?_
  subst he
  exact ⟨_, rfl, _, _, _, [], _, [], hW', trodAll_mk1 (shut_bool Tryd.underlying4 _), (trodAll_cons_mk (shut_int Tryd.underlying22 w0) trodAll_mk0), rfl, bel.frame _, fun h => by cases h⟩
theorem over : Rows.textSignsRow.holds Tryd.pinned (OpenSpec.ofChange Rows.textSignsSpec) :=
  OpenClaim.holds_of_wide 6 Tryd.f6 rfl rfl rfl rfl rfl rfl rfl ⟨rfl, rfl, rfl, rfl, rfl⟩ rfl rfl rfl rfl rfl (by kernel_rfl) Tryd.func6 (by kernel_rfl)
    (of_decide_eq_true (by kernel_rfl)) (by unfold Func.isWrapper; first | (rw [if_pos (by decide +kernel)]; kernel_rfl) | (rw [if_neg (by decide +kernel)]; exact ⟨rfl, rfl⟩))
    (fun os started H enc _ => lifted os started H enc)
theorem card_holds : Rows.TextSignsCardSaid :=
  Claim7.holds_tied_plain_at .later [] [.data, .data, .data, .sentinel, .sentinel] true (true, "ad15c43d92773aa6568aae07c966bf4115df40cfb2d27db2d73bcd3fa37724bd") true
    over (fun _ h => by cases h) (by kernel_rfl) (fun _ h => by cases h) textSigns_row_tie rfl ⟨rfl, rfl⟩ (by kernel_rfl) rfl
    (fun f fn hf hfn => by
      obtain rfl : f = 6 := Option.some.inj ((show Tryd.prog.funcNamed "casket/casketlaw4.TextSigns" = some 6 by kernel_rfl).symm.trans hf) |>.symm
      obtain rfl : fn = Tryd.f6 := (Option.some.inj (Tryd.func6.symm.trans hfn)).symm
      exact ⟨by kernel_rfl, fun j t ht => by
        rw [Tryd.params6] at ht
        have hm : t ∈ [22] := by simpa using Array.mem_of_getElem? ht
        have hall : ([22].all fun u => !Tryd.prog.wantsStandIn u) = true := by kernel_rfl
        exact (show Tryd.prog.wantsStandIn t = false by simpa using List.all_eq_true.1 hall t hm)⟩)
    (by kernel_rfl)
#print axioms card_holds
end Go.Proofs.YtjdnneomkocghaaDoor.textSigns
namespace Go.Proofs.YtjdnneomkocghaaDoor
/-- The tied card, under a short name, for the claim. -/
theorem textSigns_card : Rows.TextSignsCardSaid := textSigns.card_holds
end Go.Proofs.YtjdnneomkocghaaDoor
