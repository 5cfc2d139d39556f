/- The statement TextPrints, plain: numtext.Int and Float answer the reference's texts, whatever the number. No condition. -/
import Derived.Test.YtjdnneomkocghaaDoorSpJ
import Derived.Test.YtjdnneomkocghaaDoorSpL
namespace Go.Proofs.YtjdnneomkocghaaDoor.Pure
open Go.RowKit Go.Proofs.YtjdnneomkocghaaDoorW.PrintWords Go.Proofs.YtjdnneomkocghaaDoorW.PrintMore Go.Proofs.YtjdnneomkocghaaDoor.Given Go.Proofs.YtjdnneomkocghaaDoor.Print Go.Proofs.YtjdnneomkocghaaDoor.Sp
open Go.Lib (itoa)
theorem i64_of {a : Int} (h : (Lit.int .i64 a).wf = true) : -9223372036854775808 ≤ a ∧ a ≤ 9223372036854775807 := by
  simpa [Lit.wf, IntKind.min, IntKind.max, IntKind.signed, IntKind.bits] using h
theorem u64_of {a : Int} (h : (Lit.int .u64 a).wf = true) : 0 ≤ a ∧ a ≤ 18446744073709551615 := by
  simpa [Lit.wf, IntKind.min, IntKind.max, IntKind.signed, IntKind.bits] using h
theorem TextPrints : casketlaw4_TextPrints.Pure := by
  intro i b hi hb
  have hi := i64_of hi
  have hb := u64_of hb
  obtain ⟨n, rfl⟩ := Int.eq_ofNat_of_zero_le hb.1
  refine Ev.rounds ?_
  unfold casketlaw4_TextPrints.f
  have h1 := text_ev true i 0 hi (by omega)
  have h2 := text_ev false 0 n (by omega) (by omega)
  refine Ev.bind0 (int_f' hi) (Ev.bind (refInt_ev hi.1 hi.2) (Ev.yes rfl ?_))
  refine Ev.bind (float_ev n (by omega)) (Ev.bind (refFloat_ev n (by omega)) (Ev.yes rfl ?_))
  refine Ev.bind h1 (Ev.bind (refInt_ev hi.1 hi.2) (Ev.yes rfl ?_))
  refine Ev.bind h2 (Ev.bind (refFloat_ev n (by omega)) (Ev.yes rfl ?_))
  exact Ev.bind awake_ev (Ev.ret rfl)
end Go.Proofs.YtjdnneomkocghaaDoor.Pure
