/- Plain Lean: numtext.Parse. -/
import Derived.Test.YtjdnneomkocghaaDoorSpK
import Derived.Test.YtjdnneomkocghaaDoorPrint13
namespace Go.Proofs.YtjdnneomkocghaaDoor.Sp
open Go.RowKit Go.Proofs.YtjdnneomkocghaaDoorW.PrintWords Go.Proofs.YtjdnneomkocghaaDoorW.PrintMore Go.Proofs.YtjdnneomkocghaaDoor.Given Go.Proofs.YtjdnneomkocghaaDoor.Print
open Go.Lib (decDigits itoa nDigits)
set_option linter.unusedVariables false
set_option linter.unusedSimpArgs false

/-- Is it a double's text by its beginning? -/
def dblB (l : List UInt8) : Bool := Lib.hasPrefix (magB l) [48, 120] || (l == [110, 97, 110] || (l == [105, 110, 102] || l == [45, 105, 110, 102]))
def parseS (l : List UInt8) : Bool × Int × Int × Int :=
  if 64 < l.length then (false, 0, 0, 2)
  else if dblB l = true then (false, 0, (pfS l).1, (pfS l).2)
  else ((parseIntT l).2 == 0, (parseIntT l).1, 0, (parseIntT l).2)
theorem parse_ev (l : List UInt8) (hl : l.length ≤ 1000000) : Ev (fun k => numtext_Parse.f k (bs l)) (parseS l) := by
  have yes : Ev (fun k => numtext_Parse.j0 k (bs l) true) (false, 0, (pfS l).1, (pfS l).2) := by
    refine Ev.step (fun k => by rw [numtext_Parse.j0]) ?_
    exact Ev.yes rfl (Ev.bind (parseFloat_ev l hl) (Ev.ret rfl))
  have no : Ev (fun k => numtext_Parse.j0 k (bs l) false) ((parseIntT l).2 == 0, (parseIntT l).1, 0, (parseIntT l).2) := by
    refine Ev.step (fun k => by rw [numtext_Parse.j0]) ?_
    exact Ev.no (by simp) (Ev.bind0 (parseInt_f l hl) (Ev.ret rfl))
  unfold numtext_Parse.f parseS
  simp only [bs_size, bs_toList]
  by_cases h0 : 64 < l.length
  · rw [if_pos h0]; exact Ev.yes (by omega) (Ev.ret rfl)
  · rw [if_neg h0]
    refine Ev.no (by omega) ?_
    refine Ev.bind0 (a := bs (magB l)) (by rw [← trim_mag]; rfl) ?_
    refine Ev.bind0 (a := Lib.hasPrefix (magB l) [48, 120]) rfl ?_
    unfold dblB
    by_cases hp : Lib.hasPrefix (magB l) [48, 120] = true
    · rw [if_pos (by rw [hp]; rfl)]
      exact Ev.yes hp yes
    · refine Ev.no hp ?_
      have hp' : Lib.hasPrefix (magB l) [48, 120] = false := by simpa using hp
      rw [hp', Bool.false_or]
      by_cases h1 : l = [110, 97, 110]
      · rw [if_pos (by subst h1; rfl)]; exact Ev.yes h1 yes
      · refine Ev.no h1 ?_
        by_cases h2 : l = [105, 110, 102]
        · rw [if_pos (by subst h2; rfl)]; exact Ev.yes h2 yes
        · refine Ev.no h2 ?_
          rw [beq_eq_false_iff_ne.2 h1, beq_eq_false_iff_ne.2 h2, Bool.false_or, Bool.false_or]
          by_cases h3 : l = [45, 105, 110, 102]
          · rw [beq_iff_eq.2 h3, if_pos rfl]; exact yes
          · rw [beq_eq_false_iff_ne.2 h3, if_neg (by simp)]; exact no
end Go.Proofs.YtjdnneomkocghaaDoor.Sp
