/- The statement TextReads, plain: numtext.ParseInt, ParseFloat and Parse answer what the reference answers, whatever the text. No condition. -/
import Derived.Test.YtjdnneomkocghaaDoorSpH
import Derived.Test.YtjdnneomkocghaaDoorSpM
import Derived.Test.YtjdnneomkocghaaDoorPrint14
namespace Go.Proofs.YtjdnneomkocghaaDoor.Pure
open Go.RowKit Go.Proofs.YtjdnneomkocghaaDoorW.PrintWords Go.Proofs.YtjdnneomkocghaaDoorW.PrintMore Go.Proofs.YtjdnneomkocghaaDoor.Given Go.Proofs.YtjdnneomkocghaaDoor.Print Go.Proofs.YtjdnneomkocghaaDoor.Sp
set_option linter.unusedVariables false
/-- What the reference's Parse answers, told by the same words. -/
def parseR (l : List UInt8) : Bool × Int × Int × Int :=
  if 64 < l.length then (false, 0, 0, 2)
  else if dblB l = true then (if (pfS l).2 = 0 then (false, 0, (pfS l).1, 0) else (false, 0, 0, (pfS l).2))
  else (if (parseIntT l).2 = 0 then (true, (parseIntT l).1, 0, 0) else (false, 0, 0, (parseIntT l).2))
theorem parseR_eq (l : List UInt8) : parseR l = parseS l := by
  unfold parseR parseS
  by_cases h0 : 64 < l.length
  · rw [if_pos h0, if_pos h0]
  · rw [if_neg h0, if_neg h0]
    by_cases h1 : dblB l = true
    · rw [if_pos h1, if_pos h1]
      by_cases h2 : (pfS l).2 = 0
      · rw [if_pos h2, h2]
      · rw [if_neg h2, pfS_err l h2]
    · rw [if_neg h1, if_neg h1]
      by_cases h2 : (parseIntT l).2 = 0
      · rw [if_pos h2, h2]; rfl
      · rw [if_neg h2, parseIntT_err l h2, beq_eq_false_iff_ne.2 h2]
theorem pre_hex (m : List UInt8) : Lib.hasPrefix m [48, 120] = true ↔ (2 ≤ m.length ∧ m.getD 0 0 = 48 ∧ m.getD 1 0 = 120) := by
  rcases pre2 m with ⟨h1, r, rfl, _⟩ | ⟨h1, _, h3⟩
  · simp [h1]
  · rw [h1]
    constructor
    · intro h; cases h
    · rintro ⟨a, b, c⟩
      match m, a, b, c, h3 with
      | x :: y :: r, a, b, c, h3 =>
        simp at b c
        subst b; subst c
        exact absurd rfl (h3 r)
theorem refParse_ev (l : List UInt8) (hl : l.length ≤ 1000000) : Ev (fun k => casketref4_Parse.f k (bs l)) (parseR l) := by
  have yes : Ev (fun k => casketref4_Parse.j2 k (bs l) true) (if (pfS l).2 = 0 then (false, 0, (pfS l).1, 0) else (false, 0, 0, (pfS l).2)) := by
    refine Ev.step (fun k => by rw [casketref4_Parse.j2]) ?_
    refine Ev.yes rfl (Ev.bind (refParseFloat_ev l hl) ?_)
    by_cases h : (pfS l).2 = 0
    · simp only [if_pos h]; exact Ev.ret rfl
    · simp only [if_neg h]; exact Ev.ret rfl
  have no : Ev (fun k => casketref4_Parse.j2 k (bs l) false) (if (parseIntT l).2 = 0 then (true, (parseIntT l).1, 0, 0) else (false, 0, 0, (parseIntT l).2)) := by
    refine Ev.step (fun k => by rw [casketref4_Parse.j2]) ?_
    refine Ev.no (by simp) (Ev.bind (refParseInt_ev l hl) ?_)
    by_cases h : (parseIntT l).2 = 0
    · simp only [if_pos h]; exact Ev.ret rfl
    · simp only [if_neg h]; exact Ev.ret rfl
  have j1 : ∀ m, m = magB l → Ev (fun k => casketref4_Parse.j1 k (bs l) (bs m)) (if dblB l = true then (if (pfS l).2 = 0 then (false, 0, (pfS l).1, 0) else (false, 0, 0, (pfS l).2)) else (if (parseIntT l).2 = 0 then (true, (parseIntT l).1, 0, 0) else (false, 0, 0, (parseIntT l).2))) := by
    intro m hm
    have named : Lib.hasPrefix m [48, 120] = false → Ev (fun k => if l = [110, 97, 110] then casketref4_Parse.j2 k (bs l) true else if l = [105, 110, 102] then casketref4_Parse.j2 k (bs l) true else casketref4_Parse.j2 k (bs l) (l == [45, 105, 110, 102])) (if dblB l = true then (if (pfS l).2 = 0 then (false, 0, (pfS l).1, 0) else (false, 0, 0, (pfS l).2)) else (if (parseIntT l).2 = 0 then (true, (parseIntT l).1, 0, 0) else (false, 0, 0, (parseIntT l).2))) := by
      intro hp
      unfold dblB
      rw [← hm, hp, Bool.false_or]
      by_cases h1 : l = [110, 97, 110]
      · rw [if_pos (c := ((l == [110, 97, 110] || (l == [105, 110, 102] || l == [45, 105, 110, 102])) = true)) (by subst h1; rfl)]; exact Ev.yes h1 yes
      · refine Ev.no h1 ?_
        by_cases h2 : l = [105, 110, 102]
        · rw [if_pos (c := ((l == [110, 97, 110] || (l == [105, 110, 102] || l == [45, 105, 110, 102])) = true)) (by subst h2; rfl)]; exact Ev.yes h2 yes
        · refine Ev.no h2 ?_
          rw [beq_eq_false_iff_ne.2 h1, beq_eq_false_iff_ne.2 h2, Bool.false_or, Bool.false_or]
          by_cases h3 : l = [45, 105, 110, 102]
          · rw [beq_iff_eq.2 h3, if_pos rfl]; exact yes
          · rw [beq_eq_false_iff_ne.2 h3, if_neg (by simp)]; exact no
    refine Ev.step (fun k => by rw [casketref4_Parse.j1]) ?_
    simp only [bs_size, bs_toList]
    by_cases hp : Lib.hasPrefix m [48, 120] = true
    · obtain ⟨a, b, c⟩ := (pre_hex m).1 hp
      have hd : dblB l = true := by unfold dblB; rw [← hm, hp]; rfl
      rw [show bt (bs m) 0 = ((m.getD 0 0).toNat : Int) from bt_bs m 0, show bt (bs m) 1 = ((m.getD 1 0).toNat : Int) from bt_bs m 1, b, c, hd, if_pos rfl]
      exact Ev.yes (by omega) (Ev.yes (by omega) (Ev.yes rfl (Ev.yes (by omega) (Ev.yes rfl yes))))
    · have hp' : Lib.hasPrefix m [48, 120] = false := by simpa using hp
      by_cases h2 : 2 ≤ m.length
      · refine Ev.yes (by omega) (Ev.yes (by omega) ?_)
        rw [show bt (bs m) 0 = ((m.getD 0 0).toNat : Int) from bt_bs m 0, show bt (bs m) 1 = ((m.getD 1 0).toNat : Int) from bt_bs m 1]
        by_cases h48 : m.getD 0 0 = 48
        · refine Ev.yes (by rw [h48]; rfl) (Ev.yes (by omega) (Ev.no (fun h => hp ((pre_hex m).2 ⟨h2, h48, u8_eq (n := 120) h (by decide)⟩)) (named hp')))
        · exact Ev.no (fun h => h48 (u8_eq (n := 48) h (by decide))) (named hp')
      · exact Ev.no (by omega) (named hp')
  unfold casketref4_Parse.f parseR
  simp only [bs_size, bs_toList]
  by_cases h0 : 64 < l.length
  · rw [if_pos h0]; exact Ev.yes (by omega) (Ev.ret rfl)
  · rw [if_neg h0]
    refine Ev.no (by omega) ?_
    have j0no : minusB l = false → Ev (fun k => casketref4_Parse.j0 k (bs l) (bs l) false) (if dblB l = true then (if (pfS l).2 = 0 then (false, 0, (pfS l).1, 0) else (false, 0, 0, (pfS l).2)) else (if (parseIntT l).2 = 0 then (true, (parseIntT l).1, 0, 0) else (false, 0, 0, (parseIntT l).2))) := fun hm => by
      refine Ev.step (fun k => by rw [casketref4_Parse.j0]) ?_
      refine Ev.no (by simp) ?_
      exact j1 l (by unfold magB; rw [hm]; simp)
    cases l with
    | nil => exact Ev.yes rfl (j0no rfl)
    | cons c r =>
      refine Ev.no (by simp) (Ev.yes (by simp <;> omega) ?_)
      rw [bt0]
      by_cases hm : c = 45
      · subst hm
        have e : ((UInt8.toNat 45 : Int) == 45) = true := rfl
        rw [e]
        refine Ev.step (fun k => by rw [casketref4_Parse.j0]) ?_
        refine Ev.yes rfl (Ev.yes (by rw [bs_size]; simp <;> omega) ?_)
        rw [bs_from]
        exact j1 r rfl
      · have e : ((c.toNat : Int) == 45) = false := by
          rw [beq_eq_false_iff_ne]
          intro h
          exact hm (u8_eq (n := 45) h (by decide))
        rw [e]
        exact j0no (by unfold minusB; simpa using hm)
theorem TextReads : casketlaw4_TextReads.Pure := by
  intro s _
  rw [bs_of s]
  generalize s.data.toList = l
  refine Ev.rounds ?_
  unfold casketlaw4_TextReads.f
  rw [bs_size]
  by_cases h : 1000 < l.length
  · exact Ev.yes (by omega) (Ev.ret rfl)
  · refine Ev.no (by omega) ?_
    refine Ev.bind0 (parseInt_f l (by omega)) (Ev.bind (refParseInt_ev l (by omega)) (Ev.yes rfl ?_))
    rw [bne_self_eq_false]
    refine Ev.step (fun k => by rw [casketlaw4_TextReads.j0]) ?_
    refine Ev.no (by simp) (Ev.bind (parseFloat_ev l (by omega)) (Ev.bind (refParseFloat_ev l (by omega)) (Ev.yes rfl ?_)))
    rw [bne_self_eq_false]
    refine Ev.step (fun k => by rw [casketlaw4_TextReads.j1]) ?_
    refine Ev.no (by simp) (Ev.bind (parse_ev l (by omega)) (Ev.bind (refParse_ev l (by omega)) ?_))
    rw [parseR_eq]
    exact Ev.yes (by simp) (Ev.yes rfl (Ev.bind awake_ev (Ev.ret rfl)))
end Go.Proofs.YtjdnneomkocghaaDoor.Pure
