/- Plain Lean: whole numbers read: numtext.ParseInt's word, casketref4.ParseInt. -/
import Derived.Test.YtjdnneomkocghaaDoorSpA
import Derived.Test.YtjdnneomkocghaaDoorPrint9
namespace Go.Proofs.YtjdnneomkocghaaDoor.Sp
open Go.RowKit Go.Proofs.YtjdnneomkocghaaDoorW.PrintWords Go.Proofs.YtjdnneomkocghaaDoor.Given Go.Proofs.YtjdnneomkocghaaDoor.Print
set_option linter.unusedVariables false
set_option linter.unusedSimpArgs false

def decVal : Nat → List UInt8 → Nat
  | acc, [] => acc
  | acc, c :: r => decVal (acc * 10 + (c.toNat - 48)) r
theorem decVal_ge : ∀ (l : List UInt8) (acc : Nat), acc ≤ decVal acc l
  | [], acc => Nat.le_refl _
  | c :: r, acc => Nat.le_trans (by omega) (decVal_ge r (acc * 10 + (c.toNat - 48)))
theorem decVal_mono : ∀ (l : List UInt8) (a b : Nat), a ≤ b → decVal a l ≤ decVal b l
  | [], _, _, h => h
  | c :: r, a, b, h => decVal_mono r _ _ (by omega)
theorem decVal_append : ∀ (l m : List UInt8) (a : Nat), decVal a (l ++ m) = decVal (decVal a l) m
  | [], _, _ => rfl
  | c :: r, m, a => decVal_append r m _
theorem parseUintM_dig : ∀ (l : List UInt8) (acc : Nat), l.all isDig = true → acc ≤ 18446744073709551615 →
    Lib.parseUintM 18446744073709551615 acc l = if decVal acc l ≤ 18446744073709551615 then .ok (decVal acc l) else .range
  | [], acc, _, h => by rw [Lib.parseUintM]; rw [if_pos (show decVal acc [] ≤ _ from h)]; rfl
  | c :: r, acc, h, ha => by
    simp only [List.all_cons, Bool.and_eq_true] at h
    have hc : 48 ≤ c.toNat ∧ c.toNat ≤ 57 := by simpa [isDig] using h.1
    rw [Lib.parseUintM, if_pos hc]
    have hg := decVal_ge r (acc * 10 + (c.toNat - 48))
    show _ = if decVal (acc * 10 + (c.toNat - 48)) r ≤ _ then _ else _
    by_cases h1 : 1844674407370955162 ≤ acc
    · rw [if_pos h1, if_neg (by omega)]
    · rw [if_neg h1]
      by_cases h2 : 18446744073709551615 < acc * 10 + (c.toNat - 48)
      · rw [if_pos h2, if_neg (by omega)]
      · rw [if_neg h2, parseUintM_dig r _ h.2 (by omega)]
        rfl

def resI (minus : Bool) (v : Nat) : Int × Int :=
  if minus = true then (if v ≤ 9223372036854775808 then (-(v : Int), 0) else (0, 13)) else (if v < 9223372036854775808 then ((v : Int), 0) else (0, 13))
def minusB (l : List UInt8) : Bool := l.head? == some 45
def magB (l : List UInt8) : List UInt8 := if minusB l = true then l.tail else l
def parseIntT (l : List UInt8) : Int × Int :=
  if 64 < l.length then (0, 2)
  else if magB l = [] then (0, 20)
  else if (magB l).headD 0 = 48 ∧ (1 < (magB l).length ∨ minusB l = true) then (0, 20)
  else if (magB l).all isDig = true then resI (minusB l) (decVal 0 (magB l)) else (0, 20)
theorem trim_mag (l : List UInt8) : Lib.trimPrefix l [45] = magB l := by
  unfold Lib.trimPrefix Lib.hasPrefix magB minusB
  cases l with
  | nil => rfl
  | cons c r =>
    by_cases h : c = 45
    · subst h; simp
    · have h' : ¬ 45 = c := fun e => h e.symm
      simp [h, h']
theorem parseIntB_mag {l : List UInt8} (h1 : magB l ≠ []) (h2 : (magB l).all isDig = true) :
    Lib.parseIntB 64 l = if decVal 0 (magB l) ≤ 18446744073709551615 then (if minusB l = false ∧ 9223372036854775808 ≤ decVal 0 (magB l) then .range else if minusB l = true ∧ 9223372036854775808 < decVal 0 (magB l) then .range else .ok (if minusB l = true then -(decVal 0 (magB l) : Int) else decVal 0 (magB l))) else .range := by
  cases l with
  | nil => simp [magB, minusB] at h1
  | cons c r =>
    have hm : minusB (c :: r) = decide (c.toNat = 45) := by
      unfold minusB
      rw [Bool.eq_iff_iff]
      simp
      exact ⟨fun h => by rw [h]; rfl, fun h => UInt8.toNat_inj.1 h⟩
    have h43 : ¬ (c.toNat = 43) := by
      intro h
      have h5 : ¬ c.toNat = 45 := by omega
      have : magB (c :: r) = c :: r := by unfold magB; rw [hm, if_neg (by simpa using h5)]
      rw [this] at h2
      simp only [List.all_cons, Bool.and_eq_true] at h2
      have hc : 48 ≤ c.toNat ∧ c.toNat ≤ 57 := by simpa [isDig] using h2.1
      omega
    have hb : (if c.toNat = 43 ∨ c.toNat = 45 then r else c :: r) = magB (c :: r) := by
      unfold magB
      rw [hm]
      by_cases h5 : c.toNat = 45
      · rw [if_pos (.inr h5), if_pos (by simpa using h5)]; rfl
      · rw [if_neg (by omega), if_neg (by simpa using h5)]
    unfold Lib.parseIntB
    simp only [hb, Lib.parseUintB, if_neg h1, hm]
    simp only [show (2 ^ 64 - 1 : Nat) = 18446744073709551615 from rfl, show (2 ^ (64 - 1) : Nat) = 9223372036854775808 from rfl]
    rw [parseUintM_dig _ _ h2 (by omega)]
    by_cases hv : decVal 0 (magB (c :: r)) ≤ 18446744073709551615
    · simp only [if_pos hv]
      by_cases h5 : c.toNat = 45 <;> simp [h5]
    · simp only [if_neg hv]
theorem parseIntS_eq (l : List UInt8) : parseIntS l = parseIntT l := by
  unfold parseIntS parseIntT
  by_cases h0 : 64 < l.length
  · rw [if_pos h0, if_pos h0]
  · rw [if_neg h0, if_neg h0, trim_mag]
    by_cases h1 : magB l = []
    · rw [if_pos h1, h1, if_pos (show digitsB [] = false from rfl)]
    · rw [if_neg h1]
      have hne : (magB l).isEmpty = false := by simpa using h1
      by_cases h2 : (magB l).all isDig = true
      · rw [if_neg (by unfold digitsB; rw [h2, hne]; simp)]
        have hz : ((magB l).headD 0 = 48 ∧ l ≠ [48]) ↔ ((magB l).headD 0 = 48 ∧ (1 < (magB l).length ∨ minusB l = true)) := by
          constructor
          · rintro ⟨a, b⟩
            refine ⟨a, ?_⟩
            by_cases hm : minusB l = true
            · exact .inr hm
            · left
              have hl : magB l = l := by unfold magB; rw [if_neg hm]
              rw [hl] at a ⊢
              cases l with
              | nil => simp at a
              | cons c r =>
                simp at a
                subst a
                cases r with
                | nil => exact absurd rfl b
                | cons => simp
          · rintro ⟨a, b⟩
            refine ⟨a, ?_⟩
            rintro rfl
            simp [magB, minusB] at b
        by_cases h3 : (magB l).headD 0 = 48 ∧ l ≠ [48]
        · rw [if_pos h3, if_pos (hz.1 h3)]
        · rw [if_neg h3, if_neg (fun h => h3 (hz.2 h)), if_pos h2, parseIntB_mag h1 h2]
          generalize decVal 0 (magB l) = v
          unfold resI
          by_cases hm : minusB l = true
          · simp only [hm, if_true]
            by_cases hv : v ≤ 18446744073709551615
            · rw [if_pos hv]
              by_cases hv2 : v ≤ 9223372036854775808
              · rw [if_pos hv2]; simp; rw [if_neg (by omega)]
              · rw [if_neg hv2]; simp; rw [if_pos (by omega)]
            · rw [if_neg hv, if_neg (by omega)]
          · have hm' : minusB l = false := by simpa using hm
            simp only [hm', if_false, Bool.false_eq_true]
            by_cases hv : v ≤ 18446744073709551615
            · rw [if_pos hv]
              by_cases hv2 : v < 9223372036854775808
              · rw [if_pos hv2]; simp; rw [if_neg (by omega)]
              · rw [if_neg hv2]; simp; rw [if_pos (by omega)]
            · rw [if_neg hv, if_neg (by omega)]
      · have h2' : (magB l).all isDig = false := by simpa using h2
        rw [if_pos (by unfold digitsB; rw [h2']; rfl), if_neg h2]
        split <;> rfl

/- the reference -/
theorem dig_sub {c : UInt8} (h : isDig c = true) : ((c.toNat : Int) - 48) % 256 = ((c.toNat - 48 : Nat) : Int) ∧ c.toNat - 48 ≤ 9 := by
  have hc : 48 ≤ c.toNat ∧ c.toNat ≤ 57 := by simpa [isDig] using h
  omega
theorem pi_over (minus : Bool) (d : List UInt8) (hd : d.length ≤ 64) : ∀ (r : List UInt8) (i : Nat) (n : Int), d.drop i = r → i ≤ d.length →
    Ev (fun k => casketref4_ParseInt.l0 k minus (bs d) n true (i : Int)) (if r.all isDig = true then (0, 13) else (0, 20))
  | [], i, n, h, hi => by
    have := drop_nil h hi
    refine Ev.step (fun k => by rw [casketref4_ParseInt.l0]) ?_
    refine Ev.no (by rw [bs_size]; omega) (Ev.yes rfl ?_)
    refine Ev.step (fun k => by rw [casketref4_ParseInt.j5]) ?_
    exact Ev.yes rfl (Ev.ret rfl)
  | c :: r, i, n, h, hi => by
    obtain ⟨h1, h2, h3⟩ := drop_cons h
    refine Ev.step (fun k => by rw [casketref4_ParseInt.l0]) ?_
    refine Ev.yes (by rw [bs_size]; omega) (Ev.yes (by omega) ?_)
    rw [bt_bs, h1]
    by_cases hc : isDig c = true
    · have hcc : 48 ≤ c.toNat ∧ c.toNat ≤ 57 := by simpa [isDig] using hc
      refine Ev.no (by omega) ?_
      have e : decide ((c.toNat : Int) > 57) = false := by simp; omega
      rw [e]
      refine Ev.step (fun k => by rw [casketref4_ParseInt.j4]) ?_
      refine Ev.no (by simp) (Ev.yes (by omega) (Ev.yes (by rw [bs_size]; omega) (Ev.yes rfl ?_)))
      rw [w64 (by omega) (by omega)]
      have ih := pi_over minus d hd r (i + 1) n h3 (by omega)
      have e2 : (c :: r).all isDig = r.all isDig := by simp [hc]
      rw [e2]
      exact ih
    · have hc' : isDig c = false := by simpa using hc
      have e2 : (c :: r).all isDig = false := by simp [hc']
      rw [e2]
      have fin : Ev (fun k => casketref4_ParseInt.j4 k minus (bs d) n true (i : Int) true) (0, 20) := Ev.step (fun k => by rw [casketref4_ParseInt.j4]) (Ev.yes rfl (Ev.ret rfl))
      by_cases h48 : (c.toNat : Int) < 48
      · exact Ev.yes h48 fin
      · refine Ev.no h48 ?_
        have e : decide ((c.toNat : Int) > 57) = true := by
          unfold isDig at hc'
          simp at hc' ⊢
          omega
        rw [e]
        exact fin
theorem pi_loop (minus : Bool) (d : List UInt8) (hd : d.length ≤ 64) : ∀ (r : List UInt8) (i n : Nat), d.drop i = r → i ≤ d.length → n ≤ 9223372036854775808 →
    Ev (fun k => casketref4_ParseInt.l0 k minus (bs d) (n : Int) false (i : Int)) (if r.all isDig = true then resI minus (decVal n r) else (0, 20))
  | [], i, n, h, hi, hn => by
    have := drop_nil h hi
    refine Ev.step (fun k => by rw [casketref4_ParseInt.l0]) ?_
    refine Ev.no (by rw [bs_size]; omega) (Ev.no (by simp) ?_)
    show Ev _ (resI minus n)
    unfold resI
    cases minus with
    | true =>
      refine Ev.yes rfl (Ev.step (fun k => by rw [casketref4_ParseInt.j5]) (Ev.no (by simp) (Ev.yes rfl (Ev.ret ?_))))
      rw [if_pos rfl, if_pos hn]
      congr 1
      by_cases h0 : n = 0
      · subst h0; rw [wu64_eq]; simp; unfold wrap64; decide
      · rw [wu64 (by omega) (by omega), w64 (x := (n : Int) - 1) (by omega) (by omega), w64 (x := -((n : Int) - 1)) (by omega) (by omega), w64 (by omega) (by omega)]
        omega
    | false =>
      refine Ev.no (by simp) ?_
      rw [if_neg (by simp)]
      by_cases h0 : n = 9223372036854775808
      · subst h0
        refine Ev.step (fun k => by rw [casketref4_ParseInt.j5]) ?_
        exact Ev.yes rfl (Ev.ret rfl)
      · have e : ((n : Int) == 9223372036854775808) = false := by rw [beq_eq_false_iff_ne]; omega
        rw [e]
        refine Ev.step (fun k => by rw [casketref4_ParseInt.j5]) (Ev.no (by simp) (Ev.no (by simp) (Ev.ret ?_)))
        rw [if_pos (by omega), w64 (by omega) (by omega)]
  | c :: r, i, n, h, hi, hn => by
    obtain ⟨h1, h2, h3⟩ := drop_cons h
    refine Ev.step (fun k => by rw [casketref4_ParseInt.l0]) ?_
    refine Ev.yes (by rw [bs_size]; omega) (Ev.yes (by omega) ?_)
    rw [bt_bs, h1]
    by_cases hc : isDig c = true
    · have hcc : 48 ≤ c.toNat ∧ c.toNat ≤ 57 := by simpa [isDig] using hc
      obtain ⟨hs1, hs2⟩ := dig_sub hc
      refine Ev.no (by omega) ?_
      have e : decide ((c.toNat : Int) > 57) = false := by simp; omega
      rw [e]
      refine Ev.step (fun k => by rw [casketref4_ParseInt.j4]) ?_
      refine Ev.no (by simp) (Ev.yes (by omega) (Ev.yes (by rw [bs_size]; omega) (Ev.no (by simp) ?_)))
      rw [bt_bs, h1, hs1, w64 (x := (i : Int) + 1) (by omega) (by omega)]
      have e2 : (c :: r).all isDig = r.all isDig := by simp [hc]
      rw [e2]
      show Ev _ (if r.all isDig = true then resI minus (decVal (n * 10 + (c.toNat - 48)) r) else (0, 20))
      by_cases ho : (n : Int) > (9223372036854775808 - ((c.toNat - 48 : Nat) : Int)) / 10
      · refine Ev.yes ho ?_
        have ih := pi_over minus d hd r (i + 1) (n : Int) h3 (by omega)
        have hg := decVal_ge r (n * 10 + (c.toNat - 48))
        have e3 : resI minus (decVal (n * 10 + (c.toNat - 48)) r) = (0, 13) := by
          unfold resI
          cases minus with
          | true => rw [if_pos rfl, if_neg (by omega)]
          | false => rw [if_neg (by simp), if_neg (by omega)]
        rw [e3]
        exact ih
      · refine Ev.no ho ?_
        have ih := pi_loop minus d hd r (i + 1) (n * 10 + (c.toNat - 48)) h3 (by omega) (by omega)
        rw [wu64 (x := 10 * (n : Int)) (by omega) (by omega), wu64 (by omega) (by omega)]
        have e4 : 10 * (n : Int) + ((c.toNat - 48 : Nat) : Int) = ((n * 10 + (c.toNat - 48) : Nat) : Int) := by omega
        rw [e4]
        exact ih
    · have hc' : isDig c = false := by simpa using hc
      have e2 : (c :: r).all isDig = false := by simp [hc']
      rw [e2]
      have fin : Ev (fun k => casketref4_ParseInt.j4 k minus (bs d) (n : Int) false (i : Int) true) (0, 20) := Ev.step (fun k => by rw [casketref4_ParseInt.j4]) (Ev.yes rfl (Ev.ret rfl))
      by_cases h48 : (c.toNat : Int) < 48
      · exact Ev.yes h48 fin
      · refine Ev.no h48 ?_
        have e : decide ((c.toNat : Int) > 57) = true := by
          unfold isDig at hc'
          simp at hc' ⊢
          omega
        rw [e]
        exact fin
theorem pi_j1 (minus : Bool) (d : List UInt8) (hd : d.length ≤ 64) :
    Ev (fun k => casketref4_ParseInt.j1 k minus (bs d)) (if d = [] then (0, 20) else if d.headD 0 = 48 ∧ (1 < d.length ∨ minus = true) then (0, 20) else if d.all isDig = true then resI minus (decVal 0 d) else (0, 20)) := by
  have bad : Ev (fun k => casketref4_ParseInt.j2 k minus (bs d) true) (0, 20) := Ev.step (fun k => by rw [casketref4_ParseInt.j2]) (Ev.yes rfl (Ev.ret rfl))
  have good : Ev (fun k => casketref4_ParseInt.j2 k minus (bs d) false) (if d.all isDig = true then resI minus (decVal 0 d) else (0, 20)) :=
    by
    refine Ev.step (fun k => by rw [casketref4_ParseInt.j2]) ?_
    exact Ev.no (by simp) (pi_loop minus d hd d 0 0 rfl (by omega) (by omega))
  refine Ev.step (fun k => by rw [casketref4_ParseInt.j1]) ?_
  rw [bs_toList, bs_size]
  cases d with
  | nil => exact Ev.yes rfl bad
  | cons c r =>
    refine Ev.no (by simp) (Ev.yes (by simp) ?_)
    rw [bt0, if_neg (by simp)]
    by_cases h48 : c = 48
    · subst h48
      refine Ev.yes rfl ?_
      by_cases hl : 1 < (48 :: r).length
      · refine Ev.yes (by omega) ?_
        rw [if_pos ⟨rfl, .inl hl⟩]
        exact bad
      · refine Ev.no (by omega) ?_
        cases minus with
        | true => rw [if_pos ⟨rfl, .inr rfl⟩]; exact bad
        | false => rw [if_neg (fun h => h.2.elim hl (fun e => by cases e))]; exact good
    · refine Ev.no (fun h => h48 (u8_eq (n := 48) h (by decide))) ?_
      rw [if_neg (fun h => h48 h.1)]
      exact good
theorem refParseInt_ev (l : List UInt8) (hl : l.length ≤ 1000000) : Ev (fun k => casketref4_ParseInt.f k (bs l)) (parseIntT l) := by
  unfold casketref4_ParseInt.f parseIntT
  rw [bs_size, bs_toList]
  by_cases h0 : 64 < l.length
  · rw [if_pos h0]
    exact Ev.yes (by omega) (Ev.ret rfl)
  · rw [if_neg h0]
    refine Ev.no (by omega) ?_
    have j0no : minusB l = false → Ev (fun k => casketref4_ParseInt.j0 k (bs l) false) (if magB l = [] then (0, 20) else if (magB l).headD 0 = 48 ∧ (1 < (magB l).length ∨ minusB l = true) then (0, 20) else if (magB l).all isDig = true then resI (minusB l) (decVal 0 (magB l)) else (0, 20)) := by
      intro hm
      have hg : magB l = l := by unfold magB; rw [hm]; simp
      rw [hm, hg]
      exact Ev.step (fun k => by rw [casketref4_ParseInt.j0]) (Ev.no (by simp) (pi_j1 false l (by omega)))
    cases l with
    | nil => exact Ev.yes rfl (j0no rfl)
    | cons c r =>
      refine Ev.no (by simp) (Ev.yes (by simp) ?_)
      rw [bt0]
      by_cases hm : c = 45
      · subst hm
        have e : ((UInt8.toNat 45 : Int) == 45) = true := rfl
        rw [e]
        have hg : magB (45 :: r) = r := rfl
        have hb : minusB (45 :: r) = true := rfl
        rw [hg, hb]
        refine Ev.step (fun k => by rw [casketref4_ParseInt.j0]) (Ev.yes rfl (Ev.yes (by rw [bs_size]; simp; omega) ?_))
        rw [bs_from]
        exact pi_j1 true r (by simp at h0; omega)
      · have e : ((c.toNat : Int) == 45) = false := by
          rw [beq_eq_false_iff_ne]
          intro h
          exact hm (u8_eq (n := 45) h (by decide))
        rw [e]
        exact j0no (by unfold minusB; simpa using hm)
end Go.Proofs.YtjdnneomkocghaaDoor.Sp
