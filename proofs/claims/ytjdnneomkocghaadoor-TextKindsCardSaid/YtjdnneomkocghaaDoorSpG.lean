/- Plain Lean: doubles read: the word, and numtext.ParseFloat. -/
import Derived.Test.YtjdnneomkocghaaDoorSpC
import Derived.Test.YtjdnneomkocghaaDoorSpF
import Derived.Test.YtjdnneomkocghaaDoorPrint4
namespace Go.Proofs.YtjdnneomkocghaaDoor.Sp
open Go.RowKit Go.Proofs.YtjdnneomkocghaaDoorW.PrintWords Go.Proofs.YtjdnneomkocghaaDoorW.PrintMore Go.Proofs.YtjdnneomkocghaaDoor.Given Go.Proofs.YtjdnneomkocghaaDoor.Print
set_option linter.unusedVariables false
set_option linter.unusedSimpArgs false

def cutN : List UInt8 → List Nat × List UInt8
  | [] => ([], [])
  | c :: r => match hexV c with
    | some v => (v :: (cutN r).1, (cutN r).2)
    | none => ([], c :: r)
theorem cutS_eq : ∀ l : List UInt8, cutS l = (ints (cutN l).1, (cutN l).2)
  | [] => rfl
  | c :: r => by
    unfold cutS cutN
    cases hexV c with
    | none => rfl
    | some v => simp only [cutS_eq r]; rfl
theorem cutN_len : ∀ l : List UInt8, (cutN l).1.length + (cutN l).2.length = l.length
  | [] => rfl
  | c :: r => by
    unfold cutN
    cases hexV c with
    | none => simp
    | some v => simp only [List.length_cons]; have := cutN_len r; omega
theorem hexV_lt {c : UInt8} {v : Nat} (h : hexV c = some v) : v < 16 := by
  unfold hexV at h
  split at h
  · cases h; omega
  · split at h
    · cases h; omega
    · cases h
theorem cutN_lt : ∀ l : List UInt8, ∀ d ∈ (cutN l).1, d < 16
  | [] => by intro d hd; simp [cutN] at hd
  | c :: r => by
    intro d hd
    unfold cutN at hd
    cases h : hexV c with
    | none => rw [h] at hd; simp at hd
    | some v =>
      rw [h] at hd
      simp only [List.mem_cons] at hd
      rcases hd with rfl | hd
      · exact hexV_lt h
      · exact cutN_lt r d hd

def signN (neg : Bool) : Nat := if neg = true then 9223372036854775808 else 0
def expo (c : UInt8) (r : List UInt8) : Int := if c = 45 then -(decVal 0 r : Int) else (decVal 0 r : Int)
def tailS (neg : Bool) (ds : List Nat) (behind : Nat) : List UInt8 → Int × Int
  | 112 :: c :: r => if (c = 43 ∨ c = 45) ∧ r ≠ [] ∧ r.length ≤ 5 ∧ r.all isDig = true then resR (signN neg) (exactS (val 16 0 ds) (expo c r - 4 * behind)) else (0, 20)
  | _ => (0, 20)
theorem tailS_p (neg : Bool) (ds : List Nat) (p : Nat) (c : UInt8) (r : List UInt8) : tailS neg ds p (112 :: c :: r) = if (c = 43 ∨ c = 45) ∧ r ≠ [] ∧ r.length ≤ 5 ∧ r.all isDig = true then resR (signN neg) (exactS (val 16 0 ds) (expo c r - 4 * p)) else (0, 20) := rfl
def dotS (neg : Bool) (d1 : List Nat) : List UInt8 → Int × Int
  | 46 :: r => if (cutN r).1 = [] then (0, 20) else tailS neg (d1 ++ (cutN r).1) (cutN r).1.length (cutN r).2
  | l => tailS neg d1 0 l
def bodyS (neg : Bool) (l : List UInt8) : Int × Int := if (cutN l).1 = [] then (0, 20) else dotS neg (cutN l).1 (cutN l).2
def hexS (neg : Bool) : List UInt8 → Int × Int
  | 48 :: 120 :: r => bodyS neg r
  | _ => (0, 20)
def pfS (l : List UInt8) : Int × Int :=
  if 64 < l.length then (0, 2)
  else if l = [110, 97, 110] then (9221120237041090560, 0)
  else if l = [105, 110, 102] then (9218868437227405312, 0)
  else if l = [45, 105, 110, 102] then (18442240474082181120, 0)
  else hexS (minusB l) (magB l)

theorem decVal_lt : ∀ (l : List UInt8) (a : Nat), l.all isDig = true → decVal a l < (a + 1) * 10 ^ l.length
  | [], a, _ => by rw [show decVal a [] = a from rfl, List.length_nil, Nat.pow_zero]; omega
  | c :: r, a, h => by
    simp only [List.all_cons, Bool.and_eq_true] at h
    have hc : 48 ≤ c.toNat ∧ c.toNat ≤ 57 := by simpa [isDig] using h.1
    have := decVal_lt r (a * 10 + (c.toNat - 48)) h.2
    refine Nat.lt_of_lt_of_le this ?_
    rw [List.length_cons, Nat.pow_succ, Nat.mul_comm (10 ^ r.length) 10, ← Nat.mul_assoc]
    exact Nat.mul_le_mul_right _ (by omega)
theorem decVal_small {l : List UInt8} (h : l.all isDig = true) (hl : l.length ≤ 5) : decVal 0 l < 100000 := by
  have h1 := decVal_lt l 0 h
  have h2 := Nat.pow_le_pow_right (n := 10) (by decide) hl
  rw [Nat.zero_add, Nat.one_mul] at h1
  exact Nat.lt_of_lt_of_le h1 h2
theorem parseUint10_dig : ∀ (l : List UInt8) (acc : Nat), l.all isDig = true → decVal acc l < 18446744073709551616 → Lib.parseUint10 acc l = .ok (decVal acc l)
  | [], acc, _, _ => rfl
  | c :: r, acc, h, hv => by
    simp only [List.all_cons, Bool.and_eq_true] at h
    have hc : 48 ≤ c.toNat ∧ c.toNat ≤ 57 := by simpa [isDig] using h.1
    have hv' : decVal (acc * 10 + (c.toNat - 48)) r < 18446744073709551616 := hv
    have hg := decVal_ge r (acc * 10 + (c.toNat - 48))
    rw [Lib.parseUint10, if_pos hc, if_neg (by omega), if_neg (by omega), parseUint10_dig r _ h.2 hv']
    rfl
theorem atoi_ok {c : UInt8} {r : List UInt8} (hc : c = 43 ∨ c = 45) (h0 : r ≠ []) (h1 : r.all isDig = true) (h2 : r.length ≤ 5) : Lib.atoiAll (c :: r) = .ok (expo c r) := by
  have hv := decVal_small h1 h2
  unfold Lib.atoiAll Lib.parseMag
  rcases hc with rfl | rfl
  · simp only [show UInt8.toNat 43 = 43 from rfl, show UInt8.toNat 45 = 45 from rfl]
    simp only [true_or, if_true, if_neg h0, parseUint10_dig r 0 h1 (by omega)]
    simp [expo]
    omega
  · simp only [show UInt8.toNat 43 = 43 from rfl, show UInt8.toNat 45 = 45 from rfl]
    simp only [or_true, if_true, if_neg h0, parseUint10_dig r 0 h1 (by omega)]
    simp [expo]
    omega
theorem cutp (l p : List UInt8) : strings_CutPrefix.f (bs l) (bs p) = some (bs (Lib.trimPrefix l p), Lib.hasPrefix l p) := rfl
theorem pre1 (c : UInt8) (l : List UInt8) : (Lib.hasPrefix l [c] = true ∧ ∃ r, l = c :: r ∧ Lib.trimPrefix l [c] = r) ∨ (Lib.hasPrefix l [c] = false ∧ Lib.trimPrefix l [c] = l ∧ ∀ r, l ≠ c :: r) := by
  unfold Lib.trimPrefix Lib.hasPrefix
  cases l with
  | nil => right; simp
  | cons d r =>
    by_cases h : d = c
    · subst h; left; simp
    · have h' : ¬ c = d := fun e => h e.symm
      right; simp [List.isPrefixOf, h, h']
theorem nf_j2_no (l : List UInt8) (neg : Bool) (ds : List Int) (p : Int) : Ev (fun k => numtext_ParseFloat.j2 k (bs l) neg ds p true) (0, 20) := by
  refine Ev.step (fun k => by rw [numtext_ParseFloat.j2]) ?_
  exact Ev.yes rfl (Ev.ret rfl)

/-- What stands behind the digits: 'p' and an exponent. -/
theorem nf_j1 (l : List UInt8) (neg : Bool) (ds : List Nat) (p : Nat) (hl : l.length ≤ 64) (hd : ∀ d ∈ ds, d < 16) (hds : ds.length ≤ 200) (hp : p ≤ 200) :
    Ev (fun k => numtext_ParseFloat.j1 k (bs l) neg true (ints ds) (p : Int)) (tailS neg ds p l) := by
  refine Ev.step (fun k => by rw [numtext_ParseFloat.j1]) ?_
  refine Ev.bind0 (cutp l [112]) ?_
  refine Ev.yes rfl ?_
  rcases pre1 112 l with ⟨h1, r, rfl, h2⟩ | ⟨h1, h2, h3⟩
  · rw [h1, h2]
    refine Ev.yes rfl ?_
    simp only [bs_size]
    cases r with
    | nil => exact Ev.yes (by simp) (nf_j2_no _ _ _ _)
    | cons c r =>
      by_cases s1 : ((c :: r).length : Int) < 2
      · have : r = [] := List.eq_nil_of_length_eq_zero (by simp at s1; omega)
        subst this
        refine Ev.yes s1 ?_
        rw [show tailS neg ds p [112, c] = (0, 20) by simp [tailS]]
        exact nf_j2_no _ _ _ _
      · refine Ev.no s1 ?_
        have hne : r ≠ [] := by rintro rfl; simp at s1
        by_cases s2 : ((c :: r).length : Int) > 6
        · refine Ev.yes s2 ?_
          rw [show tailS neg ds p (112 :: c :: r) = (0, 20) by rw [tailS_p, if_neg (fun h => by have := h.2.2.1; simp at s2; omega)]]
          exact nf_j2_no _ _ _ _
        · refine Ev.no s2 (Ev.yes (by simp <;> omega) ?_)
          have hr5 : r.length ≤ 5 := by simp at s2; omega
          rw [bt0]
          have go : (c = 43 ∨ c = 45) → Ev (fun k => (numtext_digits.f ((bs (c :: r)).extract 1 (c :: r).length)).bind fun t => numtext_ParseFloat.j2 k (bs (c :: r)) neg (ints ds) (p : Int) (!t)) (tailS neg ds p (112 :: c :: r)) := by
            intro hc
            have e1 : (bs (c :: r)).extract 1 (c :: r).length = bs r := by rw [← bs_size]; exact bs_from _ 1
            rw [e1]
            refine Ev.bind0 (a := digitsB r) (by unfold numtext_digits.f; rw [if_pos (by rw [bs_size]; unfold maxLen; omega)]) ?_
            have hdb : digitsB r = r.all isDig := by
              unfold digitsB
              cases r with
              | nil => exact absurd rfl hne
              | cons a b => simp
            rw [hdb]
            by_cases ha : r.all isDig = true
            · rw [ha]
              rw [tailS_p, if_pos ⟨hc, hne, hr5, ha⟩]
              refine Ev.step (fun k => by rw [numtext_ParseFloat.j2]) ?_
              refine Ev.no (by simp) ?_
              have hv := decVal_small ha hr5
              have hx : -100000 ≤ expo c r ∧ expo c r ≤ 100000 := by unfold expo; split <;> omega
              refine Ev.bind0 (a := (expo c r, Option.none)) (by
                unfold strconv_Atoi_29.f
                rw [if_pos (by rw [bs_size]; simp; omega), atoi_ok hc hne ha hr5]) ?_
              rw [w64 (x := 4 * (p : Int)) (by omega) (by omega), w64 (x := expo c r - 4 * (p : Int)) (by omega) (by omega)]
              refine Ev.bind (exact_ev ds _ hd (by omega) (by omega)) ?_
              cases hE : exactS (val 16 0 ds) (expo c r - 4 * (p : Int)) with
              | none => exact Ev.no (by simp [resE]) (Ev.ret rfl)
              | some b =>
                have hb := exactS_lt hE
                refine Ev.yes rfl ?_
                cases neg with
                | true => exact Ev.yes rfl (Ev.ret (by show (Go.bits .or .u64 (b : Int) 9223372036854775808, (0 : Int)) = _; rw [u64_or63 b (by omega)]; rfl))
                | false => exact Ev.no (by simp) (Ev.ret (by simp [resE, resR, signN]))
            · have ha' : r.all isDig = false := by simpa using ha
              rw [ha']
              rw [show tailS neg ds p (112 :: c :: r) = (0, 20) by rw [tailS_p, if_neg (fun h => ha h.2.2.2)]]
              exact nf_j2_no _ _ _ _
          by_cases c43 : c = 43
          · refine Ev.yes (by subst c43; rfl) (Ev.yes (by simp; omega) ?_)
            exact go (.inl c43)
          · refine Ev.no (fun h => c43 (u8_eq (n := 43) h (by decide))) ?_
            by_cases c45 : c = 45
            · refine Ev.yes (by subst c45; rfl) (Ev.yes (by simp; omega) ?_)
              exact go (.inr c45)
            · refine Ev.no (fun h => c45 (u8_eq (n := 45) h (by decide))) ?_
              rw [show tailS neg ds p (112 :: c :: r) = (0, 20) by rw [tailS_p, if_neg (fun h => h.1.elim c43 c45)]]
              exact nf_j2_no _ _ _ _
  · rw [h1, h2]
    refine Ev.no (by simp) ?_
    have : tailS neg ds p l = (0, 20) := by
      unfold tailS
      split
      · rename_i c r; exact absurd rfl (h3 (c :: r))
      · rfl
    rw [this]
    exact nf_j2_no _ _ _ _
theorem nf_j1_no (l : List UInt8) (neg : Bool) (ds : List Int) (p : Int) : Ev (fun k => numtext_ParseFloat.j1 k (bs l) neg false ds p) (0, 20) := by
  refine Ev.step (fun k => by rw [numtext_ParseFloat.j1]) ?_
  refine Ev.bind0 (cutp l [112]) ?_
  refine Ev.no (by simp) ?_
  exact nf_j2_no _ _ _ _
theorem cut_f (l : List UInt8) (hl : l.length ≤ 1000) : numtext_cut.f (bs l) = some (ints (cutN l).1, bs (cutN l).2) := by
  unfold numtext_cut.f
  rw [if_pos (by rw [bs_size]; omega)]
  show some ((cutS l).1, bs (cutS l).2) = _
  rw [cutS_eq]
theorem nf_j0 (l : List UInt8) (neg : Bool) (ds : List Nat) (hl : l.length + ds.length ≤ 64) (hd : ∀ d ∈ ds, d < 16) (x5 : Bool) :
    Ev (fun k => numtext_ParseFloat.j0 k (bs l) neg x5 (ints ds)) (if x5 = true then dotS neg ds l else (0, 20)) := by
  refine Ev.step (fun k => by rw [numtext_ParseFloat.j0]) ?_
  refine Ev.bind0 (cutp l [46]) ?_
  rcases pre1 46 l with ⟨h1, r, rfl, h2⟩ | ⟨h1, h2, h3⟩
  · rw [h1, h2]
    refine Ev.yes rfl ?_
    refine Ev.bind0 (cut_f r (by simp at hl; omega)) ?_
    have hlen := cutN_len r
    simp only [ints_len]
    cases x5 with
    | false =>
      refine Ev.no (by simp) (Ev.yes (by simp at hl; omega) ?_)
      exact nf_j1_no _ _ _ _
    | true =>
      refine Ev.yes rfl (Ev.yes (by simp at hl; omega) ?_)
      rw [if_pos rfl]
      show Ev _ (if (cutN r).1 = [] then (0, 20) else tailS neg (ds ++ (cutN r).1) (cutN r).1.length (cutN r).2)
      by_cases h0 : (cutN r).1 = []
      · rw [if_pos h0, h0]
        exact nf_j1_no _ _ _ _
      · rw [if_neg h0]
        have : decide (((cutN r).1.length : Int) > 0) = true := decide_eq_true (by have := List.length_pos_iff.2 h0; omega)
        rw [this, ← ints_app]
        refine nf_j1 _ neg _ _ (by simp at hl; omega) (fun d hx => ?_) (by simp at hl ⊢; omega) (by simp at hl; omega)
        rcases List.mem_append.1 hx with hx | hx
        · exact hd d hx
        · exact cutN_lt r d hx
  · rw [h1, h2]
    refine Ev.no (by simp) ?_
    cases x5 with
    | false => exact nf_j1_no _ _ _ _
    | true =>
      rw [if_pos rfl]
      have : dotS neg ds l = tailS neg ds 0 l := by
        unfold dotS
        split
        · rename_i r; exact absurd rfl (h3 r)
        · rfl
      rw [this]
      exact nf_j1 l neg ds 0 (by omega) hd (by omega) (by omega)
theorem pre2 (l : List UInt8) : (Lib.hasPrefix l [48, 120] = true ∧ ∃ r, l = 48 :: 120 :: r ∧ Lib.trimPrefix l [48, 120] = r) ∨ (Lib.hasPrefix l [48, 120] = false ∧ Lib.trimPrefix l [48, 120] = l ∧ ∀ r, l ≠ 48 :: 120 :: r) := by
  unfold Lib.trimPrefix
  by_cases h : Lib.hasPrefix l [48, 120] = true
  · left
    obtain ⟨r, hr⟩ := List.isPrefixOf_iff_prefix.1 h
    refine ⟨h, r, hr.symm, ?_⟩
    rw [if_pos h, ← hr]; rfl
  · right
    have h' : Lib.hasPrefix l [48, 120] = false := by simpa using h
    refine ⟨h', by rw [if_neg h], fun r e => h ?_⟩
    rw [e]; rfl
theorem has_minus (l : List UInt8) : Lib.hasPrefix l [45] = minusB l := by
  unfold Lib.hasPrefix minusB
  cases l with
  | nil => rfl
  | cons c r =>
    by_cases h : c = 45
    · subst h; rfl
    · have e1 : (45 == c) = false := beq_eq_false_iff_ne.2 (fun e => h e.symm)
      have e2 : (c == 45) = false := beq_eq_false_iff_ne.2 h
      simp [List.isPrefixOf, e1, e2]
theorem parseFloat_ev (l : List UInt8) (hl : l.length ≤ 1000000) : Ev (fun k => numtext_ParseFloat.f k (bs l)) (pfS l) := by
  unfold numtext_ParseFloat.f pfS
  simp only [bs_size, bs_toList]
  by_cases h0 : 64 < l.length
  · rw [if_pos h0]; exact Ev.yes (by omega) (Ev.ret rfl)
  · rw [if_neg h0]
    refine Ev.no (by omega) ?_
    by_cases h1 : l = [110, 97, 110]
    · rw [if_pos h1]; exact Ev.yes h1 (Ev.ret rfl)
    · rw [if_neg h1]
      refine Ev.no h1 ?_
      by_cases h2 : l = [105, 110, 102]
      · rw [if_pos h2]; exact Ev.yes h2 (Ev.ret rfl)
      · rw [if_neg h2]
        refine Ev.no h2 ?_
        by_cases h3 : l = [45, 105, 110, 102]
        · rw [if_pos h3]; exact Ev.yes h3 (Ev.ret rfl)
        · rw [if_neg h3]
          refine Ev.no h3 ?_
          refine Ev.bind0 (cutp l [45]) ?_
          rw [trim_mag, has_minus]
          refine Ev.bind0 (cutp (magB l) [48, 120]) ?_
          have hm : (magB l).length ≤ 64 := by
            have : (magB l).length ≤ l.length := by unfold magB; split <;> simp
            omega
          generalize minusB l = neg
          generalize magB l = m at hm
          rcases pre2 m with ⟨g1, r, rfl, g2⟩ | ⟨g1, g2, g3⟩
          · rw [g1, g2]
            refine Ev.bind0 (cut_f r (by simp at hm; omega)) ?_
            refine Ev.yes rfl ?_
            simp only [ints_len]
            have hlen := cutN_len r
            have h := nf_j0 (cutN r).2 neg (cutN r).1 (by simp at hm; omega) (cutN_lt r) (decide (((cutN r).1.length : Int) > 0))
            show Ev _ (bodyS neg r)
            unfold bodyS
            by_cases hc : (cutN r).1 = []
            · rw [if_pos hc]
              rw [hc] at h
              simp at h
              rw [hc]
              simpa using h
            · rw [if_neg hc]
              have hp : decide (((cutN r).1.length : Int) > 0) = true := decide_eq_true (by have := List.length_pos_iff.2 hc; omega)
              rw [hp] at h ⊢
              rw [if_pos rfl] at h
              exact h
          · rw [g1, g2]
            refine Ev.bind0 (cut_f m (by omega)) ?_
            refine Ev.no (by simp) ?_
            have hlen := cutN_len m
            have h := nf_j0 (cutN m).2 neg (cutN m).1 (by omega) (cutN_lt m) false
            rw [if_neg (by simp)] at h
            have : hexS neg m = (0, 20) := by
              unfold hexS
              split
              · rename_i r; exact absurd rfl (g3 r)
              · rfl
            rw [this]
            exact h
end Go.Proofs.YtjdnneomkocghaaDoor.Sp
