/- Plain Lean: numtext.exact answers exactS. -/
import Derived.Test.YtjdnneomkocghaaDoorSpD
import Derived.Test.YtjdnneomkocghaaDoorPrint3
namespace Go.Proofs.YtjdnneomkocghaaDoor.Sp
open Go.RowKit Go.Proofs.YtjdnneomkocghaaDoorW.PrintWords Go.Proofs.YtjdnneomkocghaaDoorW.PrintMore Go.Proofs.YtjdnneomkocghaaDoor.Given Go.Proofs.YtjdnneomkocghaaDoor.Print
set_option linter.unusedVariables false
set_option linter.unusedSimpArgs false

def ints (l : List Nat) : List Int := l.map fun d : Nat => (d : Int)
theorem ints_len (l : List Nat) : (ints l).length = l.length := by simp [ints]
theorem ints_app (l m : List Nat) : ints (l ++ m) = ints l ++ ints m := by simp [ints]
theorem rd_ints (l : List Nat) (i : Nat) : rd (ints l) (i : Int) = (l.getD i 0 : Nat) := by
  unfold rd ints
  simp only [Int.toNat_natCast, List.getD_eq_getElem?_getD, List.getElem?_map]
  cases l[i]? <;> rfl
theorem getD_last (m : List Nat) (d : Nat) : (m ++ [d]).getD m.length 0 = d := by simp [List.getD_eq_getElem?_getD]
theorem take_last (m : List Nat) (d : Nat) : (ints (m ++ [d])).take m.length = ints m := by
  rw [ints_app, List.take_append_of_le_length (by rw [ints_len]; exact Nat.le_refl _), List.take_of_length_le (by rw [ints_len]; exact Nat.le_refl _)]

theorem wr64 (n : Int) (h0 : 0 ≤ n) (h1 : n < 2 ^ 64) : IntKind.u64.wrap n = n := by
  have h64 : (2 : Int) ^ 64 = 18446744073709551616 := by decide
  exact wu64 h0 (by omega)
theorem u64_or16 (x d : Nat) (hx : x < 1152921504606846976) (hd : d < 16) : Go.bits .or .u64 ((x : Int) * 16) (d : Int) = ((x * 16 + d : Nat) : Int) := by
  have h64 : (2 : Int) ^ 64 = 18446744073709551616 := by decide
  have h4 : (2 : Int) ^ 4 = 16 := by decide
  rw [bits_join .u64 64 (by decide) wr64 4 _ _ (by omega) (by omega) (by omega) (by omega) (by omega) (by omega)]
  omega
theorem u64_or52 (x y : Nat) (hx : x < 4096) (hy : y < 4503599627370496) : Go.bits .or .u64 ((x : Int) * 4503599627370496) (y : Int) = ((x * 4503599627370496 + y : Nat) : Int) := by
  have h64 : (2 : Int) ^ 64 = 18446744073709551616 := by decide
  have h52 : (2 : Int) ^ 52 = 4503599627370496 := by decide
  rw [bits_join .u64 64 (by decide) wr64 52 _ _ (by omega) (by omega) (by omega) (by omega) (by omega) (by omega)]
  omega
theorem u64_or63 (y : Nat) (hy : y < 9223372036854775808) : Go.bits .or .u64 (y : Int) 9223372036854775808 = ((9223372036854775808 + y : Nat) : Int) := by
  have h := (bits_nat .u64 64 (by decide) wr64 y 9223372036854775808 (by omega) (by omega)).2
  have e : (((9223372036854775808 : Nat)) : Int) = 9223372036854775808 := rfl
  rw [e] at h
  rw [h]
  congr 1
  rw [Nat.or_comm]
  have h1 := Nat.two_pow_add_eq_or_of_lt (i := 63) (b := y) (by omega) 1
  rw [show (2 ^ 63 * 1 : Nat) = 9223372036854775808 by decide] at h1
  exact h1.symm
theorem u64_and52 (x : Nat) (hx : x < 18446744073709551616) : Go.bits .and .u64 (x : Int) 4503599627370495 = ((x % 4503599627370496 : Nat) : Int) := by
  have h64 : (2 : Int) ^ 64 = 18446744073709551616 := by decide
  have h := bits_mask .u64 64 (by decide) wr64 52 (by decide) (x : Int) (by omega) (by omega)
  have h52 : (2 : Int) ^ 52 = 4503599627370496 := by decide
  rw [h52] at h
  have e : (4503599627370496 : Int) - 1 = 4503599627370495 := by decide
  rw [e] at h
  rw [h]
  omega

def resE : Option Nat → Int × Bool
  | none => (0, false)
  | some b => ((b : Int), true)
theorem shr_ev (n : Nat) (h : n < 18446744073709551616) : shr .u64 (n : Int) (twos n : Int) = (odd n : Int) := by
  unfold shr odd
  have ht : twos n ≤ 64 := by
    rcases Nat.eq_zero_or_pos n with h0 | h0
    · subst h0; rw [twos, dif_pos rfl]; omega
    · have h1 := split n h0
      have h2 := odd_pos h0
      have h3 : 2 ^ twos n ≤ n := by
        have := Nat.le_mul_of_pos_left (2 ^ twos n) h2
        omega
      have h4 : 2 ^ twos n < 2 ^ 64 := by omega
      have := (Nat.pow_lt_pow_iff_right (by decide)).1 h4
      omega
  rw [Int.toNat_natCast, show IntKind.u64.bits = 64 from rfl, Nat.min_eq_left ht]
  push_cast
  rfl
theorem shl_ev (n k : Nat) (hk : k ≤ 64) (h : n * 2 ^ k < 18446744073709551616) : shl .u64 (n : Int) (k : Int) = ((n * 2 ^ k : Nat) : Int) := by
  unfold shl
  rw [Int.toNat_natCast, show IntKind.u64.bits = 64 from rfl, Nat.min_eq_left hk]
  have e : (n : Int) * 2 ^ k = ((n * 2 ^ k : Nat) : Int) := by push_cast; rfl
  rw [e, wu64 (by omega) (by omega)]
theorem exactS_no {n : Nat} {e : Int} (h0 : 0 < n) (h : 53 < bl (odd n) ∨ 1023 < e + twos n + bl (odd n) - 1 ∨ e + twos n < -1074) : exactS n e = none := by
  unfold exactS; rw [if_neg (by omega), if_pos h]
theorem ex_j5_no (e m : Int) (x y : Int) : Ev (fun k => numtext_exact.j5 k e m x y true) (0, false) := by
  refine Ev.step (fun k => by rw [numtext_exact.j5]) ?_
  exact Ev.yes rfl (Ev.ret rfl)
theorem ex_end (n : Nat) (e : Int) (l : List Int) (a : Int) (h0 : 0 < n) (hn : n < 18446744073709551616) (he : -1000000 ≤ e ∧ e ≤ 1000000) (i : Nat) (hi : l.length = i) :
    Ev (fun k => numtext_exact.l2 k e (n : Int) l (i : Int) (i : Int)) (resE (exactS n e)) := by
  refine Ev.step (fun k => by rw [numtext_exact.l2]) ?_
  refine Ev.no (by omega) ?_
  have ht : twos n ≤ 64 := by
    have h1 := split n h0
    have h2 := odd_pos h0
    have h3 : 2 ^ twos n ≤ n := by
      have := Nat.le_mul_of_pos_left (2 ^ twos n) h2
      omega
    have h4 : 2 ^ twos n < 2 ^ 64 := by omega
    have := (Nat.pow_lt_pow_iff_right (by decide)).1 h4
    omega
  have hb := bl_bounds (odd n) (odd_pos h0)
  have hle := odd_le n
  have hbl : bl (odd n) ≤ 64 := bl_le (by omega)
  refine Ev.bind0 (a := (twos n : Int)) (by unfold bits_TrailingZeros64.f; rw [if_pos ⟨by omega, by omega⟩, Int.toNat_natCast, ctz_eq h0 hn]) ?_
  refine Ev.yes (by omega) ?_
  rw [shr_ev n hn]
  refine Ev.bind0 (a := (bl (odd n) : Int)) (by unfold bits_Len64.f; rw [if_pos ⟨by omega, by omega⟩, Int.toNat_natCast, bitLen_eq (by omega)]) ?_
  rw [w64 (x := e + (twos n : Int)) (by omega) (by omega), w64 (x := e + (twos n : Int) + (bl (odd n) : Int)) (by omega) (by omega), w64 (x := e + (twos n : Int) + (bl (odd n) : Int) - 1) (by omega) (by omega)]
  by_cases c1 : 53 < bl (odd n)
  · refine Ev.yes (by omega) ?_
    rw [exactS_no h0 (.inl c1)]
    exact ex_j5_no _ _ _ _
  · refine Ev.no (by omega) ?_
    by_cases c2 : 1023 < e + twos n + bl (odd n) - 1
    · refine Ev.yes c2 ?_
      rw [exactS_no h0 (.inr (.inl c2))]
      exact ex_j5_no _ _ _ _
    · refine Ev.no c2 ?_
      by_cases c3 : e + twos n < -1074
      · rw [exactS_no h0 (.inr (.inr c3)), decide_eq_true c3]
        exact ex_j5_no _ _ _ _
      · rw [decide_eq_false c3]
        have hx : exactS n e = if e + twos n + bl (odd n) - 1 < -1022 then some (odd n * 2 ^ (e + twos n + 1074).toNat)
          else some ((e + twos n + bl (odd n) - 1 + 1023).toNat * 4503599627370496 + (odd n * 2 ^ (53 - bl (odd n))) % 4503599627370496) := by
          unfold exactS; rw [if_neg (by omega), if_neg (by omega)]
        rw [hx]
        refine Ev.step (fun k => by rw [numtext_exact.j5]) ?_
        refine Ev.no (by simp) ?_
        by_cases c4 : e + twos n + bl (odd n) - 1 < -1022
        · simp only [if_pos c4]
          rw [w64 (x := e + (twos n : Int) + 1074) (by omega) (by omega)]
          refine Ev.yes (by omega) (Ev.ret ?_)
          obtain ⟨q, hq⟩ := Int.eq_ofNat_of_zero_le (show 0 ≤ e + (twos n : Int) + 1074 by omega)
          rw [hq, Int.toNat_natCast, shl_ev _ _ (by omega) ?_]
          · rfl
          · have h1 : odd n * 2 ^ q < 2 ^ bl (odd n) * 2 ^ q := Nat.mul_lt_mul_of_pos_right hb.2.2 (Nat.two_pow_pos _)
            rw [← Nat.pow_add] at h1
            have h2 := Nat.pow_le_pow_right (n := 2) (by decide) (show bl (odd n) + q ≤ 52 by omega)
            omega
        · simp only [if_neg c4]
          rw [w64 (x := 53 - (bl (odd n) : Int)) (by omega) (by omega), w64 (x := e + (twos n : Int) + (bl (odd n) : Int) - 1 + 1023) (by omega) (by omega)]
          refine Ev.yes (by omega) (Ev.ret ?_)
          obtain ⟨q, hq⟩ := Int.eq_ofNat_of_zero_le (show 0 ≤ e + (twos n : Int) + (bl (odd n) : Int) - 1 + 1023 by omega)
          have hm : odd n * 2 ^ (53 - bl (odd n)) < 18446744073709551616 := by
            have h1 : odd n * 2 ^ (53 - bl (odd n)) < 2 ^ bl (odd n) * 2 ^ (53 - bl (odd n)) := Nat.mul_lt_mul_of_pos_right hb.2.2 (Nat.two_pow_pos _)
            rw [← Nat.pow_add] at h1
            have h2 := Nat.pow_le_pow_right (n := 2) (by decide) (show bl (odd n) + (53 - bl (odd n)) ≤ 53 by omega)
            omega
          rw [show (53 : Int) - (bl (odd n) : Int) = ((53 - bl (odd n) : Nat) : Int) by omega, shl_ev _ _ (by omega) hm, u64_and52 _ hm, hq, Int.toNat_natCast, wu64 (x := (q : Int)) (by omega) (by omega), wu64 (x := (q : Int) * 4503599627370496) (by omega) (by omega), u64_or52 _ _ (by omega) (Nat.mod_lt _ (by decide))]
          rfl
theorem ex_loop (l : List Nat) (e : Int) (hl : l.length ≤ 14) (hd : ∀ d ∈ l, d < 16) (hp : 0 < val 16 0 l) (he : -1000000 ≤ e ∧ e ≤ 1000000) :
    ∀ (r p : List Nat), l = p ++ r → Ev (fun k => numtext_exact.l2 k e (val 16 0 p : Int) (ints l) (l.length : Int) (p.length : Int)) (resE (exactS (val 16 0 l) e)) := by
  have hv : val 16 0 l < 18446744073709551616 := by
    have h1 := val_lt (b := 16) l 0 hd
    have h2 := Nat.pow_le_pow_right (n := 16) (by decide) hl
    omega
  intro r
  induction r with
  | nil =>
    intro p h
    rw [List.append_nil] at h
    subst h
    exact ex_end _ e _ 0 hp hv he _ (ints_len _)
  | cons d r ih =>
    intro p h
    have hlen : l.length = p.length + r.length + 1 := by rw [h]; simp; omega
    refine Ev.step (fun k => by rw [numtext_exact.l2]) ?_
    refine Ev.yes (by omega) (Ev.yes (by omega) (Ev.yes (by rw [ints_len]; omega) ?_))
    have hdd : d < 16 := hd d (by rw [h]; simp)
    have hpv : val 16 0 p < 16 ^ p.length := by
      have h1 := val_lt (b := 16) p 0 (fun x hx => hd x (by rw [h]; simp [hx]))
      omega
    have hpl := Nat.pow_le_pow_right (n := 16) (by decide) (show p.length ≤ 13 by omega)
    have e1 : rd (ints l) (p.length : Int) = (d : Int) := by rw [rd_ints, h]; simp [List.getD_eq_getElem?_getD]
    rw [e1, wu64 (x := (val 16 0 p : Int) * 16) (by omega) (by omega), u64_or16 _ _ (by omega) hdd, w64 (by omega) (by omega)]
    have h2 := ih (p ++ [d]) (by rw [h]; simp)
    rw [val_append, show val 16 (val 16 0 p) [d] = val 16 0 p * 16 + d from rfl] at h2
    rw [show ((p ++ [d]).length : Int) = (p.length : Int) + 1 by simp] at h2
    exact h2
theorem val_pos {l : List Nat} {d : Nat} (b : Nat) (hb : 0 < b) (h : 0 < d) : 0 < val b 0 (d :: l) := by
  have h1 := val_ge hb l (0 * b + d)
  have h2 : 0 < (0 * b + d) * b ^ l.length := Nat.mul_pos (by omega) (Nat.pow_pos hb)
  exact Nat.lt_of_lt_of_le h2 h1
/-- Fifteen digits and more that end and begin with none: more than 53 bits. -/
theorem ex_long (l : List Nat) (e : Int) (hd : ∀ d ∈ l, d < 16) (hl : 15 ≤ l.length) (h1 : 0 < l.headD 0) (h2 : 0 < l.getLastD 0) : exactS (val 16 0 l) e = none := by
  obtain ⟨c, r, rfl⟩ : ∃ c r, l = c :: r := by
    cases l with
    | nil => simp at hl
    | cons c r => exact ⟨c, r, rfl⟩
  have hc : 0 < c := h1
  have hge : 16 ^ 14 ≤ val 16 0 (c :: r) := by
    have a := val_ge (b := 16) (by decide) r (0 * 16 + c)
    have b : 16 ^ 14 ≤ 16 ^ r.length := Nat.pow_le_pow_right (by decide) (by simp at hl; omega)
    have d : 16 ^ r.length ≤ (0 * 16 + c) * 16 ^ r.length := Nat.le_mul_of_pos_left _ (by omega)
    exact Nat.le_trans b (Nat.le_trans d a)
  rcases List.eq_nil_or_concat (c :: r) with h | ⟨m, d, h⟩
  · cases h
  · have hdl : d < 16 := hd d (by rw [h]; simp)
    have hd0 : 0 < d := by rw [h] at h2; simpa [List.getLastD_eq_getLast?] using h2
    have hv : val 16 0 (c :: r) = val 16 0 m * 16 + d := by rw [h, List.concat_eq_append, val_append]; rfl
    generalize val 16 0 (c :: r) = n at *
    generalize val 16 0 m = q at *
    have hn : 0 < n := by omega
    refine exactS_no hn (.inl ?_)
    obtain ⟨s1, s2⟩ := split n hn
    have ht : twos n ≤ 3 := by
      apply Nat.le_of_lt_succ
      apply Nat.lt_of_not_le
      intro h4
      have h5 : 2 ^ 4 ∣ n := by
        have : 2 ^ 4 ∣ 2 ^ twos n := Nat.pow_dvd_pow 2 h4
        rw [s1]
        exact Nat.dvd_trans this (Nat.dvd_mul_left _ _)
      obtain ⟨x, hx⟩ := h5
      omega
    have hp : 2 ^ twos n ≤ 2 ^ 3 := Nat.pow_le_pow_right (by decide) ht
    have h6 : 2 ^ 53 ≤ odd n := by
      apply Nat.le_of_not_lt
      intro h7
      have h8 : odd n * 2 ^ twos n ≤ odd n * 2 ^ 3 := Nat.mul_le_mul_left _ hp
      have h9 : odd n * 2 ^ 3 < 2 ^ 53 * 2 ^ 3 := Nat.mul_lt_mul_of_pos_right h7 (by decide)
      omega
    exact bl_gt h6
theorem ex_j3 (l : List Nat) (e : Int) (hd : ∀ d ∈ l, d < 16) (hl : l.length ≤ 1000) (h1 : l ≠ [] → 0 < l.headD 0 ∧ 0 < l.getLastD 0) (he : -1000000 ≤ e ∧ e ≤ 1000000) :
    Ev (fun k => numtext_exact.j3 k (ints l) e) (resE (exactS (val 16 0 l) e)) := by
  refine Ev.step (fun k => by rw [numtext_exact.j3]) ?_
  rw [ints_len]
  cases l with
  | nil => exact Ev.yes (by simp) (Ev.ret (by simp [val, exactS, resE]))
  | cons c r =>
    obtain ⟨a, b⟩ := h1 (by simp)
    refine Ev.no (by simp; omega) ?_
    by_cases h14 : 14 < (c :: r).length
    · rw [ex_long (c :: r) e hd (by omega) a b]
      exact Ev.yes (by omega) (Ev.ret rfl)
    · refine Ev.no (by omega) ?_
      exact ex_loop (c :: r) e (by omega) hd (val_pos 16 (by decide) a) he (c :: r) [] rfl
theorem ex_l1 : ∀ (n : Nat) (l : List Nat) (e : Int), l.length = n → (∀ d ∈ l, d < 16) → l.length ≤ 1000 → (l ≠ [] → 0 < l.headD 0) → (-900000 ≤ e ∧ e + 4 * l.length ≤ 900000) →
    Ev (fun k => numtext_exact.l1 k (ints l) e) (resE (exactS (val 16 0 l) e)) := by
  intro n
  induction n with
  | zero =>
    intro l e hn hd hl h1 he
    have : l = [] := List.eq_nil_of_length_eq_zero hn
    subst this
    refine Ev.step (fun k => by rw [numtext_exact.l1]) ?_
    refine Ev.no (by simp [ints]) ?_
    exact ex_j3 [] e hd hl (fun h => absurd rfl h) (by omega)
  | succ n ih =>
    intro l e hn hd hl h1 he
    rcases List.eq_nil_or_concat l with h | ⟨m, d, h⟩
    · rw [h] at hn; cases hn
    · rw [List.concat_eq_append] at h
      subst h
      have hm : m.length = n := by simpa using hn
      refine Ev.step (fun k => by rw [numtext_exact.l1]) ?_
      rw [ints_len]
      have e1 : wrap64 (((m ++ [d]).length : Int) - 1) = (m.length : Int) := by rw [w64 (by simp <;> omega) (by simp <;> omega)]; simp
      rw [e1]
      refine Ev.yes (by simp <;> omega) (Ev.yes (by omega) (Ev.yes (by simp <;> omega) ?_))
      rw [rd_ints, getD_last]
      by_cases h0 : d = 0
      · subst h0
        refine Ev.yes rfl (Ev.yes (by simp; omega) ?_)
        rw [Int.toNat_natCast, take_last, w64 (by omega) (by simp at he; omega)]
        have hv : val 16 0 (m ++ [0]) = val 16 0 m * 16 := by rw [val_append]; rfl
        rw [hv, exactS_16]
        refine ih m (e + 4) hm (fun x hx => hd x (by simp [hx])) (by simp at hl; omega) (fun hne => ?_) (by simp at he; omega)
        cases m with
        | nil => exact absurd rfl hne
        | cons c r => exact h1 (by simp)
      · refine Ev.no (by omega) ?_
        exact ex_j3 (m ++ [d]) e hd hl (fun hne => ⟨h1 hne, by simp [List.getLastD_eq_getLast?]; omega⟩) (by simp at he ⊢; omega)
theorem ex_l0 : ∀ (l : List Nat) (e : Int), (∀ d ∈ l, d < 16) → l.length ≤ 1000 → (-900000 ≤ e ∧ e + 4 * l.length ≤ 900000) → Ev (fun k => numtext_exact.l0 k (ints l) e) (resE (exactS (val 16 0 l) e))
  | [], e, hd, hl, he => by
    refine Ev.step (fun k => by rw [numtext_exact.l0]) ?_
    refine Ev.no (by simp [ints]) ?_
    refine Ev.step (fun k => by rw [numtext_exact.j1]) ?_
    exact ex_l1 0 [] e rfl hd hl (fun h => absurd rfl h) he
  | d :: r, e, hd, hl, he => by
    refine Ev.step (fun k => by rw [numtext_exact.l0]) ?_
    rw [ints_len]
    refine Ev.yes (by simp <;> omega) (Ev.yes (by simp <;> omega) ?_)
    rw [show rd (ints (d :: r)) 0 = (d : Int) from rd_ints (d :: r) 0]
    by_cases h0 : d = 0
    · subst h0
      refine Ev.yes rfl (Ev.yes (by simp; omega) ?_)
      have hv : val 16 0 (0 :: r) = val 16 0 r := by show val 16 (0 * 16 + 0) r = _; rfl
      rw [hv]
      exact ex_l0 r e (fun x hx => hd x (by simp [hx])) (by simp at hl; omega) (by simp at he; omega)
    · refine Ev.no (by omega) ?_
      refine Ev.step (fun k => by rw [numtext_exact.j1]) ?_
      exact ex_l1 _ (d :: r) e rfl hd hl (fun _ => by show 0 < d; omega) he
theorem exact_ev (l : List Nat) (e : Int) (hd : ∀ d ∈ l, d < 16) (hl : l.length ≤ 1000) (he : -800000 ≤ e ∧ e ≤ 800000) : Ev (fun k => numtext_exact.f k (ints l) e) (resE (exactS (val 16 0 l) e)) :=
  ex_l0 l e hd hl (by omega)
end Go.Proofs.YtjdnneomkocghaaDoor.Sp
