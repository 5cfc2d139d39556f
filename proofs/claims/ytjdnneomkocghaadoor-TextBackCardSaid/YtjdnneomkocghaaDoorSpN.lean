/- Plain Lean: what is printed is read back. -/
import Derived.Test.YtjdnneomkocghaaDoorSpG
import Derived.Test.YtjdnneomkocghaaDoorSpI
import Derived.Test.YtjdnneomkocghaaDoorSpM
namespace Go.Proofs.YtjdnneomkocghaaDoor.Sp
open Go.RowKit Go.Proofs.YtjdnneomkocghaaDoorW.PrintWords Go.Proofs.YtjdnneomkocghaaDoorW.PrintMore Go.Proofs.YtjdnneomkocghaaDoor.Given Go.Proofs.YtjdnneomkocghaaDoor.Print
open Go.Lib (decDigits itoa nDigits)
set_option linter.unusedVariables false
set_option linter.unusedSimpArgs false

/- decimal -/
theorem dec_dig : ∀ n : Nat, (decDigits n).all isDig = true := by
  intro n
  induction n using Nat.strongRecOn with
  | _ n ih =>
    have hd : ∀ i : Fin 10, isDig (UInt8.ofNat (48 + i.val)) = true := by decide
    rw [decDigits]
    by_cases h : n < 10
    · rw [dif_pos h]; simp only [List.all_cons, List.all_nil, Bool.and_true]; exact hd ⟨n, h⟩
    · rw [dif_neg h, List.all_append, ih (n / 10) (by omega)]
      simp only [List.all_cons, List.all_nil, Bool.and_true, Bool.true_and]
      exact hd ⟨n % 10, Nat.mod_lt _ (by decide)⟩
theorem dec_val : ∀ n : Nat, decVal 0 (decDigits n) = n := by
  intro n
  induction n using Nat.strongRecOn with
  | _ n ih =>
    have hd : ∀ i : Fin 10, (UInt8.ofNat (48 + i.val)).toNat - 48 = i.val := by decide
    rw [decDigits]
    by_cases h : n < 10
    · rw [dif_pos h]
      show 0 * 10 + ((UInt8.ofNat (48 + n)).toNat - 48) = n
      rw [hd ⟨n, h⟩]; simp
    · rw [dif_neg h, decVal_append, ih (n / 10) (by omega)]
      show n / 10 * 10 + ((UInt8.ofNat (48 + n % 10)).toNat - 48) = n
      rw [hd ⟨n % 10, Nat.mod_lt _ (by decide)⟩]
      show n / 10 * 10 + n % 10 = n
      omega
theorem dec_ne (n : Nat) : decDigits n ≠ [] := by
  intro h
  have := Lib.nDigits_pos n
  rw [← Lib.decDigits_length, h] at this
  simp at this
theorem dec_len5 {n : Nat} (h : n < 100000) : (decDigits n).length ≤ 5 := by
  rw [Lib.decDigits_length]; exact nDigits_le 5 n h (by omega)
/- hexadecimal -/
def hexN : Nat → Nat → List Nat
  | 0, _ => []
  | n + 1, f => if f = 0 then [] else f / 281474976710656 :: hexN n (f * 16 % 4503599627370496)
theorem hexV_hex {q : Nat} (h : q < 16) : hexV (hexL.getD q 0) = some q := hex_all q h
theorem cut_hexs : ∀ (n f : Nat) (c : UInt8) (r : List UInt8), f < 4503599627370496 → hexV c = none → cutN (hexs n f ++ c :: r) = (hexN n f, c :: r)
  | 0, f, c, r, hf, hc => by simp only [hexs, hexN, List.nil_append]; rw [cutN, hc]
  | n + 1, f, c, r, hf, hc => by
    unfold hexs hexN
    by_cases h : f = 0
    · rw [if_pos h, if_pos h, List.nil_append, cutN, hc]
    · rw [if_neg h, if_neg h, List.cons_append, cutN, hexV_hex (by omega), cut_hexs n _ c r (Nat.mod_lt _ (by decide)) hc]
theorem hexN_ne {n f : Nat} (h : f ≠ 0) : hexN (n + 1) f ≠ [] := by unfold hexN; rw [if_neg h]; simp
theorem hexN_val : ∀ (n f a : Nat), n ≤ 13 → f < 4503599627370496 → f * 16 ^ n % 4503599627370496 = 0 → val 16 a (hexN n f) * 2 ^ (52 - 4 * (hexN n f).length) = a * 4503599627370496 + f ∧ (hexN n f).length ≤ n
  | 0, f, a, hn, hf, h0 => by
    have : f = 0 := by simp at h0; omega
    subst this
    simp [hexN, val]
  | n + 1, f, a, hn, hf, h0 => by
    unfold hexN
    by_cases h : f = 0
    · subst h; simp [val]
    · rw [if_neg h]
      obtain ⟨h1, h2⟩ := hexN_val n (f * 16 % 4503599627370496) (a * 16 + f / 281474976710656) (by omega) (Nat.mod_lt _ (by decide)) (by rw [pow16]; exact h0)
      rw [List.length_cons, show val 16 a (f / 281474976710656 :: hexN n (f * 16 % 4503599627370496)) = val 16 (a * 16 + f / 281474976710656) (hexN n (f * 16 % 4503599627370496)) from rfl]
      generalize val 16 (a * 16 + f / 281474976710656) (hexN n (f * 16 % 4503599627370496)) = X at h1
      generalize (hexN n (f * 16 % 4503599627370496)).length = L at h1 h2
      refine ⟨?_, by omega⟩
      obtain ⟨z, hz⟩ : ∃ z, 52 - 4 * L = z + 4 := ⟨52 - 4 * (L + 1), by omega⟩
      have hz' : 52 - 4 * (L + 1) = z := by omega
      rw [hz, Nat.pow_add, ← Nat.mul_assoc] at h1
      rw [hz']
      generalize X * 2 ^ z = Y at h1
      omega
theorem bl_odd {n : Nat} (h : 0 < n) : bl (odd n) + twos n = bl n := by
  obtain ⟨h1, _⟩ := split n h
  obtain ⟨a, b, c⟩ := bl_bounds (odd n) (odd_pos h)
  obtain ⟨k, hk⟩ : ∃ k, bl (odd n) = k + 1 := ⟨bl (odd n) - 1, by omega⟩
  rw [hk] at b c ⊢
  rw [Nat.add_sub_cancel] at b
  have : bl n = (k + twos n) + 1 := by
    refine bl_unique ?_ ?_
    · have := Nat.mul_le_mul_right (2 ^ twos n) b
      rw [← Nat.pow_add, ← h1] at this; exact this
    · have := Nat.mul_lt_mul_of_pos_right c (Nat.two_pow_pos (twos n))
      rw [← Nat.pow_add, ← h1] at this
      rw [show k + twos n + 1 = k + 1 + twos n by omega]; exact this
  omega
theorem exactS_norm {M : Nat} {e : Int} (h1 : 4503599627370496 ≤ M) (h2 : M < 9007199254740992) (he : -1074 ≤ e ∧ e ≤ 971) : exactS M e = some ((e + 1075).toNat * 4503599627370496 + M % 4503599627370496) := by
  have hb : bl M = 53 := bl_unique (k := 52) (by omega) (by omega)
  have ho := bl_odd (n := M) (by omega)
  obtain ⟨s1, _⟩ := split M (by omega)
  have hp := bl_bounds (odd M) (odd_pos (by omega))
  unfold exactS
  rw [if_neg (by omega), if_neg (by omega), if_neg (by omega), show 53 - bl (odd M) = twos M by omega, ← s1]
  congr 3
  omega
theorem exactS_sub {m : Nat} (h0 : 0 < m) (h : m < 4503599627370496) : exactS m (-1074) = some m := by
  have hb := bl_le (n := m) (k := 52) (by omega)
  have ho := bl_odd h0
  obtain ⟨s1, _⟩ := split m h0
  have hp := bl_bounds (odd m) (odd_pos h0)
  unfold exactS
  rw [if_neg (by omega), if_neg (by omega), if_pos (by omega), show (-1074 + (twos m : Int) + 1074).toNat = twos m by omega, ← s1]

/-- The text of an exponent is read back. -/
theorem tail_expT (neg : Bool) (ds : List Nat) (p : Nat) (e : Int) (he : -99999 ≤ e ∧ e ≤ 99999) : tailS neg ds p (expT e) = resR (signN neg) (exactS (val 16 0 ds) (e - 4 * p)) := by
  unfold expT Lib.itoa
  by_cases h : e < 0
  · rw [if_pos h, if_pos h, tailS_p, if_pos ⟨.inr rfl, dec_ne _, dec_len5 (by omega), dec_dig _⟩]
    congr 2
    show (if (45 : UInt8) = 45 then -(decVal 0 (decDigits e.natAbs) : Int) else _) - _ = _
    rw [if_pos rfl, dec_val]; omega
  · rw [if_neg h, if_neg h, tailS_p, if_pos ⟨.inl rfl, dec_ne _, dec_len5 (by omega), dec_dig _⟩]
    congr 2
    show (if (43 : UInt8) = 45 then _ else (decVal 0 (decDigits e.toNat) : Int)) - _ = _
    rw [if_neg (by decide), dec_val]; omega
theorem body_back (neg : Bool) (e : Int) (f : Nat) (hf : f < 4503599627370496) (he : -99999 ≤ e ∧ e ≤ 99999) :
    bodyS neg (49 :: ((if f = 0 then [] else [46]) ++ hexs 13 f ++ expT e)) = resR (signN neg) (exactS (4503599627370496 + f) (e - 52)) := by
  have h49 : hexV 49 = some 1 := rfl
  have h46 : hexV 46 = none := rfl
  have h112 : hexV 112 = none := rfl
  obtain ⟨v1, v2⟩ := hexN_val 13 f 1 (by omega) hf (p16 f)
  have hcut : cutN (hexs 13 f ++ expT e) = (hexN 13 f, expT e) := cut_hexs 13 f 112 _ hf h112
  have fin : resR (signN neg) (exactS (val 16 0 (1 :: hexN 13 f)) (e - 4 * ((hexN 13 f).length : Nat))) = resR (signN neg) (exactS (4503599627370496 + f) (e - 52)) := by
    congr 1
    rw [show val 16 0 (1 :: hexN 13 f) = val 16 1 (hexN 13 f) from rfl, show e - 4 * ((hexN 13 f).length : Int) = (e - 52) + ((52 - 4 * (hexN 13 f).length : Nat) : Int) by omega, ← exactS_shift, v1, Nat.one_mul]
  rw [← fin, ← tail_expT neg _ _ e he]
  unfold bodyS
  by_cases h : f = 0
  · subst h
    rw [if_pos rfl, List.nil_append]
    have hc : cutN (49 :: (hexs 13 0 ++ expT e)) = (1 :: hexN 13 0, expT e) := by rw [cutN, h49, hcut]
    rw [hc, if_neg (by simp)]
    rfl
  · rw [if_neg h]
    have hc : cutN (49 :: ([46] ++ hexs 13 f ++ expT e)) = ([1], 46 :: (hexs 13 f ++ expT e)) := by
      rw [List.append_assoc, List.singleton_append, cutN, h49]
      show (1 :: (cutN (46 :: (hexs 13 f ++ expT e))).1, (cutN (46 :: (hexs 13 f ++ expT e))).2) = _
      rw [cutN, h46]
    rw [hc, if_neg (by simp)]
    show (if (cutN (hexs 13 f ++ expT e)).1 = [] then ((0, 20) : Int × Int) else tailS neg ([1] ++ (cutN (hexs 13 f ++ expT e)).1) (cutN (hexs 13 f ++ expT e)).1.length (cutN (hexs 13 f ++ expT e)).2) = _
    rw [hcut, if_neg (hexN_ne h)]
    rfl
theorem expT_len {e : Int} (he : -99999 ≤ e ∧ e ≤ 99999) : (expT e).length ≤ 7 := by
  unfold expT Lib.itoa
  split
  · have := dec_len5 (n := e.natAbs) (by omega); simp; omega
  · have := dec_len5 (n := e.toNat) (by omega); simp; omega
theorem fin_back (neg : Bool) (e : Int) (f : Nat) (hf : f < 4503599627370496) (he : -99999 ≤ e ∧ e ≤ 99999) :
    pfS (finT (if neg = true then [45] else []) e f) = resR (signN neg) (exactS (4503599627370496 + f) (e - 52)) := by
  have hx := hexs_len 13 f
  have hy := expT_len he
  rw [← body_back neg e f hf he]
  have h0 : finT (if neg = true then [45] else []) e f = (if neg = true then [45] else []) ++ (48 :: 120 :: 49 :: ((if f = 0 then [] else [46]) ++ hexs 13 f ++ expT e)) := by
    unfold finT; simp
  have hl : ((if f = 0 then ([] : List UInt8) else [46]) ++ hexs 13 f ++ expT e).length ≤ 30 := by
    have : (if f = 0 then ([] : List UInt8) else [46]).length ≤ 1 := by split <;> simp
    simp only [List.length_append]; omega
  rw [h0]
  generalize (if f = 0 then ([] : List UInt8) else [46]) ++ hexs 13 f ++ expT e = t at hl
  unfold pfS
  cases neg with
  | true =>
    rw [if_pos rfl, if_neg (by simp; omega), if_neg (by simp), if_neg (by simp), if_neg (by simp)]
    rfl
  | false =>
    have e0 : (if false = true then [45] else ([] : List UInt8)) = [] := rfl
    rw [e0, if_neg (by simp only [List.nil_append, List.length_cons]; omega), if_neg (by simp), if_neg (by simp), if_neg (by simp)]
    rfl
def canonN (b : Nat) : Nat := if 9218868437227405312 < b % 9223372036854775808 then 9221120237041090560 else b
theorem signN_val {b : Nat} (h : b < 18446744073709551616) : signN (decide (9223372036854775808 ≤ b)) + b % 9223372036854775808 = b := by
  unfold signN
  by_cases hs : 9223372036854775808 ≤ b
  · rw [decide_eq_true hs, if_pos rfl]; omega
  · rw [decide_eq_false hs, if_neg (by simp)]; omega
theorem signT_eq (b : Nat) : signT b = if decide (9223372036854775808 ≤ b) = true then [45] else [] := by
  unfold signT; simp
/-- A double's text is read back, a NaN as the one NaN. -/
theorem float_back (b : Nat) (h : b < 18446744073709551616) : pfS (floatT b) = ((canonN b : Int), 0) := by
  have hs := signN_val h
  unfold floatT floatM canonN
  rw [signT_eq]
  generalize decide (9223372036854775808 ≤ b) = neg at hs
  have hm : b % 9223372036854775808 < 9223372036854775808 := Nat.mod_lt _ (by decide)
  by_cases h1 : 9218868437227405312 < b % 9223372036854775808
  · rw [if_pos h1, if_pos h1]; decide
  · rw [if_neg h1, if_neg h1]
    generalize b % 9223372036854775808 = m at *
    clear h
    subst hs
    by_cases h2 : m = 9218868437227405312
    · rw [if_pos h2]; subst h2; cases neg <;> decide
    · rw [if_neg h2]
      by_cases h3 : m = 0
      · rw [if_pos h3]; subst h3; cases neg <;> rfl
      · rw [if_neg h3]
        by_cases h4 : m < 4503599627370496
        · rw [if_pos h4]
          obtain ⟨p1, p2, p3⟩ := bl_bounds m (by omega)
          have hb := bl_le (n := m) (k := 52) (by omega)
          have hM1 : 4503599627370496 ≤ m * 2 ^ (53 - bl m) := by
            have := Nat.mul_le_mul_right (2 ^ (53 - bl m)) p2
            rw [← Nat.pow_add, show bl m - 1 + (53 - bl m) = 52 by omega] at this; omega
          have hM2 : m * 2 ^ (53 - bl m) < 9007199254740992 := by
            have := Nat.mul_lt_mul_of_pos_right p3 (Nat.two_pow_pos (53 - bl m))
            rw [← Nat.pow_add, show bl m + (53 - bl m) = 53 by omega] at this; omega
          rw [fin_back neg _ _ (Nat.mod_lt _ (by decide)) (by omega), show 4503599627370496 + m * 2 ^ (53 - bl m) % 4503599627370496 = m * 2 ^ (53 - bl m) by omega, exactS_shift, show (-1022 - ((53 - bl m : Nat) : Int) - 52 + ((53 - bl m : Nat) : Int) : Int) = -1074 by omega, exactS_sub (by omega) h4]
          rfl
        · rw [if_neg h4, fin_back neg _ _ (Nat.mod_lt _ (by decide)) (by omega), exactS_norm (by omega) (by omega) (by omega)]
          show (((signN neg + _ : Nat) : Int), (0 : Int)) = _
          congr 2
          omega

theorem dec_head : ∀ n : Nat, 10 ≤ n → (decDigits n).headD 0 ≠ 48 := by
  intro n
  induction n using Nat.strongRecOn with
  | _ n ih =>
    have hd : ∀ i : Fin 10, i.val ≠ 0 → UInt8.ofNat (48 + i.val) ≠ 48 := by decide
    intro h10
    rw [decDigits, dif_neg (by omega)]
    have hne := dec_ne (n / 10)
    have e : (decDigits (n / 10) ++ [UInt8.ofNat (48 + n % 10)]).headD 0 = (decDigits (n / 10)).headD 0 := by
      cases h : decDigits (n / 10) with
      | nil => exact absurd h hne
      | cons c r => rfl
    rw [e]
    by_cases h : 10 ≤ n / 10
    · exact ih _ (by omega) h
    · rw [decDigits, dif_pos (by omega)]
      exact hd ⟨n / 10, by omega⟩ (by show n / 10 ≠ 0; omega)
theorem dec_head0 {n : Nat} (h : 0 < n) : (decDigits n).headD 0 ≠ 48 := by
  by_cases h10 : 10 ≤ n
  · exact dec_head n h10
  · have hd : ∀ i : Fin 10, i.val ≠ 0 → UInt8.ofNat (48 + i.val) ≠ 48 := by decide
    rw [decDigits, dif_pos (by omega)]
    exact hd ⟨n, by omega⟩ (by show n ≠ 0; omega)
/-- Digits that begin with no nought are their number's digits. -/
theorem dec_of : ∀ (l : List UInt8), l ≠ [] → l.all isDig = true → (l.headD 0 = 48 → l.length = 1) → decDigits (decVal 0 l) = l := by
  intro l
  generalize hn : l.length = n
  induction n generalizing l with
  | zero => intro h; exact absurd (List.eq_nil_of_length_eq_zero hn) h
  | succ n ih =>
    intro h0 h1 h2
    rcases List.eq_nil_or_concat l with h | ⟨m, c, h⟩
    · exact absurd h h0
    · rw [List.concat_eq_append] at h
      subst h
      rw [List.all_append, Bool.and_eq_true] at h1
      have hc : 48 ≤ c.toNat ∧ c.toNat ≤ 57 := by simpa [isDig] using h1.2
      have hcc : UInt8.ofNat (48 + (c.toNat - 48)) = c := by
        rw [show 48 + (c.toNat - 48) = c.toNat by omega]; exact UInt8.ofNat_toNat
      have hm : m.length = n := by simpa using hn
      rw [decVal_append]
      show decDigits (decVal 0 m * 10 + (c.toNat - 48)) = _
      cases m with
      | nil =>
        show decDigits (0 * 10 + (c.toNat - 48)) = _
        rw [decDigits, dif_pos (by omega), Nat.zero_mul, Nat.zero_add, hcc]; rfl
      | cons a r =>
        have hh : a ≠ 48 := fun e => by
          have := h2 e
          simp at hn
          omega
        have ihm := ih (a :: r) hm (by simp) h1.1 (fun e => absurd e hh)
        have hpos : 0 < decVal 0 (a :: r) := by
          apply Nat.pos_of_ne_zero
          intro e
          rw [e] at ihm
          have ha : (decDigits 0) = [48] := by rw [decDigits, dif_pos (by decide)]; rfl
          rw [ha] at ihm
          cases ihm
          exact hh rfl
        rw [decDigits, dif_neg (by omega), show (decVal 0 (a :: r) * 10 + (c.toNat - 48)) / 10 = decVal 0 (a :: r) by omega, show (decVal 0 (a :: r) * 10 + (c.toNat - 48)) % 10 = c.toNat - 48 by omega, ihm, hcc]
theorem dec_no45 (n : Nat) : ∀ r, decDigits n ≠ 45 :: r := by
  intro r h
  have := dec_dig n
  rw [h] at this
  simp [isDig] at this
theorem minus_dec (n : Nat) : minusB (decDigits n) = false := by
  unfold minusB
  cases h : decDigits n with
  | nil => rfl
  | cons c r =>
    have : c ≠ 45 := fun e => dec_no45 n r (by rw [h, e])
    simpa using this
theorem mag_dec (n : Nat) : magB (decDigits n) = decDigits n := by unfold magB; rw [minus_dec]; rfl
theorem minus_neg (n : Nat) : minusB (45 :: decDigits n) = true := rfl
theorem mag_neg (n : Nat) : magB (45 :: decDigits n) = decDigits n := rfl
theorem dec_lead (n : Nat) (h : (decDigits n).headD 0 = 48) : n = 0 ∧ (decDigits n).length = 1 := by
  rcases Nat.eq_zero_or_pos n with e | e
  · subst e; rw [decDigits, dif_pos (by decide)]; exact ⟨rfl, rfl⟩
  · exact absurd h (dec_head0 e)
theorem itoa_len30 {i : Int} (h : -9223372036854775808 ≤ i ∧ i ≤ 9223372036854775807) : (itoa i).length ≤ 31 := by
  unfold itoa
  split
  · have := decDigits_len (n := i.natAbs) (by omega); simp; omega
  · have := decDigits_len (n := i.toNat) (by omega); omega
/-- A whole number's text is read back. -/
theorem int_back (i : Int) (h : -9223372036854775808 ≤ i ∧ i ≤ 9223372036854775807) : parseIntT (itoa i) = (i, 0) := by
  have hl := itoa_len30 h
  unfold parseIntT
  rw [if_neg (by omega)]
  unfold itoa
  by_cases h0 : i < 0
  · rw [if_pos h0, mag_neg, minus_neg, if_neg (dec_ne _), if_neg (fun c => by have := (dec_lead _ c.1).1; omega), if_pos (dec_dig _), dec_val]
    unfold resI
    rw [if_pos rfl, if_pos (by omega)]
    congr 1
    omega
  · rw [if_neg h0, mag_dec, minus_dec, if_neg (dec_ne _), if_neg (fun c => by have := (dec_lead _ c.1).2; rcases c.2 with c | c; (· omega); cases c), if_pos (dec_dig _), dec_val]
    unfold resI
    rw [if_neg (by decide), if_pos (by omega)]
    congr 1
    omega
/-- What is read as a whole number is its text. -/
theorem back_int (l : List UInt8) (h : (parseIntT l).2 = 0) : itoa (parseIntT l).1 = l ∧ -9223372036854775808 ≤ (parseIntT l).1 ∧ (parseIntT l).1 ≤ 9223372036854775807 := by
  unfold parseIntT at h ⊢
  split at h
  · cases h
  · rename_i c1
    rw [if_neg c1]
    split at h
    · cases h
    · rename_i c2
      rw [if_neg c2]
      split at h
      · cases h
      · rename_i c3
        rw [if_neg c3]
        split at h
        · rename_i c4
          rw [if_pos c4]
          have hd := dec_of (magB l) c2 c4 (fun e => by
            have : ¬ 1 < (magB l).length := fun g => c3 ⟨e, .inl g⟩
            have := List.length_pos_iff.2 c2
            omega)
          unfold resI at h ⊢
          cases hm : minusB l with
          | true =>
            rw [hm] at h
            rw [if_pos rfl] at h ⊢
            split at h
            · rename_i c5
              rw [if_pos c5]
              have hne : (magB l).headD 0 ≠ 48 := fun e => c3 ⟨e, .inr hm⟩
              have hpos : 0 < decVal 0 (magB l) := by
                apply Nat.pos_of_ne_zero
                intro e
                rw [e, decDigits, dif_pos (by decide)] at hd
                rw [← hd] at hne
                exact hne rfl
              refine ⟨?_, by show -9223372036854775808 ≤ -((decVal 0 (magB l) : Nat) : Int); omega, by show -((decVal 0 (magB l) : Nat) : Int) ≤ _; omega⟩
              show itoa (-((decVal 0 (magB l) : Nat) : Int)) = l
              unfold itoa
              rw [if_pos (by omega), show (-((decVal 0 (magB l) : Nat) : Int)).natAbs = decVal 0 (magB l) by omega, hd]
              unfold magB minusB at *
              cases l with
              | nil => cases hm
              | cons c r =>
                have : c = 45 := by simpa using hm
                subst this; rfl
            · cases h
          | false =>
            rw [hm] at h
            rw [if_neg (by decide)] at h ⊢
            split at h
            · rename_i c5
              rw [if_pos c5]
              refine ⟨?_, by show -9223372036854775808 ≤ ((decVal 0 (magB l) : Nat) : Int); omega, by show ((decVal 0 (magB l) : Nat) : Int) ≤ _; omega⟩
              show itoa ((decVal 0 (magB l) : Nat) : Int) = l
              unfold itoa
              rw [if_neg (by omega), Int.toNat_natCast, hd]
              unfold magB
              rw [hm]; rfl
            · cases h
        · cases h
/- ParseFloat's doubles -/
def Good (p : Int × Int) : Prop := p.2 = 0 → ∃ b : Nat, p.1 = (b : Int) ∧ b < 18446744073709551616 ∧ canonN b = b
theorem Good.ite {c : Prop} [Decidable c] {a b : Int × Int} (ha : Good a) (hb : Good b) : Good (if c then a else b) := by
  split
  · exact ha
  · exact hb
theorem Good.no (a e : Int) (h : e ≠ 0) : Good (a, e) := fun g => absurd g h
theorem Good.ok {b : Nat} (h : b < 18446744073709551616) (hc : canonN b = b) : Good ((b : Int), 0) := fun _ => ⟨b, rfl, h, hc⟩
theorem resR_good (neg : Bool) (n : Nat) (e : Int) : Good (resR (signN neg) (exactS n e)) := by
  cases h : exactS n e with
  | none => exact Good.no _ _ (by decide)
  | some b =>
    have hb := exactS_lt h
    refine Good.ok ?_ ?_
    · unfold signN; split <;> omega
    · unfold canonN
      rw [if_neg]
      unfold signN; split <;> omega
theorem tailS_good (neg : Bool) (ds : List Nat) (p : Nat) (l : List UInt8) : Good (tailS neg ds p l) := by
  unfold tailS
  split
  · exact Good.ite (resR_good _ _ _) (Good.no _ _ (by decide))
  · exact Good.no _ _ (by decide)
theorem dotS_good (neg : Bool) (ds : List Nat) (l : List UInt8) : Good (dotS neg ds l) := by
  unfold dotS
  split
  · exact Good.ite (Good.no _ _ (by decide)) (tailS_good _ _ _ _)
  · exact tailS_good _ _ _ _
theorem hexS_good (neg : Bool) (l : List UInt8) : Good (hexS neg l) := by
  unfold hexS
  split
  · exact Good.ite (Good.no _ _ (by decide)) (dotS_good _ _ _)
  · exact Good.no _ _ (by decide)
theorem pfS_good (l : List UInt8) : Good (pfS l) := by
  unfold pfS
  exact Good.ite (Good.no _ _ (by decide)) (Good.ite (Good.ok (b := 9221120237041090560) (by decide) (by decide)) (Good.ite (Good.ok (b := 9218868437227405312) (by decide) (by decide)) (Good.ite (Good.ok (b := 18442240474082181120) (by decide) (by decide)) (hexS_good _ _))))
/- which of the two Parse takes -/
theorem dbl_itoa (i : Int) : dblB (itoa i) = false := by
  unfold dblB
  have hx : ∀ n, Lib.hasPrefix (decDigits n) [48, 120] = false := by
    intro n
    rcases pre2 (decDigits n) with ⟨_, r, h, _⟩ | ⟨h, _⟩
    · have := dec_dig n
      rw [h] at this
      simp [isDig] at this
    · exact h
  have hd : ∀ n (c : UInt8) r, isDig c = false → decDigits n ≠ c :: r := by
    intro n c r hc h
    have := dec_dig n
    rw [h] at this
    simp [hc] at this
  unfold itoa
  split
  · rw [mag_neg, hx, Bool.false_or]
    have : ∀ (c : UInt8) r, isDig c = false → (45 :: decDigits i.natAbs) ≠ 45 :: c :: r := fun c r hc h => hd _ c r hc (List.cons.inj h).2
    rw [beq_eq_false_iff_ne.2 (by simp), beq_eq_false_iff_ne.2 (by simp), beq_eq_false_iff_ne.2 (this _ _ (by decide))]; rfl
  · rw [mag_dec, hx, Bool.false_or, beq_eq_false_iff_ne.2 (hd _ _ _ (by decide)), beq_eq_false_iff_ne.2 (hd _ _ _ (by decide)), beq_eq_false_iff_ne.2 (hd _ _ _ (by decide))]; rfl
theorem finT_shape (s : List UInt8) (e : Int) (f : Nat) : ∃ t, finT s e f = s ++ 48 :: 120 :: t ∧ t.length ≤ 30 + (expT e).length := by
  have hx := hexs_len 13 f
  refine ⟨49 :: ((if f = 0 then [] else [46]) ++ hexs 13 f ++ expT e), by unfold finT; simp, ?_⟩
  have : (if f = 0 then ([] : List UInt8) else [46]).length ≤ 1 := by split <;> simp
  simp only [List.length_append, List.length_cons]; omega
theorem dbl_float (b : Nat) : dblB (floatT b) = true := by
  have hx : ∀ (s t : List UInt8), s = [] ∨ s = [45] → dblB (s ++ 48 :: 120 :: t) = true := by
    intro s t hs
    rcases hs with rfl | rfl
    · unfold dblB magB minusB Lib.hasPrefix; simp
    · unfold dblB magB minusB Lib.hasPrefix; simp
  have hs : signT b = [] ∨ signT b = [45] := by unfold signT; split; exact .inr rfl; exact .inl rfl
  unfold floatT floatM
  split
  · decide
  · split
    · rcases hs with h | h <;> rw [h] <;> decide
    · split
      · exact hx _ _ hs
      · split
        · obtain ⟨t, ht, _⟩ := finT_shape (signT b) (-1022 - (53 - bl (b % 9223372036854775808) : Nat)) (b % 9223372036854775808 * 2 ^ (53 - bl (b % 9223372036854775808)) % 4503599627370496)
          rw [ht]; exact hx _ _ hs
        · obtain ⟨t, ht, _⟩ := finT_shape (signT b) ((b % 9223372036854775808 / 4503599627370496 : Nat) - 1023) (b % 9223372036854775808 % 4503599627370496)
          rw [ht]; exact hx _ _ hs
theorem float_len (b : Nat) : (floatT b).length ≤ 40 := by
  have hs : (signT b).length ≤ 1 := by unfold signT; split <;> simp
  unfold floatT floatM
  split
  · decide
  · split
    · simp; omega
    · split
      · simp; omega
      · split
        · obtain ⟨t, ht, hl⟩ := finT_shape (signT b) (-1022 - (53 - bl (b % 9223372036854775808) : Nat)) (b % 9223372036854775808 * 2 ^ (53 - bl (b % 9223372036854775808)) % 4503599627370496)
          have := expT_len (e := -1022 - (53 - bl (b % 9223372036854775808) : Nat)) (by omega)
          rw [ht]; simp only [List.length_append, List.length_cons]; omega
        · obtain ⟨t, ht, hl⟩ := finT_shape (signT b) ((b % 9223372036854775808 / 4503599627370496 : Nat) - 1023) (b % 9223372036854775808 % 4503599627370496)
          have := expT_len (e := ((b % 9223372036854775808 / 4503599627370496 : Nat) : Int) - 1023) (by have := Nat.mod_lt b (show 0 < 9223372036854775808 by decide); omega)
          rw [ht]; simp only [List.length_append, List.length_cons]; omega
theorem parse_int (i : Int) (h : -9223372036854775808 ≤ i ∧ i ≤ 9223372036854775807) : parseS (itoa i) = (true, i, 0, 0) := by
  have := itoa_len30 h
  unfold parseS
  rw [if_neg (by omega), dbl_itoa, if_neg (by decide), int_back i h]; rfl
theorem parse_float (b : Nat) (h : b < 18446744073709551616) : parseS (floatT b) = (false, 0, (canonN b : Int), 0) := by
  have := float_len b
  unfold parseS
  rw [if_neg (by omega), dbl_float, if_pos rfl, float_back b h]

theorem xor63_lt {y : Nat} (h : y < 2 ^ 63) : y ^^^ 2 ^ 63 = 2 ^ 63 + y := by
  have h1 := Nat.two_pow_add_eq_or_of_lt (i := 63) (b := y) h 1
  rw [Nat.mul_one] at h1
  rw [h1]
  apply Nat.eq_of_testBit_eq
  intro j
  rw [Nat.testBit_xor, Nat.testBit_or, Nat.testBit_two_pow]
  by_cases hj : 63 = j
  · subst hj
    rw [Nat.testBit_lt_two_pow h]; simp
  · simp [hj]
theorem xor63 (n : Nat) (h : n < 18446744073709551616) : bits .xor .u64 (n : Int) 9223372036854775808 = (((n + 9223372036854775808) % 18446744073709551616 : Nat) : Int) := by
  have hc : (9223372036854775808 : Int) = ((2 ^ 63 : Nat) : Int) := by decide
  have key : n ^^^ 2 ^ 63 = (n + 9223372036854775808) % 18446744073709551616 := by
    by_cases h1 : n < 2 ^ 63
    · rw [xor63_lt h1]; omega
    · obtain ⟨y, rfl⟩ : ∃ y, n = 2 ^ 63 + y := ⟨n - 2 ^ 63, by omega⟩
      have hy : y < 2 ^ 63 := by omega
      rw [← xor63_lt hy, Nat.xor_assoc, Nat.xor_self, Nat.xor_zero, xor63_lt hy]; omega
  rw [hc]
  simp only [bits, BitVec.ofInt_natCast, BitVec.toNat_xor, BitVec.toNat_ofNat, show IntKind.u64.bits = 64 from rfl]
  rw [show n % 2 ^ 64 = n by omega, show (2 ^ 63 : Nat) % 2 ^ 64 = 2 ^ 63 by decide, key]
  exact wu64 (by omega) (by omega)
theorem finT_sign (e : Int) (f : Nat) : finT [45] e f = 45 :: finT [] e f := by unfold finT; rfl
theorem floatM_sign {m : Nat} (h : ¬ 9218868437227405312 < m) : floatM [45] m = 45 :: floatM [] m := by
  unfold floatM
  rw [if_neg h, if_neg h]
  split
  · rfl
  · split
    · rfl
    · split
      · exact finT_sign _ _
      · exact finT_sign _ _
theorem finT_head (e : Int) (f : Nat) : ∃ c r, finT [] e f = c :: r ∧ c ≠ 45 := ⟨48, 120 :: 49 :: ((if f = 0 then [] else [46]) ++ hexs 13 f ++ expT e), by unfold finT; simp, by decide⟩
theorem floatM_head {m : Nat} (h : ¬ 9218868437227405312 < m) : ∃ c r, floatM [] m = c :: r ∧ c ≠ 45 := by
  unfold floatM
  rw [if_neg h]
  split
  · exact ⟨105, [110, 102], rfl, by decide⟩
  · split
    · exact ⟨48, [120, 48, 112, 43, 48], rfl, by decide⟩
    · split
      · exact finT_head _ _
      · exact finT_head _ _
theorem floatT_pos {n : Nat} (h : n < 9223372036854775808) : floatT n = floatM [] n := by
  unfold floatT signT
  rw [if_neg (by omega), Nat.mod_eq_of_lt h]
theorem floatT_neg {n : Nat} (h : 9223372036854775808 ≤ n) (h2 : n < 18446744073709551616) : floatT n = floatM [45] (n - 9223372036854775808) := by
  unfold floatT signT
  rw [if_pos h, show n % 9223372036854775808 = n - 9223372036854775808 by omega]
/-- What begins otherwise is no double's text. -/
theorem pfS_form (c : UInt8) (r : List UInt8) (hl : r.length ≤ 60) (h1 : c ≠ 45) (h2 : c ≠ 48) (h3 : c ≠ 110) (h4 : c ≠ 105) : pfS (c :: r) = (0, 20) := by
  unfold pfS
  rw [if_neg (by simp; omega), if_neg (fun h => h3 (List.cons.inj h).1), if_neg (fun h => h4 (List.cons.inj h).1), if_neg (fun h => h1 (List.cons.inj h).1)]
  have hm : minusB (c :: r) = false := by unfold minusB; simpa using h1
  unfold magB
  rw [hm]
  show hexS false (c :: r) = _
  unfold hexS
  split
  · rename_i q hq; exact absurd (List.cons.inj hq).1 h2
  · rfl
theorem pfS_twice (r : List UInt8) (hl : r.length ≤ 60) : pfS (45 :: 45 :: r) = (0, 20) := by
  unfold pfS
  rw [if_neg (by simp; omega), if_neg (by simp), if_neg (by simp), if_neg (by simp)]
  rfl
theorem dec_app {n d : Nat} (hn : 0 < n) (hd : d < 10) : decDigits n ++ decDigits d = decDigits (10 * n + d) := by
  rw [show decDigits (10 * n + d) = decDigits ((10 * n + d) / 10) ++ [UInt8.ofNat (48 + (10 * n + d) % 10)] by rw [decDigits, dif_neg (by omega)], show (10 * n + d) / 10 = n by omega, show (10 * n + d) % 10 = d by omega]
  congr 1
  rw [decDigits, dif_pos hd]
theorem parse_dec (n : Nat) (h0 : 0 < n) (h : (decDigits n).length ≤ 60) : parseIntT (decDigits n) = resI false n := by
  unfold parseIntT
  rw [if_neg (by omega), mag_dec, minus_dec, if_neg (dec_ne _), if_neg (fun c => by have := (dec_lead _ c.1).1; omega), if_pos (dec_dig _), dec_val]
theorem parse_neg (n : Nat) (h0 : 0 < n) (h : (decDigits n).length ≤ 60) : parseIntT (45 :: decDigits n) = resI true n := by
  unfold parseIntT
  rw [if_neg (by simp; omega), mag_neg, minus_neg, if_neg (dec_ne _), if_neg (fun c => by have := (dec_lead _ c.1).1; omega), if_pos (dec_dig _), dec_val]
end Go.Proofs.YtjdnneomkocghaaDoor.Sp
