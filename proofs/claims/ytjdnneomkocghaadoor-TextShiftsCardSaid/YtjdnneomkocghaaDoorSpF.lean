/- Plain Lean: casketref4.exact answers exactS. -/
import Derived.Test.YtjdnneomkocghaaDoorSpE
import Derived.Test.YtjdnneomkocghaaDoorPrint11
namespace Go.Proofs.YtjdnneomkocghaaDoor.Sp
open Go.RowKit Go.Proofs.YtjdnneomkocghaaDoorW.PrintWords Go.Proofs.YtjdnneomkocghaaDoorW.PrintMore Go.Proofs.YtjdnneomkocghaaDoor.Given Go.Proofs.YtjdnneomkocghaaDoor.Print
set_option linter.unusedVariables false
set_option linter.unusedSimpArgs false

def resR (s : Nat) : Option Nat → Int × Int
  | none => (0, 21)
  | some b => (((s + b : Nat) : Int), 0)
theorem ref_no (s : Int) (l : List Int) (e h : Int) : Ev (fun k => casketref4_exact.j4 k s l e h true) (0, 21) := by
  refine Ev.step (fun k => by rw [casketref4_exact.j4]) ?_
  exact Ev.yes rfl (Ev.ret rfl)
/-- The bits, moved up: 'for low > least'. -/
theorem ref_l3 (s : Nat) (n : Nat) (high : Int) (least : Int) (hh : -2000 ≤ high ∧ high ≤ 2000) (hs : s = 0 ∨ s = 9223372036854775808) (hle : -2000 ≤ least ∧ least ≤ 2000) :
    ∀ (j m : Nat), j ≤ 5000 → m * 2 ^ j < 9007199254740992 → (¬ high < -1022 → 4503599627370496 ≤ m * 2 ^ j ∧ high ≤ 1023) → (high < -1022 → m * 2 ^ j < 4503599627370496) →
    Ev (fun k => casketref4_exact.l3 k (s : Int) (least + j) high (m : Int) least)
      (if high < -1022 then (((s + m * 2 ^ j : Nat) : Int), 0) else (((s + ((high + 1023).toNat * 4503599627370496 + (m * 2 ^ j - 4503599627370496)) : Nat) : Int), 0)) := by
  intro j
  induction j with
  | zero =>
    intro m hj hm h1 h2
    refine Ev.step (fun k => by rw [casketref4_exact.l3]) ?_
    rw [Nat.pow_zero, Nat.mul_one] at *
    refine Ev.no (by simp) ?_
    by_cases c : high < -1022
    · simp only [if_pos c]
      have := h2 c
      exact Ev.ret (by rw [wu64 (by omega) (by omega)]; rfl)
    · simp only [if_neg c]
      have := h1 c
      obtain ⟨q, hq⟩ := Int.eq_ofNat_of_zero_le (show 0 ≤ high + 1023 by omega)
      refine Ev.ret ?_
      rw [w64 (x := high + 1023) (by omega) (by omega), hq, Int.toNat_natCast, wu64 (x := (q : Int)) (by omega) (by omega), wu64 (x := (q : Int) * 4503599627370496) (by omega) (by omega),
        wu64 (x := (s : Int) + (q : Int) * 4503599627370496) (by omega) (by omega), wu64 (x := (m : Int) - 4503599627370496) (by omega) (by omega), wu64 (by omega) (by omega)]
      congr 1
      omega
  | succ j ih =>
    intro m hj hm h1 h2
    refine Ev.step (fun k => by rw [casketref4_exact.l3]) ?_
    have e1 : m * 2 ^ (j + 1) = 2 * m * 2 ^ j := by rw [Nat.pow_succ, Nat.mul_comm (2 ^ j) 2, ← Nat.mul_assoc, Nat.mul_comm m 2]
    have hp : 2 * m ≤ 2 * m * 2 ^ j := Nat.le_mul_of_pos_right _ (Nat.two_pow_pos j)
    refine Ev.yes (by omega) ?_
    rw [w64 (x := least + ((j + 1 : Nat) : Int) - 1) (by omega) (by omega), wu64 (x := 2 * (m : Int)) (by omega) (by omega)]
    have h := ih (2 * m) (by omega) (by omega) (by rw [← e1]; exact h1) (by rw [← e1]; exact h2)
    rw [show least + ((j + 1 : Nat) : Int) - 1 = least + (j : Int) by omega, e1]
    exact h
theorem ref_end (s : Nat) (hs : s = 0 ∨ s = 9223372036854775808) (l : List Int) (n : Nat) (low high : Int) (i : Nat) (hi : l.length = i) (hn : 2 ^ (i - 1) ≤ n ∧ n < 2 ^ i) (hi1 : 1 ≤ i ∧ i ≤ 53)
    (ho : n % 2 = 1) (hh : high = low + i - 1) (h1 : high ≤ 1023) (h2 : -1074 ≤ low) :
    Ev (fun k => casketref4_exact.l2 k (s : Int) l low high (n : Int) (i : Int)) (resR s (exactS n low)) := by
  refine Ev.step (fun k => by rw [casketref4_exact.l2]) ?_
  refine Ev.no (by omega) ?_
  have hbl : bl n = i := by
    obtain ⟨k, rfl⟩ : ∃ k, i = k + 1 := ⟨i - 1, by omega⟩
    exact bl_unique hn.1 hn.2
  have hx : exactS n low = if low + i - 1 < -1022 then some (n * 2 ^ (low + 1074).toNat) else some ((low + i - 1 + 1023).toNat * 4503599627370496 + (n * 2 ^ (53 - i)) % 4503599627370496) := by
    unfold exactS
    rw [if_neg (by omega), odd_odd ho, twos_odd ho, hbl, if_neg (by omega)]
    simp
  rw [hx, w64 (x := high - 52) (by omega) (by omega)]
  by_cases c : high < -1022
  · rw [if_pos (by omega)]
    refine Ev.yes (by omega) (Ev.step (fun k => by rw [casketref4_exact.j6]) ?_)
    obtain ⟨j, hj⟩ := Int.eq_ofNat_of_zero_le (show 0 ≤ low + 1074 by omega)
    have hb : n * 2 ^ j < 4503599627370496 := by
      have a : n * 2 ^ j < 2 ^ i * 2 ^ j := Nat.mul_lt_mul_of_pos_right hn.2 (Nat.two_pow_pos j)
      rw [← Nat.pow_add] at a
      have b := Nat.pow_le_pow_right (n := 2) (by decide) (show i + j ≤ 52 by omega)
      omega
    have h := ref_l3 s n high (-1074) (by omega) hs (by omega) j n (by omega) (by omega) (fun h => absurd c h) (fun _ => hb)
    rw [if_pos c] at h
    rw [hj, Int.toNat_natCast, show low = -1074 + (j : Int) by omega]
    exact h
  · rw [if_neg (by omega)]
    refine Ev.no (by omega) (Ev.step (fun k => by rw [casketref4_exact.j6]) ?_)
    have hb : n * 2 ^ (53 - i) < 9007199254740992 := by
      have a : n * 2 ^ (53 - i) < 2 ^ i * 2 ^ (53 - i) := Nat.mul_lt_mul_of_pos_right hn.2 (Nat.two_pow_pos _)
      rw [← Nat.pow_add] at a
      have b := Nat.pow_le_pow_right (n := 2) (by decide) (show i + (53 - i) ≤ 53 by omega)
      omega
    have hc : 4503599627370496 ≤ n * 2 ^ (53 - i) := by
      have a : 2 ^ (i - 1) * 2 ^ (53 - i) ≤ n * 2 ^ (53 - i) := Nat.mul_le_mul_right _ hn.1
      rw [← Nat.pow_add, show i - 1 + (53 - i) = 52 by omega] at a
      exact a
    have h := ref_l3 s n high (high - 52) (by omega) hs (by omega) (53 - i) n (by omega) hb (fun _ => ⟨hc, h1⟩) (fun h => absurd h c)
    rw [if_neg c] at h
    rw [show low = high - 52 + ((53 - i : Nat) : Int) by omega, show high - 52 + ((53 - i : Nat) : Int) + (i : Int) - 1 + 1023 = high + 1023 by omega]
    have e : n * 2 ^ (53 - i) % 4503599627370496 = n * 2 ^ (53 - i) - 4503599627370496 := by omega
    rw [e]
    exact h
theorem last_odd (m : List Nat) (d : Nat) (hd : d = 1) : val 2 0 (m ++ [d]) % 2 = 1 := by
  subst hd; rw [val_append]; show (val 2 0 m * 2 + 1) % 2 = 1; omega
theorem ref_loop (s : Nat) (hs : s = 0 ∨ s = 9223372036854775808) (l : List Nat) (low high : Int) (hl : 1 ≤ l.length ∧ l.length ≤ 53) (hd : ∀ d ∈ l, d < 2) (h0 : 0 < l.headD 0) (ho : val 2 0 l % 2 = 1)
    (hh : high = low + l.length - 1) (h1 : high ≤ 1023) (h2 : -1074 ≤ low) :
    ∀ (r p : List Nat), l = p ++ r → Ev (fun k => casketref4_exact.l2 k (s : Int) (ints l) low high (val 2 0 p : Int) (p.length : Int)) (resR s (exactS (val 2 0 l) low)) := by
  have hlt : val 2 0 l < 2 ^ l.length := by
    have := val_lt (b := 2) l 0 hd
    omega
  have hge : 2 ^ (l.length - 1) ≤ val 2 0 l := by
    cases l with
    | nil => simp at hl
    | cons c r =>
      have a := val_ge (b := 2) (by decide) r (0 * 2 + c)
      have hc : 0 < c := h0
      have b : 2 ^ r.length ≤ (0 * 2 + c) * 2 ^ r.length := Nat.le_mul_of_pos_left _ (by omega)
      exact Nat.le_trans b a
  intro r
  induction r with
  | nil =>
    intro p h
    rw [List.append_nil] at h
    subst h
    exact ref_end s hs _ _ low high _ (ints_len _) ⟨hge, hlt⟩ hl ho hh h1 h2
  | cons d r ih =>
    intro p h
    have hlen : l.length = p.length + r.length + 1 := by rw [h]; simp; omega
    refine Ev.step (fun k => by rw [casketref4_exact.l2]) ?_
    rw [ints_len]
    refine Ev.yes (by omega) (Ev.yes (by omega) ?_)
    have hdd : d < 2 := hd d (by rw [h]; simp)
    have hpv : val 2 0 p < 2 ^ p.length := by
      have h1 := val_lt (b := 2) p 0 (fun x hx => hd x (by rw [h]; simp [hx]))
      omega
    have hpl := Nat.pow_le_pow_right (n := 2) (by decide) (show p.length ≤ 52 by omega)
    have e1 : rd (ints l) (p.length : Int) = (d : Int) := by rw [rd_ints, h]; simp [List.getD_eq_getElem?_getD]
    rw [e1, wu64 (x := 2 * (val 2 0 p : Int)) (by omega) (by omega), wu64 (x := (d : Int)) (by omega) (by omega), wu64 (by omega) (by omega), w64 (by omega) (by omega)]
    have h2 := ih (p ++ [d]) (by rw [h]; simp)
    rw [val_append, show val 2 (val 2 0 p) [d] = val 2 0 p * 2 + d from rfl] at h2
    rw [show ((p ++ [d]).length : Int) = (p.length : Int) + 1 by simp, show ((val 2 0 p * 2 + d : Nat) : Int) = 2 * (val 2 0 p : Int) + (d : Int) by omega] at h2
    exact h2
theorem ref_j3 (s : Nat) (hs : s = 0 ∨ s = 9223372036854775808) (l : List Nat) (e : Int) (hd : ∀ d ∈ l, d < 2) (hl : l.length ≤ 1000) (h1 : l ≠ [] → 0 < l.headD 0 ∧ val 2 0 l % 2 = 1) (he : -1000000 ≤ e ∧ e ≤ 1000000) :
    Ev (fun k => casketref4_exact.j3 k (s : Int) (ints l) e) (resR s (exactS (val 2 0 l) e)) := by
  refine Ev.step (fun k => by rw [casketref4_exact.j3]) ?_
  rw [ints_len]
  cases l with
  | nil => exact Ev.yes (by simp) (Ev.ret (by simp [val, exactS, resR]))
  | cons c r =>
    obtain ⟨a, b⟩ := h1 (by simp)
    refine Ev.no (by simp; omega) ?_
    rw [w64 (x := e + ((c :: r).length : Int)) (by omega) (by omega), w64 (x := e + ((c :: r).length : Int) - 1) (by omega) (by omega)]
    have hpos : 0 < val 2 0 (c :: r) := by omega
    have hbl : bl (val 2 0 (c :: r)) = (c :: r).length := by
      have h2 : 2 ^ r.length ≤ val 2 0 (c :: r) := by
        have x := val_ge (b := 2) (by decide) r (0 * 2 + c)
        have hc : 0 < c := a
        have y : 2 ^ r.length ≤ (0 * 2 + c) * 2 ^ r.length := Nat.le_mul_of_pos_left _ (by omega)
        exact Nat.le_trans y x
      have h3 := val_lt (b := 2) (c :: r) 0 hd
      exact bl_unique h2 (by simpa using h3)
    have hno : 53 < (c :: r).length ∨ 1023 < e + (c :: r).length - 1 ∨ e < -1074 → exactS (val 2 0 (c :: r)) e = none := by
      intro h
      refine exactS_no hpos ?_
      rw [odd_odd b, twos_odd b, hbl]
      simpa using h
    by_cases h53 : 53 < (c :: r).length
    · rw [hno (.inl h53)]
      exact Ev.yes (by omega) (ref_no _ _ _ _)
    · refine Ev.no (by omega) ?_
      by_cases h3 : 1023 < e + ((c :: r).length : Int) - 1
      · rw [hno (.inr (.inl h3))]
        exact Ev.yes h3 (ref_no _ _ _ _)
      · refine Ev.no h3 ?_
        by_cases h4 : e < -1074
        · rw [hno (.inr (.inr h4)), decide_eq_true h4]
          exact ref_no _ _ _ _
        · rw [decide_eq_false h4]
          refine Ev.step (fun k => by rw [casketref4_exact.j4]) ?_
          refine Ev.no (by simp) ?_
          exact ref_loop s hs (c :: r) e _ ⟨by simp, by omega⟩ hd a b rfl (by omega) (by omega) (c :: r) [] rfl
theorem ref_l1 (s : Nat) (hs : s = 0 ∨ s = 9223372036854775808) : ∀ (n : Nat) (l : List Nat) (e : Int), l.length = n → (∀ d ∈ l, d < 2) → l.length ≤ 1000 → (l ≠ [] → 0 < l.headD 0) → (-900000 ≤ e ∧ e + l.length ≤ 900000) →
    Ev (fun k => casketref4_exact.l1 k (s : Int) (ints l) e) (resR s (exactS (val 2 0 l) e)) := by
  intro n
  induction n with
  | zero =>
    intro l e hn hd hl h1 he
    have : l = [] := List.eq_nil_of_length_eq_zero hn
    subst this
    refine Ev.step (fun k => by rw [casketref4_exact.l1]) ?_
    refine Ev.no (by simp [ints]) ?_
    exact ref_j3 s hs [] e hd hl (fun h => absurd rfl h) (by omega)
  | succ n ih =>
    intro l e hn hd hl h1 he
    rcases List.eq_nil_or_concat l with h | ⟨m, d, h⟩
    · rw [h] at hn; cases hn
    · rw [List.concat_eq_append] at h
      subst h
      have hm : m.length = n := by simpa using hn
      refine Ev.step (fun k => by rw [casketref4_exact.l1]) ?_
      rw [ints_len]
      have e1 : wrap64 (((m ++ [d]).length : Int) - 1) = (m.length : Int) := by rw [w64 (by simp <;> omega) (by simp <;> omega)]; simp
      rw [e1]
      refine Ev.yes (by simp <;> omega) (Ev.yes (by omega) (Ev.yes (by simp <;> omega) ?_))
      rw [rd_ints, getD_last]
      by_cases h0 : d = 0
      · subst h0
        refine Ev.yes rfl (Ev.yes (by simp; omega) ?_)
        rw [Int.toNat_natCast, take_last, w64 (by omega) (by simp at he; omega)]
        have hv : val 2 0 (m ++ [0]) = val 2 0 m * 2 ^ 1 := by rw [val_append]; rfl
        rw [hv, exactS_shift]
        refine ih m (e + 1) hm (fun x hx => hd x (by simp [hx])) (by simp at hl; omega) (fun hne => ?_) (by simp at he; omega)
        cases m with
        | nil => exact absurd rfl hne
        | cons c r => exact h1 (by simp)
      · refine Ev.no (by omega) ?_
        have hd2 := hd d (by simp)
        exact ref_j3 s hs (m ++ [d]) e hd hl (fun hne => ⟨h1 hne, last_odd m d (by omega)⟩) (by simp at he ⊢; omega)
theorem ref_l0 (s : Nat) (hs : s = 0 ∨ s = 9223372036854775808) : ∀ (l : List Nat) (e : Int), (∀ d ∈ l, d < 2) → l.length ≤ 1000 → (-900000 ≤ e ∧ e + l.length ≤ 900000) → Ev (fun k => casketref4_exact.l0 k (s : Int) (ints l) e) (resR s (exactS (val 2 0 l) e))
  | [], e, hd, hl, he => by
    refine Ev.step (fun k => by rw [casketref4_exact.l0]) ?_
    refine Ev.no (by simp [ints]) ?_
    refine Ev.step (fun k => by rw [casketref4_exact.j1]) ?_
    exact ref_l1 s hs 0 [] e rfl hd hl (fun h => absurd rfl h) he
  | d :: r, e, hd, hl, he => by
    refine Ev.step (fun k => by rw [casketref4_exact.l0]) ?_
    rw [ints_len]
    refine Ev.yes (by simp <;> omega) (Ev.yes (by simp <;> omega) ?_)
    rw [show rd (ints (d :: r)) 0 = (d : Int) from rd_ints (d :: r) 0]
    by_cases h0 : d = 0
    · subst h0
      refine Ev.yes rfl (Ev.yes (by simp <;> omega) ?_)
      have hv : val 2 0 (0 :: r) = val 2 0 r := by show val 2 (0 * 2 + 0) r = _; rfl
      rw [hv]
      exact ref_l0 s hs r e (fun x hx => hd x (by simp [hx])) (by simp at hl; omega) (by simp at he; omega)
    · refine Ev.no (by omega) ?_
      refine Ev.step (fun k => by rw [casketref4_exact.j1]) ?_
      exact ref_l1 s hs _ (d :: r) e rfl hd hl (fun _ => by show 0 < d; omega) he
theorem refExact_ev (s : Nat) (hs : s = 0 ∨ s = 9223372036854775808) (l : List Nat) (e : Int) (hd : ∀ d ∈ l, d < 2) (hl : l.length ≤ 1000) (he : -800000 ≤ e ∧ e ≤ 800000) :
    Ev (fun k => casketref4_exact.f k (s : Int) (ints l) e) (resR s (exactS (val 2 0 l) e)) :=
  ref_l0 s hs l e hd hl (by omega)

/-- Four bits of each digit. -/
def nib (d : Nat) : List Nat := [d / 8, d / 4 % 2, d / 2 % 2, d % 2]
theorem val_nib (a d : Nat) (h : d < 16) : val 2 a (nib d) = a * 16 + d := by simp [val, nib]; omega
theorem val_nibs : ∀ (l : List Nat) (a : Nat), (∀ d ∈ l, d < 16) → val 2 a (l.flatMap nib) = val 16 a l
  | [], a, _ => rfl
  | d :: r, a, h => by
    rw [List.flatMap_cons, val_append, val_nib a d (h d (by simp))]
    exact val_nibs r _ (fun x hx => h x (by simp [hx]))
theorem nibs_lt {l : List Nat} (h : ∀ d ∈ l, d < 16) : ∀ b ∈ l.flatMap nib, b < 2 := by
  intro b hb
  obtain ⟨d, hd, hb⟩ := List.mem_flatMap.1 hb
  have := h d hd
  simp [nib] at hb
  omega
theorem nibs_len : ∀ l : List Nat, (l.flatMap nib).length = 4 * l.length
  | [] => rfl
  | d :: r => by rw [List.flatMap_cons, List.length_append, nibs_len r]; simp [nib]; omega
end Go.Proofs.YtjdnneomkocghaaDoor.Sp
