/- Plain Lean: which double a number times a power of two is. -/
import Derived.Test.YtjdnneomkocghaaDoorSpA
import Derived.Test.YtjdnneomkocghaaDoorWMore
import Derived.Test.YtjdnneomkocghaaDoorGivC
namespace Go.Proofs.YtjdnneomkocghaaDoor.Sp
open Go.RowKit Go.Proofs.YtjdnneomkocghaaDoorW.PrintWords Go.Proofs.YtjdnneomkocghaaDoorW.PrintMore
set_option linter.unusedVariables false
set_option linter.unusedSimpArgs false

/-- How often 2 divides n; what is left; how many bits n has. -/
def twos (n : Nat) : Nat := if h : n = 0 then 0 else if n % 2 = 1 then 0 else twos (n / 2) + 1
termination_by n
decreasing_by omega
def odd (n : Nat) : Nat := n / 2 ^ twos n
def bl (n : Nat) : Nat := if h : n = 0 then 0 else bl (n / 2) + 1
termination_by n
decreasing_by omega

theorem twos_odd {n : Nat} (h : n % 2 = 1) : twos n = 0 := by rw [twos, dif_neg (by omega), if_pos h]
theorem twos_double {n : Nat} (h : 0 < n) : twos (2 * n) = twos n + 1 := by
  rw [twos, dif_neg (by omega), if_neg (by omega), show 2 * n / 2 = n by omega]
theorem odd_double {n : Nat} (h : 0 < n) : odd (2 * n) = odd n := by
  unfold odd
  rw [twos_double h, Nat.pow_succ, Nat.mul_comm (2 ^ twos n) 2, Nat.mul_div_mul_left _ _ (by decide)]
theorem odd_odd {n : Nat} (h : n % 2 = 1) : odd n = n := by unfold odd; rw [twos_odd h]; simp
theorem split : ∀ n : Nat, 0 < n → n = odd n * 2 ^ twos n ∧ odd n % 2 = 1 := by
  intro n
  induction n using Nat.strongRecOn with
  | _ n ih =>
    intro hn
    by_cases h : n % 2 = 1
    · rw [odd_odd h, twos_odd h]; simp [h]
    · obtain ⟨m, rfl⟩ : ∃ m, n = 2 * m := ⟨n / 2, by omega⟩
      obtain ⟨h1, h2⟩ := ih m (by omega) (by omega)
      rw [odd_double (by omega), twos_double (by omega), Nat.pow_succ]
      refine ⟨?_, h2⟩
      have : odd m * (2 ^ twos m * 2) = 2 * (odd m * 2 ^ twos m) := by rw [Nat.mul_comm (2 ^ twos m) 2, Nat.mul_left_comm]
      rw [this, ← h1]
theorem odd_le (n : Nat) : odd n ≤ n := Nat.div_le_self _ _
theorem odd_pos {n : Nat} (h : 0 < n) : 0 < odd n := by have := (split n h).2; omega

theorem bl_zero : bl 0 = 0 := by rw [bl, dif_pos rfl]
theorem bl_pos {n : Nat} (h : 0 < n) : bl n = bl (n / 2) + 1 := by rw [bl, dif_neg (by omega)]
theorem bl_bounds : ∀ n : Nat, 0 < n → 1 ≤ bl n ∧ 2 ^ (bl n - 1) ≤ n ∧ n < 2 ^ bl n := by
  intro n
  induction n using Nat.strongRecOn with
  | _ n ih =>
    intro hn
    rw [bl_pos hn]
    by_cases h : n / 2 = 0
    · rw [h, bl_zero]
      have : n = 1 := by omega
      subst this; simp
    · obtain ⟨h1, h2, h3⟩ := ih (n / 2) (by omega) (by omega)
      refine ⟨by omega, ?_, ?_⟩
      · rw [Nat.add_sub_cancel]
        obtain ⟨k, hk⟩ : ∃ k, bl (n / 2) = k + 1 := ⟨bl (n / 2) - 1, by omega⟩
        rw [hk] at h2 ⊢
        rw [Nat.add_sub_cancel] at h2
        rw [Nat.pow_succ]; omega
      · rw [Nat.pow_succ]; omega
theorem bl_unique {n k : Nat} (h1 : 2 ^ k ≤ n) (h2 : n < 2 ^ (k + 1)) : bl n = k + 1 := by
  have hp : 0 < 2 ^ k := Nat.two_pow_pos k
  obtain ⟨a, b, c⟩ := bl_bounds n (by omega)
  have h3 : bl n - 1 < k + 1 := (Nat.pow_lt_pow_iff_right (by decide)).1 (Nat.lt_of_le_of_lt b h2)
  have h4 : k < bl n := (Nat.pow_lt_pow_iff_right (by decide)).1 (Nat.lt_of_le_of_lt h1 c)
  omega
theorem bl_le {n k : Nat} (h : n < 2 ^ k) : bl n ≤ k := by
  rcases Nat.eq_zero_or_pos n with e | e
  · subst e; rw [bl_zero]; omega
  · obtain ⟨a, b, c⟩ := bl_bounds n e
    have : bl n - 1 < k := (Nat.pow_lt_pow_iff_right (by decide)).1 (Nat.lt_of_le_of_lt b h)
    omega
theorem bl_gt {n k : Nat} (h : 2 ^ k ≤ n) : k < bl n := by
  have hp : 0 < 2 ^ k := Nat.two_pow_pos k
  obtain ⟨a, b, c⟩ := bl_bounds n (by omega)
  exact (Nat.pow_lt_pow_iff_right (by decide)).1 (Nat.lt_of_le_of_lt h c)
theorem bitLenAux_eq : ∀ (f n : Nat), n < 2 ^ f → Lib.bitLenAux f n = bl n
  | 0, n, h => by
    have : n = 0 := by simpa using h
    subst this; rw [bl_zero]; rfl
  | f + 1, n, h => by
    rw [Lib.bitLenAux]
    by_cases h0 : n = 0
    · subst h0; rw [if_pos rfl, bl_zero]
    · rw [if_neg h0, bl_pos (by omega), bitLenAux_eq f (n / 2) (by rw [Nat.pow_succ] at h; omega)]
      omega
theorem bitLen_eq {n : Nat} (h : n < 18446744073709551616) : Lib.bitLen n = bl n := bitLenAux_eq 64 n h
theorem ctzFrom_eq : ∀ (f n : Nat), 0 < n → n < 2 ^ f → Lib.ctzFrom f n = twos n
  | 0, n, h0, h => by simp at h; omega
  | f + 1, n, h0, h => by
    rw [Lib.ctzFrom]
    by_cases h1 : n % 2 = 1
    · rw [if_pos h1, twos_odd h1]
    · rw [if_neg h1, ctzFrom_eq f (n / 2) (by omega) (by rw [Nat.pow_succ] at h; omega)]
      obtain ⟨m, rfl⟩ : ∃ m, n = 2 * m := ⟨n / 2, by omega⟩
      rw [twos_double (by omega), show 2 * m / 2 = m by omega]; omega
theorem ctz_eq {n : Nat} (h0 : 0 < n) (h : n < 18446744073709551616) : Lib.ctz 64 n = twos n := by
  unfold Lib.ctz
  rw [if_neg (by omega)]
  exact ctzFrom_eq 64 n h0 h

/-- The pattern of the double that n times 2 to the e is; none: it is no double. -/
def exactS (n : Nat) (e : Int) : Option Nat :=
  if n = 0 then some 0
  else if 53 < bl (odd n) ∨ 1023 < e + twos n + bl (odd n) - 1 ∨ e + twos n < -1074 then none
  else if e + twos n + bl (odd n) - 1 < -1022 then some (odd n * 2 ^ (e + twos n + 1074).toNat)
  else some ((e + twos n + bl (odd n) - 1 + 1023).toNat * 4503599627370496 + (odd n * 2 ^ (53 - bl (odd n))) % 4503599627370496)
theorem exactS_double {n : Nat} (h : 0 < n) (e : Int) : exactS (2 * n) e = exactS n (e + 1) := by
  unfold exactS
  rw [if_neg (show ¬ 2 * n = 0 by omega), if_neg (show ¬ n = 0 by omega), odd_double h, twos_double h]
  have e1 : e + ((twos n + 1 : Nat) : Int) = e + 1 + (twos n : Int) := by omega
  rw [e1]
theorem exactS_shift : ∀ (z n : Nat) (e : Int), exactS (n * 2 ^ z) e = exactS n (e + z)
  | 0, n, e => by simp
  | z + 1, n, e => by
    rcases Nat.eq_zero_or_pos n with h | h
    · subst h; simp [exactS]
    · have : n * 2 ^ (z + 1) = 2 * (n * 2 ^ z) := by rw [Nat.pow_succ, ← Nat.mul_assoc, Nat.mul_comm 2]
      rw [this, exactS_double (Nat.mul_pos h (Nat.two_pow_pos z)), exactS_shift z n (e + 1)]
      congr 1
      omega
theorem exactS_16 (n : Nat) (e : Int) : exactS (n * 16) e = exactS n (e + 4) := exactS_shift 4 n e
theorem exactS_lt {n : Nat} {e : Int} {b : Nat} (h : exactS n e = some b) : b < 9218868437227405312 := by
  unfold exactS at h
  by_cases h0 : n = 0
  · rw [if_pos h0] at h; cases h; omega
  · rw [if_neg h0] at h
    split at h
    · cases h
    · rename_i hc
      have hb := bl_bounds (odd n) (odd_pos (by omega))
      split at h
      · rename_i hl
        cases h
        have e1 : bl (odd n) + (e + twos n + 1074).toNat ≤ 52 := by omega
        have h1 : odd n * 2 ^ (e + twos n + 1074).toNat < 2 ^ bl (odd n) * 2 ^ (e + twos n + 1074).toNat := Nat.mul_lt_mul_of_pos_right hb.2.2 (Nat.two_pow_pos _)
        rw [← Nat.pow_add] at h1
        have h2 := Nat.pow_le_pow_right (n := 2) (by decide) e1
        omega
      · cases h
        have : (e + twos n + bl (odd n) - 1 + 1023).toNat ≤ 2046 := by omega
        have := Nat.mod_lt (odd n * 2 ^ (53 - bl (odd n))) (show 0 < 4503599627370496 by decide)
        omega

/-- Digits' number, by a base. -/
def val (b : Nat) : Nat → List Nat → Nat
  | acc, [] => acc
  | acc, d :: r => val b (acc * b + d) r
theorem val_append (b : Nat) : ∀ (l m : List Nat) (a : Nat), val b a (l ++ m) = val b (val b a l) m
  | [], _, _ => rfl
  | d :: r, m, a => val_append b r m _
theorem val_ge {b : Nat} (hb : 0 < b) : ∀ (l : List Nat) (a : Nat), a * b ^ l.length ≤ val b a l
  | [], a => by simp [val]
  | d :: r, a => by
    refine Nat.le_trans ?_ (val_ge hb r (a * b + d))
    rw [List.length_cons, Nat.pow_succ, Nat.mul_comm (b ^ r.length) b, ← Nat.mul_assoc]
    exact Nat.mul_le_mul_right _ (by omega)
theorem val_lt {b : Nat} : ∀ (l : List Nat) (a : Nat), (∀ d ∈ l, d < b) → val b a l < (a + 1) * b ^ l.length
  | [], a, _ => by simp [val]
  | d :: r, a, h => by
    have hd : d < b := h d (by simp)
    refine Nat.lt_of_lt_of_le (val_lt r (a * b + d) (fun x hx => h x (by simp [hx]))) ?_
    rw [List.length_cons, Nat.pow_succ, Nat.mul_comm (b ^ r.length) b, ← Nat.mul_assoc]
    refine Nat.mul_le_mul_right _ ?_
    rw [Nat.add_mul]
    omega
theorem val_zeros (b : Nat) : ∀ (z : Nat) (l : List Nat), val b 0 (List.replicate z 0 ++ l) = val b 0 l
  | 0, l => by simp
  | z + 1, l => by
    rw [List.replicate_succ, List.cons_append]
    show val b (0 * b + 0) _ = _
    rw [Nat.zero_mul]
    exact val_zeros b z l
theorem val_tail (b : Nat) : ∀ (z a : Nat), val b a (List.replicate z 0) = a * b ^ z
  | 0, a => by simp [val]
  | z + 1, a => by
    rw [List.replicate_succ]
    show val b (a * b + 0) _ = _
    rw [val_tail b z, Nat.pow_succ, Nat.add_zero, Nat.mul_assoc, Nat.mul_comm b]
end Go.Proofs.YtjdnneomkocghaaDoor.Sp
