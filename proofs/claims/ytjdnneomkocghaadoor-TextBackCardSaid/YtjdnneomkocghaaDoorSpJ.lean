/- Plain Lean: casketref4.Float answers the same text. -/
import Derived.Test.YtjdnneomkocghaaDoorSpI
import Derived.Test.YtjdnneomkocghaaDoorPrint7
namespace Go.Proofs.YtjdnneomkocghaaDoor.Sp
open Go.RowKit Go.Proofs.YtjdnneomkocghaaDoorW.PrintWords Go.Proofs.YtjdnneomkocghaaDoorW.PrintMore Go.Proofs.YtjdnneomkocghaaDoor.Given Go.Proofs.YtjdnneomkocghaaDoor.Print
open Go.Lib (decDigits itoa nDigits)
set_option linter.unusedVariables false
set_option linter.unusedSimpArgs false

theorem nan_f (b : Nat) (hb : b < 18446744073709551616) : casketref1_NaN.f (b : Int) = some (decide (9218868437227405312 < b % 9223372036854775808)) := by
  unfold casketref1_NaN.f
  rw [tdiv_nn (by omega), show (b : Int) / 4503599627370496 = ((b / 4503599627370496 : Nat) : Int) by omega, wu64 (x := ((b / 4503599627370496 : Nat) : Int)) (by omega) (by omega), tmod_nn (by omega), tmod_nn (by omega)]
  by_cases h : b / 4503599627370496 % 2048 = 2047
  · rw [if_pos (by omega)]
    congr 1
    by_cases h0 : b % 4503599627370496 = 0
    · rw [decide_eq_false (by omega)]; simp; omega
    · rw [decide_eq_true (by omega)]; exact bne_iff_ne.2 (by omega)
  · rw [if_neg (by omega), decide_eq_false (by omega)]
theorem rf_end (e : Int) (he : -9000 ≤ e ∧ e ≤ 9000) (t : List UInt8) (ht : t.length ≤ 300) : Ev (fun k => casketref4_Float.l1 k e 0 (bs t)) (bs (t ++ expT e)) := by
  refine Ev.step (fun k => by rw [casketref4_Float.l1]) ?_
  rw [show (⟨#[112, 45]⟩ : ByteArray) = bs [112, 45] from rfl, show (⟨#[112, 43]⟩ : ByteArray) = bs [112, 43] from rfl]
  simp only [bs_app, bs_size]
  refine Ev.no (by omega) ?_
  unfold expT itoa
  by_cases h : e < 0
  · simp only [if_pos h]
    have hl := decDigits_len (n := e.natAbs) (by omega)
    refine Ev.yes (by omega) ?_
    rw [w64 (x := -e) (by omega) (by omega), wu64 (x := -e) (by omega) (by omega), show -e = ((e.natAbs : Nat) : Int) by omega]
    refine Ev.bind (size_ev (by omega)) ?_
    simp only [bs_app, bs_size]
    exact Ev.yes (by simp; omega) (Ev.ret (by simp))
  · simp only [if_neg h]
    have hl := decDigits_len (n := e.toNat) (by omega)
    refine Ev.yes (by omega) ?_
    rw [wu64 (x := e) (by omega) (by omega)]
    obtain ⟨n, rfl⟩ := Int.eq_ofNat_of_zero_le (show 0 ≤ e by omega)
    rw [Int.toNat_natCast] at hl ⊢
    refine Ev.bind (size_ev (by omega)) ?_
    simp only [bs_app, bs_size]
    exact Ev.yes (by simp; omega) (Ev.ret (by simp))
theorem sn_hex {q : Nat} (h : q < 16) : strOfNums [bt (⟨#[48, 49, 50, 51, 52, 53, 54, 55, 56, 57, 97, 98, 99, 100, 101, 102]⟩ : ByteArray) (q : Int)] = bs [hexL.getD q 0] := by
  rw [hexB, sn_one]
  have h2 : ∀ i : Fin 16, UInt8.ofNat (hexL.getD i.val 0).toNat = hexL.getD i.val 0 := by decide
  rw [h2 ⟨q, h⟩]
theorem rf_l1 (e : Int) (he : -9000 ≤ e ∧ e ≤ 9000) : ∀ (n f : Nat) (t : List UInt8), f < 4503599627370496 → f * 16 ^ n % 4503599627370496 = 0 → t.length + n ≤ 200 →
    Ev (fun k => casketref4_Float.l1 k e (f : Int) (bs t)) (bs (t ++ hexs n f ++ expT e)) := by
  intro n
  induction n with
  | zero =>
    intro f t hf h0 ht
    have : f = 0 := by simp at h0; omega
    subst this
    have h := rf_end e he t (by omega)
    simp only [hexs, List.append_nil]
    exact h
  | succ n ih =>
    intro f t hf h0 ht
    by_cases hz : f = 0
    · subst hz
      have h := rf_end e he t (by omega)
      simp only [hexs, if_true, List.append_nil]
      exact h
    · refine Ev.step (fun k => by rw [casketref4_Float.l1]) ?_
      rw [tdiv_nn (by omega), tmod_nn (by omega), show (f : Int) / 281474976710656 = ((f / 281474976710656 : Nat) : Int) by omega, wu64 (x := ((f / 281474976710656 : Nat) : Int)) (by omega) (by omega)]
      have hq : f / 281474976710656 < 16 := by omega
      refine Ev.yes (by omega) (Ev.yes (by omega) (Ev.yes (by omega) (Ev.bind0 rfl ?_)))
      rw [sn_hex hq]
      simp only [bs_app, bs_size]
      refine Ev.yes (by simp; omega) ?_
      rw [wu64 (by omega) (by omega), show (f : Int) % 281474976710656 * 16 = ((f * 16 % 4503599627370496 : Nat) : Int) by omega]
      have h := ih (f * 16 % 4503599627370496) (t ++ [hexL.getD (f / 281474976710656) 0]) (Nat.mod_lt _ (by decide)) (by rw [pow16]; exact h0) (by simp; omega)
      have e3 : hexs (n + 1) f = hexL.getD (f / 281474976710656) 0 :: hexs n (f * 16 % 4503599627370496) := by rw [hexs, if_neg hz]
      rw [e3]
      simp only [List.append_assoc, List.singleton_append, List.cons_append, List.nil_append] at h ⊢
      exact h
theorem rf_j2 (s : List UInt8) (hs : s.length ≤ 1) (f : Nat) (e : Int) (hf : f < 4503599627370496) (he : -9000 ≤ e ∧ e ≤ 9000) :
    Ev (fun k => casketref4_Float.j2 k (bs s) e (f : Int)) (bs (finT s e f)) := by
  refine Ev.step (fun k => by rw [casketref4_Float.j2]) ?_
  rw [show (⟨#[48, 120, 49]⟩ : ByteArray) = bs [48, 120, 49] from rfl, show (⟨#[46]⟩ : ByteArray) = bs [46] from rfl]
  simp only [bs_app, bs_size]
  refine Ev.yes (by omega) ?_
  unfold finT
  by_cases h : f = 0
  · subst h
    refine Ev.no (by omega) ?_
    refine Ev.step (fun k => by rw [casketref4_Float.j3]) ?_
    have h := rf_l1 e he 13 0 (s ++ [48, 120, 49]) (by omega) (by simp) (by simp; omega)
    simp only [if_true, List.append_nil]
    exact h
  · refine Ev.yes (by omega) (Ev.yes (by simp; omega) ?_)
    refine Ev.step (fun k => by rw [casketref4_Float.j3]) ?_
    have h2 := rf_l1 e he 13 f (s ++ [48, 120, 49] ++ [46]) hf (p16 f) (by simp; omega)
    rw [if_neg h]
    exact h2
/-- 'for f < 2^52': a subnormal's highest bit is moved up. -/
theorem rf_l0 (s : List UInt8) (hs : s.length ≤ 1) : ∀ (u f : Nat) (e : Int), 0 < f → 4503599627370496 ≤ f * 2 ^ u → f * 2 ^ u < 9007199254740992 → u ≤ 60 → -5000 ≤ e - u ∧ e ≤ 5000 →
    Ev (fun k => casketref4_Float.l0 k (bs s) e (f : Int)) (bs (finT s (e - u) (f * 2 ^ u % 4503599627370496))) := by
  intro u
  induction u with
  | zero =>
    intro f e h0 h1 h2 hu he
    simp only [Nat.pow_zero, Nat.mul_one] at h1 h2 ⊢
    refine Ev.step (fun k => by rw [casketref4_Float.l0]) ?_
    refine Ev.no (by omega) ?_
    rw [wu64 (by omega) (by omega), show (f : Int) - 4503599627370496 = ((f % 4503599627370496 : Nat) : Int) by omega]
    have h := rf_j2 s hs (f % 4503599627370496) e (by omega) (by omega)
    simpa using h
  | succ u ih =>
    intro f e h0 h1 h2 hu he
    have e1 : f * 2 ^ (u + 1) = 2 * f * 2 ^ u := by rw [Nat.pow_succ, Nat.mul_comm (2 ^ u) 2, ← Nat.mul_assoc, Nat.mul_comm f 2]
    rw [e1] at h1 h2 ⊢
    have hp : 2 * f ≤ 2 * f * 2 ^ u := Nat.le_mul_of_pos_right _ (Nat.two_pow_pos u)
    refine Ev.step (fun k => by rw [casketref4_Float.l0]) ?_
    refine Ev.yes (by omega) ?_
    rw [w64 (by omega) (by omega), wu64 (by omega) (by omega)]
    have h := ih (2 * f) (e - 1) (by omega) h1 h2 (by omega) (by omega)
    rw [show e - 1 - (u : Int) = e - ((u + 1 : Nat) : Int) by omega] at h
    exact h
theorem rf_j0 (m : Nat) (hm : m ≤ 9218868437227405312) (s : List UInt8) (hs : s.length ≤ 1) : Ev (fun k => casketref4_Float.j0 k (m : Int) (bs s)) (bs (floatM s m)) := by
  refine Ev.step (fun k => by rw [casketref4_Float.j0]) ?_
  rw [show (⟨#[105, 110, 102]⟩ : ByteArray) = bs [105, 110, 102] from rfl, show (⟨#[48, 120, 48, 112, 43, 48]⟩ : ByteArray) = bs [48, 120, 48, 112, 43, 48] from rfl]
  simp only [bs_app, bs_size]
  unfold floatM
  rw [if_neg (show ¬ 9218868437227405312 < m by omega)]
  by_cases h2 : m = 9218868437227405312
  · rw [if_pos h2]
    exact Ev.yes (by omega) (Ev.yes (by omega) (Ev.ret rfl))
  · rw [if_neg h2]
    refine Ev.no (by omega) ?_
    by_cases h0 : m = 0
    · rw [if_pos h0]
      exact Ev.yes (by omega) (Ev.yes (by omega) (Ev.ret rfl))
    · rw [if_neg h0]
      refine Ev.no (by omega) ?_
      rw [tdiv_nn (by omega), tmod_nn (by omega), show (m : Int) / 4503599627370496 = ((m / 4503599627370496 : Nat) : Int) by omega, wu64 (x := ((m / 4503599627370496 : Nat) : Int)) (by omega) (by omega),
        w64 (x := ((m / 4503599627370496 : Nat) : Int)) (by omega) (by omega), w64 (x := ((m / 4503599627370496 : Nat) : Int) - 1023) (by omega) (by omega)]
      by_cases h3 : m < 4503599627370496
      · rw [if_pos h3]
        refine Ev.yes (by omega) ?_
        have hb := bl_bounds m (by omega)
        have hb2 : bl m ≤ 52 := bl_le (by omega)
        rw [show (m : Int) % 4503599627370496 = (m : Int) by omega]
        have a1 : m * 2 ^ (53 - bl m) < 9007199254740992 := by
          have a : m * 2 ^ (53 - bl m) < 2 ^ bl m * 2 ^ (53 - bl m) := Nat.mul_lt_mul_of_pos_right hb.2.2 (Nat.two_pow_pos _)
          rw [← Nat.pow_add, show bl m + (53 - bl m) = 53 by omega] at a
          exact a
        have a2 : 4503599627370496 ≤ m * 2 ^ (53 - bl m) := by
          have a : 2 ^ (bl m - 1) * 2 ^ (53 - bl m) ≤ m * 2 ^ (53 - bl m) := Nat.mul_le_mul_right _ hb.2.1
          rw [← Nat.pow_add, show bl m - 1 + (53 - bl m) = 52 by omega] at a
          exact a
        exact rf_l0 s hs (53 - bl m) m (-1022) (by omega) a2 a1 (by omega) (by omega)
      · rw [if_neg h3]
        refine Ev.no (by omega) ?_
        rw [show (m : Int) % 4503599627370496 = ((m % 4503599627370496 : Nat) : Int) by omega]
        exact rf_j2 s hs (m % 4503599627370496) (((m / 4503599627370496 : Nat) : Int) - 1023) (Nat.mod_lt _ (by decide)) (by omega)
theorem refFloat_ev (b : Nat) (hb : b < 18446744073709551616) : Ev (fun k => casketref4_Float.f k (b : Int)) (bs (floatT b)) := by
  unfold casketref4_Float.f
  refine Ev.bind0 (nan_f b hb) ?_
  unfold floatT
  by_cases hn : 9218868437227405312 < b % 9223372036854775808
  · refine Ev.yes (decide_eq_true hn) (Ev.ret ?_)
    unfold floatM
    rw [if_pos hn]
  · refine Ev.no (by simpa using hn) ?_
    unfold signT
    by_cases h : 9223372036854775808 ≤ b
    · rw [if_pos h]
      refine Ev.yes (by omega) ?_
      rw [wu64 (by omega) (by omega), show (b : Int) - 9223372036854775808 = ((b % 9223372036854775808 : Nat) : Int) by omega]
      exact rf_j0 _ (by omega) [45] (by simp)
    · rw [if_neg h]
      refine Ev.no (by omega) ?_
      rw [show (b : Int) = ((b % 9223372036854775808 : Nat) : Int) by omega]
      exact rf_j0 _ (by omega) [] (by simp)
end Go.Proofs.YtjdnneomkocghaaDoor.Sp
