/- Plain Lean: doubles as text: the word, numtext.Float. -/
import Derived.Test.YtjdnneomkocghaaDoorSpB
import Derived.Test.YtjdnneomkocghaaDoorSpE
import Derived.Test.YtjdnneomkocghaaDoorPrint2
namespace Go.Proofs.YtjdnneomkocghaaDoor.Sp
open Go.RowKit Go.Proofs.YtjdnneomkocghaaDoorW.PrintWords Go.Proofs.YtjdnneomkocghaaDoorW.PrintMore Go.Proofs.YtjdnneomkocghaaDoor.Given Go.Proofs.YtjdnneomkocghaaDoor.Print
open Go.Lib (decDigits itoa nDigits)
set_option linter.unusedVariables false
set_option linter.unusedSimpArgs false

def hexs : Nat → Nat → List UInt8
  | 0, _ => []
  | n + 1, f => if f = 0 then [] else hexL.getD (f / 281474976710656) 0 :: hexs n (f * 16 % 4503599627370496)
def expT (e : Int) : List UInt8 := 112 :: (if e < 0 then itoa e else 43 :: itoa e)
def finT (s : List UInt8) (e : Int) (f : Nat) : List UInt8 := s ++ [48, 120, 49] ++ (if f = 0 then [] else [46]) ++ hexs 13 f ++ expT e
def signT (b : Nat) : List UInt8 := if 9223372036854775808 ≤ b then [45] else []
def floatM (s : List UInt8) (m : Nat) : List UInt8 :=
  if 9218868437227405312 < m then [110, 97, 110]
  else if m = 9218868437227405312 then s ++ [105, 110, 102]
  else if m = 0 then s ++ [48, 120, 48, 112, 43, 48]
  else if m < 4503599627370496 then finT s (-1022 - (53 - bl m : Nat)) (m * 2 ^ (53 - bl m) % 4503599627370496)
  else finT s ((m / 4503599627370496 : Nat) - 1023) (m % 4503599627370496)
def floatT (b : Nat) : List UInt8 := floatM (signT b) (b % 9223372036854775808)

theorem hexs_len : ∀ (n f : Nat), (hexs n f).length ≤ n
  | 0, _ => by simp [hexs]
  | n + 1, f => by
    unfold hexs
    split
    · simp
    · simp; exact hexs_len n _
theorem itoa_len {e : Int} (h : -10000 ≤ e ∧ e ≤ 10000) : (itoa e).length ≤ 30 := by
  unfold itoa
  split
  · have := decDigits_len (n := e.natAbs) (by omega); simp; omega
  · have := decDigits_len (n := e.toNat) (by omega); omega
theorem hex_one {q : Nat} (h : q < 16) : (⟨#[48, 49, 50, 51, 52, 53, 54, 55, 56, 57, 97, 98, 99, 100, 101, 102]⟩ : ByteArray).extract q (q + 1) = bs [hexL.getD q 0] := by
  have : (⟨#[48, 49, 50, 51, 52, 53, 54, 55, 56, 57, 97, 98, 99, 100, 101, 102]⟩ : ByteArray) = bs hexL := rfl
  rw [this, bs_ext]
  have h2 : ∀ i : Fin 16, ((hexL.take (i.val + 1)).drop i.val) = [hexL.getD i.val 0] := by decide
  rw [h2 ⟨q, h⟩]
theorem int_f {e : Int} (h : -10000 ≤ e ∧ e ≤ 10000) : numtext_Int.f e = some (bs (itoa e)) := by
  unfold numtext_Int.f strconv_FormatInt_33.f
  rw [if_pos ⟨by omega, by omega, rfl⟩]
  rfl
theorem fl_end (e : Int) (he : -9000 ≤ e - 1023 ∧ e - 1023 ≤ 9000) (t : List UInt8) (ht : t.length ≤ 300) : Ev (fun k => numtext_Float.l0 k 0 e (bs t)) (bs (t ++ expT (e - 1023))) := by
  have hi := itoa_len (e := e - 1023) (by omega)
  refine Ev.step (fun k => by rw [numtext_Float.l0]) ?_
  rw [w64 (x := e - 1023) (by omega) (by omega), show (⟨#[112]⟩ : ByteArray) = bs [112] from rfl, show (⟨#[43]⟩ : ByteArray) = bs [43] from rfl]
  simp only [bs_app, bs_size]
  refine Ev.yes trivial (Ev.yes (by omega) ?_)
  unfold expT
  by_cases h : e - 1023 < 0
  · rw [if_pos h]
    refine Ev.no (by omega) (Ev.bind0 (int_f (by omega)) ?_)
    simp only [bs_app, bs_size]
    exact Ev.yes (by simp; omega) (Ev.ret (by simp))
  · rw [if_neg h]
    refine Ev.yes (by omega) (Ev.yes (by simp; omega) (Ev.bind0 (int_f (by omega)) ?_))
    simp only [bs_app, bs_size]
    exact Ev.yes (by simp; omega) (Ev.ret (by simp))
theorem pow16 (f n : Nat) : f * 16 % 4503599627370496 * 16 ^ n % 4503599627370496 = f * 16 ^ (n + 1) % 4503599627370496 := by
  rw [Nat.mod_mul_mod, Nat.pow_succ, Nat.mul_assoc, Nat.mul_comm 16]
theorem fl_l0 (e : Int) (he : -9000 ≤ e - 1023 ∧ e - 1023 ≤ 9000) : ∀ (n f : Nat) (t : List UInt8), f < 4503599627370496 → f * 16 ^ n % 4503599627370496 = 0 → t.length + n ≤ 200 →
    Ev (fun k => numtext_Float.l0 k (f : Int) e (bs t)) (bs (t ++ hexs n f ++ expT (e - 1023))) := by
  intro n
  induction n with
  | zero =>
    intro f t hf h0 ht
    have : f = 0 := by simp at h0; omega
    subst this
    have h := fl_end e he t (by omega)
    simp only [hexs, List.append_nil]
    exact h
  | succ n ih =>
    intro f t hf h0 ht
    by_cases hz : f = 0
    · subst hz
      have h := fl_end e he t (by omega)
      simp only [hexs, if_true, List.append_nil]
      exact h
    · refine Ev.step (fun k => by rw [numtext_Float.l0]) ?_
      refine Ev.no (by omega) (Ev.yes (by omega) ?_)
      have eq1 : (f : Int) / 281474976710656 = ((f / 281474976710656 : Nat) : Int) := by omega
      have hq : f / 281474976710656 < 16 := by omega
      rw [eq1, wu64 (x := ((f / 281474976710656 : Nat) : Int) + 1) (by omega) (by omega)]
      refine Ev.yes (by omega) (Ev.yes (by omega) ?_)
      have eq2 : (((f / 281474976710656 : Nat) : Int) + 1).toNat = f / 281474976710656 + 1 := by omega
      rw [eq2, Int.toNat_natCast, hex_one hq, wu64 (x := (f : Int) * 16) (by omega) (by omega), show (f : Int) * 16 = ((f * 16 : Nat) : Int) by omega, u64_and52 _ (by omega)]
      simp only [bs_app, bs_size]
      refine Ev.yes (by simp; omega) ?_
      have h := ih (f * 16 % 4503599627370496) (t ++ [hexL.getD (f / 281474976710656) 0]) (Nat.mod_lt _ (by decide)) (by rw [pow16]; exact h0) (by simp; omega)
      have e3 : hexs (n + 1) f = hexL.getD (f / 281474976710656) 0 :: hexs n (f * 16 % 4503599627370496) := by rw [hexs, if_neg hz]
      rw [e3]
      simp only [List.append_assoc, List.singleton_append, List.cons_append, List.nil_append] at h ⊢
      exact h
theorem p16 (f : Nat) : f * 16 ^ 13 % 4503599627370496 = 0 := by
  have : (16 : Nat) ^ 13 = 4503599627370496 := by decide
  rw [this]; simp
theorem fl_j3 (s : List UInt8) (hs : s.length ≤ 1) (f : Nat) (e : Int) (hf : f < 4503599627370496) (he : -9000 ≤ e - 1023 ∧ e - 1023 ≤ 9000) :
    Ev (fun k => numtext_Float.j3 k (bs s) (f : Int) e) (bs (finT s (e - 1023) f)) := by
  refine Ev.step (fun k => by rw [numtext_Float.j3]) ?_
  rw [show (⟨#[48, 120, 49]⟩ : ByteArray) = bs [48, 120, 49] from rfl, show (⟨#[46]⟩ : ByteArray) = bs [46] from rfl]
  simp only [bs_app, bs_size]
  refine Ev.yes (by omega) ?_
  unfold finT
  by_cases h : f = 0
  · subst h
    refine Ev.yes rfl ?_
    refine Ev.step (fun k => by rw [numtext_Float.j4]) ?_
    have h := fl_l0 e he 13 0 (s ++ [48, 120, 49]) (by omega) (by simp) (by simp; omega)
    simp only [if_true, List.append_nil]
    exact h
  · refine Ev.no (by omega) (Ev.yes (by simp; omega) ?_)
    refine Ev.step (fun k => by rw [numtext_Float.j4]) ?_
    have h2 := fl_l0 e he 13 f (s ++ [48, 120, 49] ++ [46]) hf (p16 f) (by simp; omega)
    rw [if_neg h]
    exact h2
theorem u64_and11 (x : Nat) (hx : x < 18446744073709551616) : Go.bits .and .u64 (x : Int) 2047 = ((x % 2048 : Nat) : Int) := by
  have h64 : (2 : Int) ^ 64 = 18446744073709551616 := by decide
  have h := bits_mask .u64 64 (by decide) wr64 11 (by decide) (x : Int) (by omega) (by omega)
  have h52 : (2 : Int) ^ 11 = 2048 := by decide
  rw [h52] at h
  have e : (2048 : Int) - 1 = 2047 := by decide
  rw [e] at h
  rw [h]
  omega
theorem fl_j1 (s : List UInt8) (hs : s.length ≤ 1) (m : Nat) (hm : m < 9223372036854775808) (x : Bool) (hx : x = decide (9218868437227405312 < m)) :
    Ev (fun k => numtext_Float.j1 k (bs s) ((m % 4503599627370496 : Nat) : Int) ((m / 4503599627370496 : Nat) : Int) x) (bs (floatM s m)) := by
  refine Ev.step (fun k => by rw [numtext_Float.j1]) ?_
  rw [show (⟨#[110, 97, 110]⟩ : ByteArray) = bs [110, 97, 110] from rfl, show (⟨#[105, 110, 102]⟩ : ByteArray) = bs [105, 110, 102] from rfl]
  simp only [bs_app, bs_size]
  unfold floatM
  by_cases h1 : 9218868437227405312 < m
  · rw [if_pos h1]
    exact Ev.yes (by rw [hx]; exact decide_eq_true h1) (Ev.ret rfl)
  · rw [if_neg h1]
    refine Ev.no (by rw [hx]; simpa using h1) ?_
    by_cases h2 : m = 9218868437227405312
    · rw [if_pos h2]
      exact Ev.yes (by omega) (Ev.yes (by omega) (Ev.ret rfl))
    · rw [if_neg h2]
      refine Ev.no (by omega) ?_
      have zero : m = 0 → Ev (fun k => numtext_Float.j2 k (bs s) ((m % 4503599627370496 : Nat) : Int) ((m / 4503599627370496 : Nat) : Int) true) (bs (s ++ [48, 120, 48, 112, 43, 48])) := by
        intro h
        refine Ev.step (fun k => by rw [numtext_Float.j2]) ?_
        rw [show (⟨#[48, 120, 48, 112, 43, 48]⟩ : ByteArray) = bs [48, 120, 48, 112, 43, 48] from rfl]
        simp only [bs_app, bs_size]
        exact Ev.yes trivial (Ev.yes (by omega) (Ev.ret rfl))
      have norm : m ≠ 0 → Ev (fun k => numtext_Float.j2 k (bs s) ((m % 4503599627370496 : Nat) : Int) ((m / 4503599627370496 : Nat) : Int) false) (bs (if m < 4503599627370496 then finT s (-1022 - (53 - bl m : Nat)) (m * 2 ^ (53 - bl m) % 4503599627370496) else finT s ((m / 4503599627370496 : Nat) - 1023) (m % 4503599627370496))) := by
        intro h
        refine Ev.step (fun k => by rw [numtext_Float.j2]) ?_
        refine Ev.no (by simp) ?_
        by_cases h3 : m < 4503599627370496
        · rw [if_pos h3]
          have hb := bl_bounds m (by omega)
          have hb2 : bl m ≤ 52 := bl_le (by omega)
          rw [show ((m / 4503599627370496 : Nat) : Int) = 0 by omega, show m % 4503599627370496 = m by omega]
          refine Ev.yes rfl ?_
          refine Ev.bind0 (a := (64 - (bl m : Int))) (by unfold bits_LeadingZeros64.f; rw [if_pos ⟨by omega, by omega⟩, Int.toNat_natCast, bitLen_eq (by omega)]) ?_
          rw [w64 (x := 64 - (bl m : Int) - 11) (by omega) (by omega), w64 (x := 1 - (64 - (bl m : Int) - 11)) (by omega) (by omega)]
          refine Ev.yes (by omega) ?_
          have hm2 : m * 2 ^ (53 - bl m) < 18446744073709551616 := by
            have a : m * 2 ^ (53 - bl m) < 2 ^ bl m * 2 ^ (53 - bl m) := Nat.mul_lt_mul_of_pos_right hb.2.2 (Nat.two_pow_pos _)
            rw [← Nat.pow_add, show bl m + (53 - bl m) = 53 by omega] at a
            omega
          rw [show (64 : Int) - (bl m : Int) - 11 = ((53 - bl m : Nat) : Int) by omega, shl_ev _ _ (by omega) hm2, u64_and52 _ hm2]
          have h := fl_j3 s hs (m * 2 ^ (53 - bl m) % 4503599627370496) (1 - ((53 - bl m : Nat) : Int)) (Nat.mod_lt _ (by decide)) (by omega)
          rw [show (1 : Int) - ((53 - bl m : Nat) : Int) - 1023 = -1022 - ((53 - bl m : Nat) : Int) by omega] at h
          exact h
        · rw [if_neg h3]
          refine Ev.no (by omega) ?_
          exact fl_j3 s hs _ _ (Nat.mod_lt _ (by decide)) (by omega)
      by_cases h3 : m / 4503599627370496 = 0
      · refine Ev.yes (by omega) ?_
        by_cases h0 : m = 0
        · rw [if_pos h0]
          have : (((m % 4503599627370496 : Nat) : Int) == 0) = true := beq_iff_eq.2 (by omega)
          rw [this]
          exact zero h0
        · rw [if_neg h0]
          have : (((m % 4503599627370496 : Nat) : Int) == 0) = false := beq_eq_false_iff_ne.2 (by omega)
          rw [this]
          exact norm h0
      · refine Ev.no (by omega) ?_
        rw [if_neg (by omega)]
        exact norm (by omega)
theorem fl_j0 (b : Nat) (hb : b < 18446744073709551616) (s : List UInt8) (hs : s.length ≤ 1) : Ev (fun k => numtext_Float.j0 k (b : Int) (bs s)) (bs (floatM s (b % 9223372036854775808))) := by
  refine Ev.step (fun k => by rw [numtext_Float.j0]) ?_
  have e1 : (b : Int) / 4503599627370496 = ((b / 4503599627370496 : Nat) : Int) := by omega
  rw [e1, u64_and11 _ (by omega), u64_and52 _ hb, w64 (by omega) (by omega)]
  have e2 : b / 4503599627370496 % 2048 = b % 9223372036854775808 / 4503599627370496 := by omega
  have e3 : b % 4503599627370496 = b % 9223372036854775808 % 4503599627370496 := by omega
  rw [e2, e3]
  generalize hm : b % 9223372036854775808 = m
  have hm2 : m < 9223372036854775808 := by omega
  by_cases h : m / 4503599627370496 = 2047
  · refine Ev.yes (by omega) ?_
    refine fl_j1 s hs m hm2 _ ?_
    by_cases h0 : m % 4503599627370496 = 0
    · rw [decide_eq_false (by omega)]; simp [h0]
    · rw [decide_eq_true (by omega)]; exact bne_iff_ne.2 (by omega)
  · refine Ev.no (by omega) ?_
    exact fl_j1 s hs m hm2 _ (by rw [decide_eq_false (by omega)])
theorem float_ev (b : Nat) (hb : b < 18446744073709551616) : Ev (fun k => numtext_Float.f k (b : Int)) (bs (floatT b)) := by
  unfold numtext_Float.f floatT signT
  by_cases h : 9223372036854775808 ≤ b
  · rw [if_pos h]
    refine Ev.yes (by omega) ?_
    exact fl_j0 b hb [45] (by simp)
  · rw [if_neg h]
    refine Ev.no (by omega) ?_
    exact fl_j0 b hb [] (by simp)
end Go.Proofs.YtjdnneomkocghaaDoor.Sp
