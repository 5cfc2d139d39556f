/- Packed by a program of this session (wip/tools/pack.py): the declarations of its texts that this claim needs. Not trusted: Lean checks it. -/
import Derived.Test.YtjolkombhdibcaaDoorNumB
section
namespace Go.Proofs.YtjolkombhdibcaaDoor.Sp
open Go.RowKit Go.Proofs.YtjolkombhdibcaaDoorW.PrintWords Go.Proofs.YtjolkombhdibcaaDoorW.PrintMore Go.Proofs.YtjolkombhdibcaaDoor.Given Go.Proofs.YtjolkombhdibcaaDoor.Print
open Go.Lib (decDigits itoa nDigits)
set_option linter.unusedVariables false
set_option linter.unusedSimpArgs false
def hexs : Nat → Nat → List UInt8
  | 0, _ => []
  | n + 1, f => if f = 0 then [] else hexL.getD (f / 281474976710656) 0 :: hexs n (f * 16 % 4503599627370496)
def expT (e : Int) : List UInt8 := 112 :: (if e < 0 then itoa e else 43 :: itoa e)
def finT (s : List UInt8) (e : Int) (f : Nat) : List UInt8 := s ++ [48, 120, 49] ++ (if f = 0 then [] else [46]) ++ hexs 13 f ++ expT e
def signT (b : Nat) : List UInt8 := if 9223372036854775808 ≤ b then [45] else []
def floatM (s : List UInt8) (m : Nat) : List UInt8 :=
  if 9218868437227405312 < m then [110, 97, 110]
  else if m = 9218868437227405312 then s ++ [105, 110, 102]
  else if m = 0 then s ++ [48, 120, 48, 112, 43, 48]
  else if m < 4503599627370496 then finT s (-1022 - (53 - bl m : Nat)) (m * 2 ^ (53 - bl m) % 4503599627370496)
  else finT s ((m / 4503599627370496 : Nat) - 1023) (m % 4503599627370496)
def floatT (b : Nat) : List UInt8 := floatM (signT b) (b % 9223372036854775808)
theorem hexs_len : ∀ (n f : Nat), (hexs n f).length ≤ n
  | 0, _ => by simp [hexs]
  | n + 1, f => by
    unfold hexs
    split
    · simp
    · simp; exact hexs_len n _
theorem itoa_len {e : Int} (h : -10000 ≤ e ∧ e ≤ 10000) : (itoa e).length ≤ 30 := by
  unfold itoa
  split
  · have := decDigits_len (n := e.natAbs) (by omega); simp; omega
  · have := decDigits_len (n := e.toNat) (by omega); omega
theorem hex_one {q : Nat} (h : q < 16) : (⟨#[48, 49, 50, 51, 52, 53, 54, 55, 56, 57, 97, 98, 99, 100, 101, 102]⟩ : ByteArray).extract q (q + 1) = bs [hexL.getD q 0] := by
  have : (⟨#[48, 49, 50, 51, 52, 53, 54, 55, 56, 57, 97, 98, 99, 100, 101, 102]⟩ : ByteArray) = bs hexL := rfl
  rw [this, bs_ext]
  have h2 : ∀ i : Fin 16, ((hexL.take (i.val + 1)).drop i.val) = [hexL.getD i.val 0] := by decide
  rw [h2 ⟨q, h⟩]
theorem int_f {e : Int} (h : -10000 ≤ e ∧ e ≤ 10000) : numtext_Int.f e = some (bs (itoa e)) := by
  unfold numtext_Int.f strconv_FormatInt_33.f
  rw [if_pos ⟨by omega, by omega, rfl⟩]
  rfl
theorem fl_end (e : Int) (he : -9000 ≤ e - 1023 ∧ e - 1023 ≤ 9000) (t : List UInt8) (ht : t.length ≤ 300) : Ev (fun k => numtext_Float.l0 k 0 e (bs t)) (bs (t ++ expT (e - 1023))) := by
  have hi := itoa_len (e := e - 1023) (by omega)
  refine Ev.step (fun k => by rw [numtext_Float.l0]) ?_
  rw [w64 (x := e - 1023) (by omega) (by omega), show (⟨#[112]⟩ : ByteArray) = bs [112] from rfl, show (⟨#[43]⟩ : ByteArray) = bs [43] from rfl]
  simp only [bs_app, bs_size]
  refine Ev.yes trivial (Ev.yes (by omega) ?_)
  unfold expT
  by_cases h : e - 1023 < 0
  · rw [if_pos h]
    refine Ev.no (by omega) (Ev.bind0 (int_f (by omega)) ?_)
    simp only [bs_app, bs_size]
    exact Ev.yes (by simp; omega) (Ev.ret (by simp))
  · rw [if_neg h]
    refine Ev.yes (by omega) (Ev.yes (by simp; omega) (Ev.bind0 (int_f (by omega)) ?_))
    simp only [bs_app, bs_size]
    exact Ev.yes (by simp; omega) (Ev.ret (by simp))
theorem pow16 (f n : Nat) : f * 16 % 4503599627370496 * 16 ^ n % 4503599627370496 = f * 16 ^ (n + 1) % 4503599627370496 := by
  rw [Nat.mod_mul_mod, Nat.pow_succ, Nat.mul_assoc, Nat.mul_comm 16]
theorem fl_l0 (e : Int) (he : -9000 ≤ e - 1023 ∧ e - 1023 ≤ 9000) : ∀ (n f : Nat) (t : List UInt8), f < 4503599627370496 → f * 16 ^ n % 4503599627370496 = 0 → t.length + n ≤ 200 →
    Ev (fun k => numtext_Float.l0 k (f : Int) e (bs t)) (bs (t ++ hexs n f ++ expT (e - 1023))) := by
  intro n
  induction n with
  | zero =>
    intro f t hf h0 ht
    have : f = 0 := by simp at h0; omega
    subst this
    have h := fl_end e he t (by omega)
    simp only [hexs, List.append_nil]
    exact h
  | succ n ih =>
    intro f t hf h0 ht
    by_cases hz : f = 0
    · subst hz
      have h := fl_end e he t (by omega)
      simp only [hexs, if_true, List.append_nil]
      exact h
    · refine Ev.step (fun k => by rw [numtext_Float.l0]) ?_
      refine Ev.no (by omega) (Ev.yes (by omega) ?_)
      have eq1 : (f : Int) / 281474976710656 = ((f / 281474976710656 : Nat) : Int) := by omega
      have hq : f / 281474976710656 < 16 := by omega
      rw [eq1, wu64 (x := ((f / 281474976710656 : Nat) : Int) + 1) (by omega) (by omega)]
      refine Ev.yes (by omega) (Ev.yes (by omega) ?_)
      have eq2 : (((f / 281474976710656 : Nat) : Int) + 1).toNat = f / 281474976710656 + 1 := by omega
      rw [eq2, Int.toNat_natCast, hex_one hq, wu64 (x := (f : Int) * 16) (by omega) (by omega), show (f : Int) * 16 = ((f * 16 : Nat) : Int) by omega, u64_and52 _ (by omega)]
      simp only [bs_app, bs_size]
      refine Ev.yes (by simp; omega) ?_
      have h := ih (f * 16 % 4503599627370496) (t ++ [hexL.getD (f / 281474976710656) 0]) (Nat.mod_lt _ (by decide)) (by rw [pow16]; exact h0) (by simp; omega)
      have e3 : hexs (n + 1) f = hexL.getD (f / 281474976710656) 0 :: hexs n (f * 16 % 4503599627370496) := by rw [hexs, if_neg hz]
      rw [e3]
      simp only [List.append_assoc, List.singleton_append, List.cons_append, List.nil_append] at h ⊢
      exact h
theorem p16 (f : Nat) : f * 16 ^ 13 % 4503599627370496 = 0 := by
  have : (16 : Nat) ^ 13 = 4503599627370496 := by decide
  rw [this]; simp
theorem fl_j3 (s : List UInt8) (hs : s.length ≤ 1) (f : Nat) (e : Int) (hf : f < 4503599627370496) (he : -9000 ≤ e - 1023 ∧ e - 1023 ≤ 9000) :
    Ev (fun k => numtext_Float.j3 k (bs s) (f : Int) e) (bs (finT s (e - 1023) f)) := by
  refine Ev.step (fun k => by rw [numtext_Float.j3]) ?_
  rw [show (⟨#[48, 120, 49]⟩ : ByteArray) = bs [48, 120, 49] from rfl, show (⟨#[46]⟩ : ByteArray) = bs [46] from rfl]
  simp only [bs_app, bs_size]
  refine Ev.yes (by omega) ?_
  unfold finT
  by_cases h : f = 0
  · subst h
    refine Ev.yes rfl ?_
    refine Ev.step (fun k => by rw [numtext_Float.j4]) ?_
    have h := fl_l0 e he 13 0 (s ++ [48, 120, 49]) (by omega) (by simp) (by simp; omega)
    simp only [if_true, List.append_nil]
    exact h
  · refine Ev.no (by omega) (Ev.yes (by simp; omega) ?_)
    refine Ev.step (fun k => by rw [numtext_Float.j4]) ?_
    have h2 := fl_l0 e he 13 f (s ++ [48, 120, 49] ++ [46]) hf (p16 f) (by simp; omega)
    rw [if_neg h]
    exact h2
theorem u64_and11 (x : Nat) (hx : x < 18446744073709551616) : Go.bits .and .u64 (x : Int) 2047 = ((x % 2048 : Nat) : Int) := by
  have h64 : (2 : Int) ^ 64 = 18446744073709551616 := by decide
  have h := bits_mask .u64 64 (by decide) wr64 11 (by decide) (x : Int) (by omega) (by omega)
  have h52 : (2 : Int) ^ 11 = 2048 := by decide
  rw [h52] at h
  have e : (2048 : Int) - 1 = 2047 := by decide
  rw [e] at h
  rw [h]
  omega
theorem fl_j1 (s : List UInt8) (hs : s.length ≤ 1) (m : Nat) (hm : m < 9223372036854775808) (x : Bool) (hx : x = decide (9218868437227405312 < m)) :
    Ev (fun k => numtext_Float.j1 k (bs s) ((m % 4503599627370496 : Nat) : Int) ((m / 4503599627370496 : Nat) : Int) x) (bs (floatM s m)) := by
  refine Ev.step (fun k => by rw [numtext_Float.j1]) ?_
  rw [show (⟨#[110, 97, 110]⟩ : ByteArray) = bs [110, 97, 110] from rfl, show (⟨#[105, 110, 102]⟩ : ByteArray) = bs [105, 110, 102] from rfl]
  simp only [bs_app, bs_size]
  unfold floatM
  by_cases h1 : 9218868437227405312 < m
  · rw [if_pos h1]
    exact Ev.yes (by rw [hx]; exact decide_eq_true h1) (Ev.ret rfl)
  · rw [if_neg h1]
    refine Ev.no (by rw [hx]; simpa using h1) ?_
    by_cases h2 : m = 9218868437227405312
    · rw [if_pos h2]
      exact Ev.yes (by omega) (Ev.yes (by omega) (Ev.ret rfl))
    · rw [if_neg h2]
      refine Ev.no (by omega) ?_
      have zero : m = 0 → Ev (fun k => numtext_Float.j2 k (bs s) ((m % 4503599627370496 : Nat) : Int) ((m / 4503599627370496 : Nat) : Int) true) (bs (s ++ [48, 120, 48, 112, 43, 48])) := by
        intro h
        refine Ev.step (fun k => by rw [numtext_Float.j2]) ?_
        rw [show (⟨#[48, 120, 48, 112, 43, 48]⟩ : ByteArray) = bs [48, 120, 48, 112, 43, 48] from rfl]
        simp only [bs_app, bs_size]
        exact Ev.yes trivial (Ev.yes (by omega) (Ev.ret rfl))
      have norm : m ≠ 0 → Ev (fun k => numtext_Float.j2 k (bs s) ((m % 4503599627370496 : Nat) : Int) ((m / 4503599627370496 : Nat) : Int) false) (bs (if m < 4503599627370496 then finT s (-1022 - (53 - bl m : Nat)) (m * 2 ^ (53 - bl m) % 4503599627370496) else finT s ((m / 4503599627370496 : Nat) - 1023) (m % 4503599627370496))) := by
        intro h
        refine Ev.step (fun k => by rw [numtext_Float.j2]) ?_
        refine Ev.no (by simp) ?_
        by_cases h3 : m < 4503599627370496
        · rw [if_pos h3]
          have hb := bl_bounds m (by omega)
          have hb2 : bl m ≤ 52 := bl_le (by omega)
          rw [show ((m / 4503599627370496 : Nat) : Int) = 0 by omega, show m % 4503599627370496 = m by omega]
          refine Ev.yes rfl ?_
          refine Ev.bind0 (a := (64 - (bl m : Int))) (by unfold bits_LeadingZeros64.f; rw [if_pos ⟨by omega, by omega⟩, Int.toNat_natCast, bitLen_eq (by omega)]) ?_
          rw [w64 (x := 64 - (bl m : Int) - 11) (by omega) (by omega), w64 (x := 1 - (64 - (bl m : Int) - 11)) (by omega) (by omega)]
          refine Ev.yes (by omega) ?_
          have hm2 : m * 2 ^ (53 - bl m) < 18446744073709551616 := by
            have a : m * 2 ^ (53 - bl m) < 2 ^ bl m * 2 ^ (53 - bl m) := Nat.mul_lt_mul_of_pos_right hb.2.2 (Nat.two_pow_pos _)
            rw [← Nat.pow_add, show bl m + (53 - bl m) = 53 by omega] at a
            omega
          rw [show (64 : Int) - (bl m : Int) - 11 = ((53 - bl m : Nat) : Int) by omega, shl_ev _ _ (by omega) hm2, u64_and52 _ hm2]
          have h := fl_j3 s hs (m * 2 ^ (53 - bl m) % 4503599627370496) (1 - ((53 - bl m : Nat) : Int)) (Nat.mod_lt _ (by decide)) (by omega)
          rw [show (1 : Int) - ((53 - bl m : Nat) : Int) - 1023 = -1022 - ((53 - bl m : Nat) : Int) by omega] at h
          exact h
        · rw [if_neg h3]
          refine Ev.no (by omega) ?_
          exact fl_j3 s hs _ _ (Nat.mod_lt _ (by decide)) (by omega)
      by_cases h3 : m / 4503599627370496 = 0
      · refine Ev.yes (by omega) ?_
        by_cases h0 : m = 0
        · rw [if_pos h0]
          have : (((m % 4503599627370496 : Nat) : Int) == 0) = true := beq_iff_eq.2 (by omega)
          rw [this]
          exact zero h0
        · rw [if_neg h0]
          have : (((m % 4503599627370496 : Nat) : Int) == 0) = false := beq_eq_false_iff_ne.2 (by omega)
          rw [this]
          exact norm h0
      · refine Ev.no (by omega) ?_
        rw [if_neg (by omega)]
        exact norm (by omega)
theorem fl_j0 (b : Nat) (hb : b < 18446744073709551616) (s : List UInt8) (hs : s.length ≤ 1) : Ev (fun k => numtext_Float.j0 k (b : Int) (bs s)) (bs (floatM s (b % 9223372036854775808))) := by
  refine Ev.step (fun k => by rw [numtext_Float.j0]) ?_
  have e1 : (b : Int) / 4503599627370496 = ((b / 4503599627370496 : Nat) : Int) := by omega
  rw [e1, u64_and11 _ (by omega), u64_and52 _ hb, w64 (by omega) (by omega)]
  have e2 : b / 4503599627370496 % 2048 = b % 9223372036854775808 / 4503599627370496 := by omega
  have e3 : b % 4503599627370496 = b % 9223372036854775808 % 4503599627370496 := by omega
  rw [e2, e3]
  generalize hm : b % 9223372036854775808 = m
  have hm2 : m < 9223372036854775808 := by omega
  by_cases h : m / 4503599627370496 = 2047
  · refine Ev.yes (by omega) ?_
    refine fl_j1 s hs m hm2 _ ?_
    by_cases h0 : m % 4503599627370496 = 0
    · rw [decide_eq_false (by omega)]; simp [h0]
    · rw [decide_eq_true (by omega)]; exact bne_iff_ne.2 (by omega)
  · refine Ev.no (by omega) ?_
    exact fl_j1 s hs m hm2 _ (by rw [decide_eq_false (by omega)])
theorem float_ev (b : Nat) (hb : b < 18446744073709551616) : Ev (fun k => numtext_Float.f k (b : Int)) (bs (floatT b)) := by
  unfold numtext_Float.f floatT signT
  by_cases h : 9223372036854775808 ≤ b
  · rw [if_pos h]
    refine Ev.yes (by omega) ?_
    exact fl_j0 b hb [45] (by simp)
  · rw [if_neg h]
    refine Ev.no (by omega) ?_
    exact fl_j0 b hb [] (by simp)
end Go.Proofs.YtjolkombhdibcaaDoor.Sp
end
section
namespace Go.Proofs.YtjolkombhdibcaaDoor.Sp
open Go.RowKit Go.Proofs.YtjolkombhdibcaaDoorW.PrintWords Go.Proofs.YtjolkombhdibcaaDoorW.PrintMore Go.Proofs.YtjolkombhdibcaaDoor.Given Go.Proofs.YtjolkombhdibcaaDoor.Print
open Go.Lib (decDigits itoa nDigits)
set_option linter.unusedVariables false
set_option linter.unusedSimpArgs false
theorem int_f' {e : Int} (h : -9223372036854775808 ≤ e ∧ e ≤ 9223372036854775807) : numtext_Int.f e = some (bs (itoa e)) := by
  unfold numtext_Int.f strconv_FormatInt_33.f
  rw [if_pos ⟨by omega, by omega, rfl⟩]
  rfl
theorem parseInt_f (l : List UInt8) (hl : l.length ≤ 1000000) : numtext_ParseInt.f (bs l) = some (parseIntT l) := by
  unfold numtext_ParseInt.f
  rw [if_pos (by rw [bs_size]; unfold maxLen; omega)]
  show some (parseIntS l) = _
  rw [parseIntS_eq]
def Err0 (p : Int × Int) : Prop := p.2 ≠ 0 → p.1 = 0
theorem Err0.ok (b : Int) : Err0 (b, 0) := fun h => absurd rfl h
end Go.Proofs.YtjolkombhdibcaaDoor.Sp
end
section
namespace Go.Proofs.YtjolkombhdibcaaDoor.Print
open Go.RowKit Go.Proofs.YtjolkombhdibcaaDoor.Given Go.Proofs.YtjolkombhdibcaaDoorW.PrintWords Go.Proofs.YtjolkombhdibcaaDoorW.PrintLast Go.Proofs.YtjolkombhdibcaaDoorW.PrintMore
attribute [local go_sem] max2_int min2_int max_two min_two max_three min_three max_four min_four
set_option linter.unusedVariables false
set_option linter.unusedSimpArgs false
def lex_lower.f (a0 : Int) : Option (Bool) := if a0 ≥ 97 then (if a0 ≤ 122 then (some true) else (some (a0 == 95))) else (some (a0 == 95))
set_option maxHeartbeats 8000000 in
set_option maxRecDepth 100000 in
theorem lex_lower.calls (a0 : Int) (r : Bool) (w : World) (h : lex_lower.f a0 = some r) :
  Calls Tryd.prog 35 #[.int .u8 a0] w fun e w' => e = .returned (.bool r) ∧ Drawn0 w w' := by
 have H : (if a0 ≥ 97 then (if a0 ≤ 122 then (some true) else (some (a0 == 95))) else (some (a0 == 95))) = some r := h
 clear h
 by_cases c2 : a0 ≥ 97
 ·rw [if_pos c2] at H
  have c2b0 : decide (97 ≤ a0) = true := decide_eq_true c2
  clear c2
  by_cases c3 : a0 ≤ 122
  ·rw [if_pos c3] at H
   have c3b0 : decide (a0 ≤ 122) = true := decide_eq_true c3
   clear c3
   obtain rfl := Option.some.inj H
   go_enter Tryd.func35, Tryd.ntmps35
   go_wp2
   go_ret
   exact ⟨by first | rfl | (simp; done) | (simp [*]; done), by repeat (first | exact Drawn0.refl _ | apply Drawn0.step)⟩
  ·rw [if_neg c3] at H
   have c3b0 : decide (a0 ≤ 122) = false := decide_eq_false c3
   clear c3
   obtain rfl := Option.some.inj H
   go_enter Tryd.func35, Tryd.ntmps35
   go_wp2
   go_ret
   exact ⟨by first | rfl | (simp; done) | (simp [*]; done), by repeat (first | exact Drawn0.refl _ | apply Drawn0.step)⟩
 ·rw [if_neg c2] at H
  have c2b0 : decide (97 ≤ a0) = false := decide_eq_false c2
  clear c2
  obtain rfl := Option.some.inj H
  go_enter Tryd.func35, Tryd.ntmps35
  go_wp2
  go_ret
  exact ⟨by first | rfl | (simp; done) | (simp [*]; done), by repeat (first | exact Drawn0.refl _ | apply Drawn0.step)⟩
def slices_Index_string_string.l0 : Nat → List ByteArray → ByteArray → Int → Int → Option (Int)
 | 0, _, _, _, _ => none
 | k + 1, x0, x1, x7, x8 => if x8 < x7 then (if 0 ≤ x8 then (if x8 < (x0.length : Int) then (if x1.toList = (rdOf ByteArray.empty x0 x8).toList then (some x8) else (slices_Index_string_string.l0 k x0 x1 x7 (wrap64 (x8 + 1)))) else (none)) else (none)) else (some (-1))
def slices_Index_string_string.f (k : Nat) (l0 : List ByteArray) (a1 : ByteArray) : Option (Int) := slices_Index_string_string.l0 k l0 a1 (l0.length : Int) 0
set_option maxHeartbeats 8000000 in
set_option maxRecDepth 100000 in
theorem slices_Index_string_string.calls (k : Nat) (A0 : Option Addr) (c0 : Nat) (l0 : List ByteArray) (a1 : ByteArray) (r : Int) (w : World) (hr0 : Kd.C Kd.string w A0 l0.length l0) (hc0 : l0.length ≤ c0) (h : slices_Index_string_string.f k l0 a1 = some r) :
  Calls Tryd.prog 73 #[.slice A0 l0.length c0, .string a1] w fun e w' => e = .returned (.int .i64 r) ∧ Drawn0 w w' := by
 have HR0 := Aside0.mk hr0
 have HC0 := Aside0.mk hc0
 clear hr0 hc0
 have H : (slices_Index_string_string.l0 k l0 a1 (l0.length : Int) 0) = some r := h
 clear h
 have H' := Aside0.mk H
 clear H
 go_enter Tryd.func73, Tryd.ntmps73
 go_wp2
 go_loopg [8] k (fun kq v8 w' => ∃ (x8_1 : Int), v8 = .int .i64 x8_1 ∧ Aside0 (slices_Index_string_string.l0 kq l0 a1 (l0.length : Int) x8_1 = some r) ∧ Aside0 (kq ≤ k) ∧ Drawn0 w w')
 case atStart => exact ⟨(0), (by first | rfl | (simp; done) | (simp [*]; done)), H', ⟨Nat.le_refl _⟩, by repeat (first | exact Drawn0.refl _ | apply Drawn0.step)⟩
 case round =>
  clear H'
  try clear p2
  obtain ⟨x8_1, rfl, HA, HK1, ⟨m1, rfl⟩⟩ := hrel
  cases gk with
  | zero => exact absurd HA.out (by simp [slices_Index_string_string.l0])
  | succ k1 =>
   have H := HA.out
   clear HA
   simp only [slices_Index_string_string.l0] at H
   by_cases c3 : x8_1 < (l0.length : Int)
   ·rw [if_pos c3] at H
    have c3b0 : decide (x8_1 < (l0.length : Int)) = true := decide_eq_true c3
    clear c3
    by_cases c4 : 0 ≤ x8_1
    ·rw [if_pos c4] at H
     have c4b0 : decide (0 ≤ x8_1) = true := decide_eq_true c4
     clear c4
     by_cases c5 : x8_1 < (l0.length : Int)
     ·rw [if_pos c5] at H
      have c5b0 : decide (x8_1 < (l0.length : Int)) = true := decide_eq_true c5
      clear c5
      by_cases c6 : a1.toList = (rdOf ByteArray.empty l0 x8_1).toList
      ·rw [if_pos c6] at H
       have c6b0 : (a1.toList == (rdOf ByteArray.empty l0 x8_1).toList) = true := beq_iff_eq.mpr c6
       have c6b1 : (a1.toList != (rdOf ByteArray.empty l0 x8_1).toList) = false := bne_eq_false_iff_eq.mpr c6
       clear c6
       obtain rfl := Option.some.inj H
       have p170 : 0 ≤ (x8_1 : Int) := of_decide_eq_true (by first | (with_reducible assumption) | assumption)
       have q170 : x8_1 < (l0.length : Int) := of_decide_eq_true (by first | (with_reducible assumption) | assumption)
       obtain ⟨ad170, e170, hx170_0⟩ := Kd.at_string HR0.out x8_1 p170 q170
       cases e170
       replace p170 := eq_true p170
       replace q170 := eq_true q170
       go_wp2
       go_ret
       exact ⟨by first | rfl | (simp; done) | (simp [*]; done), by repeat (first | exact Drawn0.refl _ | apply Drawn0.step)⟩
      ·rw [if_neg c6] at H
       have c6b0 : (a1.toList == (rdOf ByteArray.empty l0 x8_1).toList) = false := beq_eq_false_iff_ne.mpr c6
       have c6b1 : (a1.toList != (rdOf ByteArray.empty l0 x8_1).toList) = true := bne_iff_ne.mpr c6
       have H' := Aside0.mk H
       clear H
       have p170 : 0 ≤ (x8_1 : Int) := of_decide_eq_true (by first | (with_reducible assumption) | assumption)
       have q170 : x8_1 < (l0.length : Int) := of_decide_eq_true (by first | (with_reducible assumption) | assumption)
       obtain ⟨ad170, e170, hx170_0⟩ := Kd.at_string HR0.out x8_1 p170 q170
       cases e170
       replace p170 := eq_true p170
       replace q170 := eq_true q170
       go_wp2
       go_roundg k1
       case measure => have := HK1.out; omega
       case rel => exact ⟨(wrap64 (x8_1 + 1)), (by first | rfl | (simp; done) | (simp [*]; done)), H', ⟨by have := HK1.out; omega⟩, by repeat (first | exact Drawn0.refl _ | apply Drawn0.step)⟩
     ·rw [if_neg c5] at H
      exact absurd H (by simp)
    ·rw [if_neg c4] at H
     exact absurd H (by simp)
   ·rw [if_neg c3] at H
    have c3b0 : decide (x8_1 < (l0.length : Int)) = false := decide_eq_false c3
    clear c3
    obtain rfl := Option.some.inj H
    go_wp2
    go_ret
    exact ⟨by first | rfl | (simp; done) | (simp [*]; done), by repeat (first | exact Drawn0.refl _ | apply Drawn0.step)⟩
def slices_Contains_string_string.f (k : Nat) (l0 : List ByteArray) (a1 : ByteArray) : Option (Bool) := (slices_Index_string_string.f k l0 a1).bind fun t171 => (some (decide (t171 ≥ 0)))
set_option maxHeartbeats 8000000 in
set_option maxRecDepth 100000 in
theorem slices_Contains_string_string.calls (k : Nat) (A0 : Option Addr) (c0 : Nat) (l0 : List ByteArray) (a1 : ByteArray) (r : Bool) (w : World) (hr0 : Kd.C Kd.string w A0 l0.length l0) (hc0 : l0.length ≤ c0) (h : slices_Contains_string_string.f k l0 a1 = some r) :
  Calls Tryd.prog 56 #[.slice A0 l0.length c0, .string a1] w fun e w' => e = .returned (.bool r) ∧ Drawn0 w w' := by
 have HR0 := Aside0.mk hr0
 have HC0 := Aside0.mk hc0
 clear hr0 hc0
 have H : ((slices_Index_string_string.f k l0 a1).bind fun t171 => (some (decide (t171 ≥ 0)))) = some r := h
 clear h
 replace H := Option.bind_eq_some_iff.mp H
 obtain ⟨t171, A30, H⟩ := H
 replace H : (some (decide (t171 ≥ 0))) = some r := H
 have A3 := Aside0.mk A30
 clear A30
 obtain rfl := Option.some.inj H
 go_enter Tryd.func56, Tryd.ntmps56
 go_wp2_with (first | ((with_reducible refine gate_callee (f := 73) rfl ?_); refine goesL_ (some 7) rfl rfl Tryd.func73 (by kernel_rfl) rfl #[.slice A0 l0.length c0, .string a1] rfl (by (try simp only [List.map_toArray, List.map_cons, List.map_nil]); first | done | rfl | (simp only [List.length_drop, List.length_take]; rfl)) ?_; (with_reducible refine (slices_Index_string_string.calls k _ _ l0 a1 t171 _ ?side1 ?side2 A3.out).mono ?_); (case side1 => repeat (first | exact HR0.out | (with_reducible refine Kd.C_alloc ?_ _) | (with_reducible refine Kd.C_drewN ?_ _) | (with_reducible refine Kd.C_drew ?_))); (case side2 => exact HC0.out); rintro e w' ⟨rfl, ⟨nd, rfl⟩⟩; refine ⟨_, rfl, ?_⟩))
 go_ret
 exact ⟨by first | rfl | (simp; done) | (simp [*]; done), by repeat (first | exact Drawn0.refl _ | apply Drawn0.step)⟩
def lex_words.f  : Option (List ByteArray) := some (([(⟨#[102, 110]⟩ : ByteArray), (⟨#[108, 101, 116]⟩ : ByteArray), (⟨#[105, 102]⟩ : ByteArray), (⟨#[101, 108, 115, 101]⟩ : ByteArray), (⟨#[119, 104, 105, 108, 101]⟩ : ByteArray), (⟨#[102, 111, 114]⟩ : ByteArray), (⟨#[105, 110]⟩ : ByteArray), (⟨#[98, 114, 101, 97, 107]⟩ : ByteArray), (⟨#[99, 111, 110, 116, 105, 110, 117, 101]⟩ : ByteArray), (⟨#[114, 101, 116, 117, 114, 110]⟩ : ByteArray), (⟨#[111, 117, 116]⟩ : ByteArray), (⟨#[97, 110, 100]⟩ : ByteArray), (⟨#[111, 114]⟩ : ByteArray), (⟨#[110, 111, 116]⟩ : ByteArray), (⟨#[116, 114, 117, 101]⟩ : ByteArray), (⟨#[102, 97, 108, 115, 101]⟩ : ByteArray), (⟨#[110, 105, 108]⟩ : ByteArray)] : List ByteArray))
set_option maxHeartbeats 8000000 in
set_option maxRecDepth 100000 in
theorem lex_words.calls  (r : List ByteArray) (w : World) (h : lex_words.f  = some r) :
  Calls Tryd.prog 57 #[] w fun e w' => ∃ v0_ : Value, e = .returned (v0_) ∧ Kd.R Kd.string 9 w' w.heap.size (fun _ => True) v0_ r ∧ Below w.heap.size w w' := by
 have HB := Aside0.mk (Below.refl w.heap.size w)
 have H : (some (([(⟨#[102, 110]⟩ : ByteArray), (⟨#[108, 101, 116]⟩ : ByteArray), (⟨#[105, 102]⟩ : ByteArray), (⟨#[101, 108, 115, 101]⟩ : ByteArray), (⟨#[119, 104, 105, 108, 101]⟩ : ByteArray), (⟨#[102, 111, 114]⟩ : ByteArray), (⟨#[105, 110]⟩ : ByteArray), (⟨#[98, 114, 101, 97, 107]⟩ : ByteArray), (⟨#[99, 111, 110, 116, 105, 110, 117, 101]⟩ : ByteArray), (⟨#[114, 101, 116, 117, 114, 110]⟩ : ByteArray), (⟨#[111, 117, 116]⟩ : ByteArray), (⟨#[97, 110, 100]⟩ : ByteArray), (⟨#[111, 114]⟩ : ByteArray), (⟨#[110, 111, 116]⟩ : ByteArray), (⟨#[116, 114, 117, 101]⟩ : ByteArray), (⟨#[102, 97, 108, 115, 101]⟩ : ByteArray), (⟨#[110, 105, 108]⟩ : ByteArray)] : List ByteArray))) = some r := h
 clear h
 obtain ⟨y172, hy172⟩ : ∃ y_ : List ByteArray, y_ = (([(⟨#[102, 110]⟩ : ByteArray), (⟨#[108, 101, 116]⟩ : ByteArray), (⟨#[105, 102]⟩ : ByteArray), (⟨#[101, 108, 115, 101]⟩ : ByteArray), (⟨#[119, 104, 105, 108, 101]⟩ : ByteArray), (⟨#[102, 111, 114]⟩ : ByteArray), (⟨#[105, 110]⟩ : ByteArray), (⟨#[98, 114, 101, 97, 107]⟩ : ByteArray), (⟨#[99, 111, 110, 116, 105, 110, 117, 101]⟩ : ByteArray), (⟨#[114, 101, 116, 117, 114, 110]⟩ : ByteArray), (⟨#[111, 117, 116]⟩ : ByteArray), (⟨#[97, 110, 100]⟩ : ByteArray), (⟨#[111, 114]⟩ : ByteArray), (⟨#[110, 111, 116]⟩ : ByteArray), (⟨#[116, 114, 117, 101]⟩ : ByteArray), (⟨#[102, 97, 108, 115, 101]⟩ : ByteArray), (⟨#[110, 105, 108]⟩ : ByteArray)] : List ByteArray)) := ⟨_, rfl⟩
 replace H : (some y172) = some r := by first | (rw [hy172]; with_reducible exact H) | (have H2_ := (Option.bind_some _ _).symm.trans H; rw [hy172]; with_reducible exact H2_) | (have H2_ := (Option.bind_some _ _).symm.trans H; with_reducible exact H2_) | with_reducible exact H | (rw [hy172]; exact H) | exact H
 have Ny172 := Aside0.mk hy172
 clear hy172
 obtain rfl := Option.some.inj H
 go_enter Tryd.func57, Tryd.ntmps57
 go_wp2_with (first | ((with_reducible refine gate_dst (N := 1) rfl ?_); refine Kd.R_lit Kd.string _ 9 ?hg (N := 1) ?hd (xs := ([(⟨#[102, 110]⟩ : ByteArray), (⟨#[108, 101, 116]⟩ : ByteArray), (⟨#[105, 102]⟩ : ByteArray), (⟨#[101, 108, 115, 101]⟩ : ByteArray), (⟨#[119, 104, 105, 108, 101]⟩ : ByteArray), (⟨#[102, 111, 114]⟩ : ByteArray), (⟨#[105, 110]⟩ : ByteArray), (⟨#[98, 114, 101, 97, 107]⟩ : ByteArray), (⟨#[99, 111, 110, 116, 105, 110, 117, 101]⟩ : ByteArray), (⟨#[114, 101, 116, 117, 114, 110]⟩ : ByteArray), (⟨#[111, 117, 116]⟩ : ByteArray), (⟨#[97, 110, 100]⟩ : ByteArray), (⟨#[111, 114]⟩ : ByteArray), (⟨#[110, 111, 116]⟩ : ByteArray), (⟨#[116, 114, 117, 101]⟩ : ByteArray), (⟨#[102, 97, 108, 115, 101]⟩ : ByteArray), (⟨#[110, 105, 108]⟩ : ByteArray)] : List ByteArray)) (inner := [.string (⟨#[102, 110]⟩ : ByteArray), .string (⟨#[108, 101, 116]⟩ : ByteArray), .string (⟨#[105, 102]⟩ : ByteArray), .string (⟨#[101, 108, 115, 101]⟩ : ByteArray), .string (⟨#[119, 104, 105, 108, 101]⟩ : ByteArray), .string (⟨#[102, 111, 114]⟩ : ByteArray), .string (⟨#[105, 110]⟩ : ByteArray), .string (⟨#[98, 114, 101, 97, 107]⟩ : ByteArray), .string (⟨#[99, 111, 110, 116, 105, 110, 117, 101]⟩ : ByteArray), .string (⟨#[114, 101, 116, 117, 114, 110]⟩ : ByteArray), .string (⟨#[111, 117, 116]⟩ : ByteArray), .string (⟨#[97, 110, 100]⟩ : ByteArray), .string (⟨#[111, 114]⟩ : ByteArray), .string (⟨#[110, 111, 116]⟩ : ByteArray), .string (⟨#[116, 114, 117, 101]⟩ : ByteArray), .string (⟨#[102, 97, 108, 115, 101]⟩ : ByteArray), .string (⟨#[110, 105, 108]⟩ : ByteArray)]) (ok := fun _ => True) (okp := fun _ => True) ?hr ?hp (fun _ hk => hk) trivial (Below.refl _ _) (Nat.le_refl _) (by simp) ?_; (case hd => rfl); (case hg => rfl); (case hr => first | (go_simp; done) | (go_simp; rfl)); (case hp => exact (Reps.one (show Kd.M Kd.string _ _ _ (⟨#[102, 110]⟩ : ByteArray) [.string (⟨#[102, 110]⟩ : ByteArray)] from rfl) (Reps.one (show Kd.M Kd.string _ _ _ (⟨#[108, 101, 116]⟩ : ByteArray) [.string (⟨#[108, 101, 116]⟩ : ByteArray)] from rfl) (Reps.one (show Kd.M Kd.string _ _ _ (⟨#[105, 102]⟩ : ByteArray) [.string (⟨#[105, 102]⟩ : ByteArray)] from rfl) (Reps.one (show Kd.M Kd.string _ _ _ (⟨#[101, 108, 115, 101]⟩ : ByteArray) [.string (⟨#[101, 108, 115, 101]⟩ : ByteArray)] from rfl) (Reps.one (show Kd.M Kd.string _ _ _ (⟨#[119, 104, 105, 108, 101]⟩ : ByteArray) [.string (⟨#[119, 104, 105, 108, 101]⟩ : ByteArray)] from rfl) (Reps.one (show Kd.M Kd.string _ _ _ (⟨#[102, 111, 114]⟩ : ByteArray) [.string (⟨#[102, 111, 114]⟩ : ByteArray)] from rfl) (Reps.one (show Kd.M Kd.string _ _ _ (⟨#[105, 110]⟩ : ByteArray) [.string (⟨#[105, 110]⟩ : ByteArray)] from rfl) (Reps.one (show Kd.M Kd.string _ _ _ (⟨#[98, 114, 101, 97, 107]⟩ : ByteArray) [.string (⟨#[98, 114, 101, 97, 107]⟩ : ByteArray)] from rfl) (Reps.one (show Kd.M Kd.string _ _ _ (⟨#[99, 111, 110, 116, 105, 110, 117, 101]⟩ : ByteArray) [.string (⟨#[99, 111, 110, 116, 105, 110, 117, 101]⟩ : ByteArray)] from rfl) (Reps.one (show Kd.M Kd.string _ _ _ (⟨#[114, 101, 116, 117, 114, 110]⟩ : ByteArray) [.string (⟨#[114, 101, 116, 117, 114, 110]⟩ : ByteArray)] from rfl) (Reps.one (show Kd.M Kd.string _ _ _ (⟨#[111, 117, 116]⟩ : ByteArray) [.string (⟨#[111, 117, 116]⟩ : ByteArray)] from rfl) (Reps.one (show Kd.M Kd.string _ _ _ (⟨#[97, 110, 100]⟩ : ByteArray) [.string (⟨#[97, 110, 100]⟩ : ByteArray)] from rfl) (Reps.one (show Kd.M Kd.string _ _ _ (⟨#[111, 114]⟩ : ByteArray) [.string (⟨#[111, 114]⟩ : ByteArray)] from rfl) (Reps.one (show Kd.M Kd.string _ _ _ (⟨#[110, 111, 116]⟩ : ByteArray) [.string (⟨#[110, 111, 116]⟩ : ByteArray)] from rfl) (Reps.one (show Kd.M Kd.string _ _ _ (⟨#[116, 114, 117, 101]⟩ : ByteArray) [.string (⟨#[116, 114, 117, 101]⟩ : ByteArray)] from rfl) (Reps.one (show Kd.M Kd.string _ _ _ (⟨#[102, 97, 108, 115, 101]⟩ : ByteArray) [.string (⟨#[102, 97, 108, 115, 101]⟩ : ByteArray)] from rfl) (Reps.one (show Kd.M Kd.string _ _ _ (⟨#[110, 105, 108]⟩ : ByteArray) [.string (⟨#[110, 105, 108]⟩ : ByteArray)] from rfl) (Reps.none _ _))))))))))))))))))); intro v173 w1 ho2 hb hg_ hnew_; clear hg_ hnew_; (first | rw [← Ny172.out] at ho2 | (simp only [Int.reduceToNat] at ho2; rw [← Ny172.out] at ho2)); have n0_ := Aside0.mk (Kd.R_lower ho2 (below_size (by repeat (first | (with_reducible first | exact HB.out | apply below_alloc | apply pw_below_drewN | apply below_drew1) | exact HB.out)))); have n1_ := Aside0.mk (below_step (by repeat (first | (with_reducible first | exact HB.out | apply below_alloc | apply pw_below_drewN | apply below_drew1) | exact HB.out)) hb); clear HB; have HO174 := n0_; have HB := n1_; clear n0_ n1_; clear hb ho2))
 go_ret
 exact ⟨_, by first | rfl | (simp [errW_none, errW_some] <;> rfl) | (simp [*, errW_none, errW_some] <;> rfl), by (with_reducible repeat (first | apply Kd.R_alloc | apply Kd.R_drewN | apply Kd.R_drew)); exact HO174.out, by repeat (first | (with_reducible first | exact HB.out | apply below_alloc | apply pw_below_drewN | apply below_drew1) | exact HB.out)⟩
def lex_name.j0 : Nat → Int → Bool → Int → Int → ByteArray → Int → Int → Option (Int × Int × ByteArray × Int × Int × Int × Int)
 | 0, _, _, _, _, _, _, _ => none
 | k + 1, x5, x16, x178000, x178001, x178002, x178003, x178004 => if x16 = true then ((numtext_ParseFloat.f k x178002).bind fun bt178 => (some (5, x178001, (⟨#[]⟩ : ByteArray), x178003, bt178.1, x5, 0))) else ((lex_words.f).bind fun t180 => ((slices_Contains_string_string.f k t180 x178002).bind fun t183 => (if t183 = true then (some (2, x178001, x178002, x178003, x178004, x5, 0)) else (some (x178000, x178001, x178002, x178003, x178004, x5, 0)))))
def lex_name.f (k : Nat) (a0 : ByteArray) : Option (Int × Int × ByteArray × Int × Int × Int × Int) := (lex_run.f a0 0 8800000055).bind fun t176 => (if t176 > 31 then (some (0, 0, (⟨#[]⟩ : ByteArray), 0, 0, 0, 63)) else (if 0 ≤ t176 then (if t176 ≤ (a0.size : Int) then (if (a0.extract 0 (t176 : Int).toNat).toList = ([105, 110, 102] : List UInt8) then (lex_name.j0 k t176 true 1 0 (a0.extract 0 (t176 : Int).toNat) 0 0) else (lex_name.j0 k t176 ((a0.extract 0 (t176 : Int).toNat).toList == ([110, 97, 110] : List UInt8)) 1 0 (a0.extract 0 (t176 : Int).toNat) 0 0)) else (none)) else (none)))
set_option maxHeartbeats 8000000 in
set_option maxRecDepth 100000 in
theorem lex_name.calls (k : Nat) (a0 : ByteArray) (r1 : Int) (r2 : Int) (r3 : ByteArray) (r4 : Int) (r5 : Int) (r6 : Int) (r7 : Int) (w : World) (hG : Glob w) (h : lex_name.f k a0 = some (r1, r2, r3, r4, r5, r6, r7)) :
  Calls Tryd.prog 36 #[.string a0] w fun e w' => e = .returned (.tuple #[.agg #[.int .i64 r1, .int .i64 r2, .string r3, .int .i64 r4, .int .u64 r5], .int .i64 r6, .int .i64 r7]) ∧ Below w.heap.size w w' := by
 have HG0 := Aside0.mk hG
 clear hG
 have hu30 := Tryd.underlying30
 have HB := Aside0.mk (Below.refl w.heap.size w)
 have H : ((lex_run.f a0 0 8800000055).bind fun t176 => (if t176 > 31 then (some (0, 0, (⟨#[]⟩ : ByteArray), 0, 0, 0, 63)) else (if 0 ≤ t176 then (if t176 ≤ (a0.size : Int) then (if (a0.extract 0 (t176 : Int).toNat).toList = ([105, 110, 102] : List UInt8) then (lex_name.j0 k t176 true 1 0 (a0.extract 0 (t176 : Int).toNat) 0 0) else (lex_name.j0 k t176 ((a0.extract 0 (t176 : Int).toNat).toList == ([110, 97, 110] : List UInt8)) 1 0 (a0.extract 0 (t176 : Int).toNat) 0 0)) else (none)) else (none)))) = some (r1, r2, r3, r4, r5, r6, r7) := h
 clear h
 replace H := Option.bind_eq_some_iff.mp H
 obtain ⟨t176, A20, H⟩ := H
 replace H : (if t176 > 31 then (some (0, 0, (⟨#[]⟩ : ByteArray), 0, 0, 0, 63)) else (if 0 ≤ t176 then (if t176 ≤ (a0.size : Int) then (if (a0.extract 0 (t176 : Int).toNat).toList = ([105, 110, 102] : List UInt8) then (lex_name.j0 k t176 true 1 0 (a0.extract 0 (t176 : Int).toNat) 0 0) else (lex_name.j0 k t176 ((a0.extract 0 (t176 : Int).toNat).toList == ([110, 97, 110] : List UInt8)) 1 0 (a0.extract 0 (t176 : Int).toNat) 0 0)) else (none)) else (none))) = some (r1, r2, r3, r4, r5, r6, r7) := H
 have A2 := Aside0.mk A20
 clear A20
 by_cases c3 : t176 > 31
 ·rw [if_pos c3] at H
  have c3b0 : decide (31 < t176) = true := decide_eq_true c3
  clear c3
  simp only [Option.some.injEq, Prod.mk.injEq] at H
  obtain ⟨rfl, rfl, rfl, rfl, rfl, rfl, rfl⟩ := H
  go_enter Tryd.func36, Tryd.ntmps36
  go_wp2_with (first | ((with_reducible refine gate_dst (N := 2) rfl ?_); refine box_event ?hg (N := 2) ?hd (cs := #[.int .i64 0, .int .i64 0, .string (⟨#[]⟩ : ByteArray), .int .i64 0, .int .u64 0]) (t := 30) ?hr ?_; (case hd => rfl); (case hg => rfl); (case hr => first | (go_simp; done) | (go_simp; rfl)); intro gb175 hg w4 hbox hb; have n0_ := Aside0.mk (below_step (by repeat (first | (with_reducible first | exact HB.out | apply below_alloc | apply pw_below_drewN | apply below_drew1) | exact HB.out)) hb); have n1_ := Aside0.mk (hbox); have n2_ := Aside0.mk ((by rw [hg]; exact (below_size (by repeat (first | (with_reducible first | exact HB.out | apply below_alloc | apply pw_below_drewN | apply below_drew1) | exact HB.out))) : w.heap.size ≤ gb175)); have n3_ := Aside0.mk ((by rw [hg]; exact (below_size (by repeat (first | (with_reducible first | exact HB.out | apply below_alloc | apply pw_below_drewN | apply below_drew1) | exact HB.out))) : w.heap.size ≤ gb175)); clear HB; have HB := n0_; have BK175 := n1_; have GW175 := n2_; have GE175 := n3_; clear n0_ n1_ n2_ n3_; clear hb hbox hg) | ((with_reducible refine gate_callee (f := 18) rfl ?_); refine goesL_ (some 8) rfl rfl Tryd.func18 (by kernel_rfl) rfl #[.string a0, .int .i64 0, .func (.func 55) #[] #[]] rfl (by (try simp only [List.map_toArray, List.map_cons, List.map_nil]); first | done | rfl | (simp only [List.length_drop, List.length_take]; rfl)) ?_; (with_reducible refine (lex_run.calls55 a0 0 t176 _ A2.out).mono ?_); rintro e w' ⟨rfl, ⟨nd, rfl⟩⟩; refine ⟨_, rfl, ?_⟩; (try (rw [drewN_self w4]; generalize hq_ : World.drewN w4 _ = w4; have n0_ : Aside0 (w4.heap[gb175]? = some (.cells #[.int .i64 0, .int .i64 0, .string (⟨#[]⟩ : ByteArray), .int .i64 0, .int .u64 0] 30 (0, 0))) := ⟨by rw [← hq_]; exact (by (with_reducible repeat (first | refine blk_drewN ?_ _ | refine blk_drew ?_ | refine blk_alloc ?_ _)); exact BK175.out)⟩; have n1_ : Aside0 (Below w.heap.size w w4) := ⟨by rw [← hq_]; exact (by repeat (first | (with_reducible first | exact HB.out | apply below_alloc | apply pw_below_drewN | apply below_drew1 | refine below_set ?_ GE175.out) | exact HB.out))⟩; clear BK175 HB hq_; have BK175 := n0_; have HB := n1_; clear n0_ n1_)); have hcz5_0 : w4.cell? ⟨gb175, 0, none⟩ = some (.int .i64 0) := (blk_cell BK175.out 0).trans rfl; have hcz5_1 : w4.cell? ⟨gb175, 1, none⟩ = some (.int .i64 0) := (blk_cell BK175.out 1).trans rfl; have hcz5_2 : w4.cell? ⟨gb175, 2, none⟩ = some (.string (⟨#[]⟩ : ByteArray)) := (blk_cell BK175.out 2).trans rfl; have hcz5_3 : w4.cell? ⟨gb175, 3, none⟩ = some (.int .i64 0) := (blk_cell BK175.out 3).trans rfl; have hcz5_4 : w4.cell? ⟨gb175, 4, none⟩ = some (.int .u64 0) := (blk_cell BK175.out 4).trans rfl; have hfz5_0 := blk_frozen BK175.out 0; have hfz5_1 := blk_frozen BK175.out 1; have hfz5_2 := blk_frozen BK175.out 2; have hfz5_3 := blk_frozen BK175.out 3; have hfz5_4 := blk_frozen BK175.out 4))
  refine bodyPost_ret (results_ctt rfl _ _ gb175 30 #[.int .i64 0, .int .i64 0, .string (⟨#[]⟩ : ByteArray), .int .i64 0, .int .u64 0] (0, 0) _ rfl (by (with_reducible repeat (first | refine blk_drewN ?_ _ | refine blk_drew ?_ | refine blk_alloc ?_ _)); refine blk_put (cs := #[.int .i64 0, .int .i64 0, .string (⟨#[]⟩ : ByteArray), .int .i64 0, .int .u64 0]) ?_ 4 _ rfl; (with_reducible repeat (first | refine blk_drewN ?_ _ | refine blk_drew ?_ | refine blk_alloc ?_ _)); refine blk_put (cs := #[.int .i64 0, .int .i64 0, .string (⟨#[]⟩ : ByteArray), .int .i64 0, .int .u64 0]) ?_ 3 _ rfl; (with_reducible repeat (first | refine blk_drewN ?_ _ | refine blk_drew ?_ | refine blk_alloc ?_ _)); refine blk_put (cs := #[.int .i64 0, .int .i64 0, .string (⟨#[]⟩ : ByteArray), .int .i64 0, .int .u64 0]) ?_ 2 _ rfl; (with_reducible repeat (first | refine blk_drewN ?_ _ | refine blk_drew ?_ | refine blk_alloc ?_ _)); refine blk_put (cs := #[.int .i64 0, .int .i64 0, .string (⟨#[]⟩ : ByteArray), .int .i64 0, .int .u64 0]) ?_ 1 _ rfl; (with_reducible repeat (first | refine blk_drewN ?_ _ | refine blk_drew ?_ | refine blk_alloc ?_ _)); refine blk_put (cs := #[.int .i64 0, .int .i64 0, .string (⟨#[]⟩ : ByteArray), .int .i64 0, .int .u64 0]) ?_ 0 _ rfl; (with_reducible repeat (first | refine blk_drewN ?_ _ | refine blk_drew ?_ | refine blk_alloc ?_ _)); exact BK175.out) Tryd.underlying30 rfl (by kernel_rfl)) rfl ?_
  exact ⟨by first | rfl | (simp [errW_none, errW_some] <;> rfl) | (simp [*, errW_none, errW_some] <;> rfl), by repeat (first | (with_reducible first | exact HB.out | apply below_alloc | apply pw_below_drewN | apply below_drew1 | refine below_set ?_ GE175.out) | exact HB.out)⟩
 ·rw [if_neg c3] at H
  have c3b0 : decide (31 < t176) = false := decide_eq_false c3
  clear c3
  by_cases c6 : 0 ≤ t176
  ·rw [if_pos c6] at H
   have c6b0 := eq_true c6
   have c6b1 : decide (0 ≤ t176) = true := decide_eq_true c6
   clear c6
   by_cases c7 : t176 ≤ (a0.size : Int)
   ·rw [if_pos c7] at H
    have c7b0 := eq_true c7
    have c7b1 : decide (t176 ≤ (a0.size : Int)) = true := decide_eq_true c7
    clear c7
    have HC8 := Aside0.mk H
    clear H
    go_enter Tryd.func36, Tryd.ntmps36
    go_upto_region 5 with (first | ((with_reducible refine gate_dst (N := 2) rfl ?_); refine box_event ?hg (N := 2) ?hd (cs := #[.int .i64 0, .int .i64 0, .string (⟨#[]⟩ : ByteArray), .int .i64 0, .int .u64 0]) (t := 30) ?hr ?_; (case hd => rfl); (case hg => rfl); (case hr => first | (go_simp; done) | (go_simp; rfl)); intro gb175 hg w9 hbox hb; have n0_ := Aside0.mk (below_step (by repeat (first | (with_reducible first | exact HB.out | apply below_alloc | apply pw_below_drewN | apply below_drew1) | exact HB.out)) hb); have n1_ := Aside0.mk (hbox); have n2_ := Aside0.mk ((by rw [hg]; exact (below_size (by repeat (first | (with_reducible first | exact HB.out | apply below_alloc | apply pw_below_drewN | apply below_drew1) | exact HB.out))) : w.heap.size ≤ gb175)); have n3_ := Aside0.mk ((by rw [hg]; exact (below_size (by repeat (first | (with_reducible first | exact HB.out | apply below_alloc | apply pw_below_drewN | apply below_drew1) | exact HB.out))) : w.heap.size ≤ gb175)); clear HB; have HB := n0_; have BK175 := n1_; have GW175 := n2_; have GE175 := n3_; clear n0_ n1_ n2_ n3_; clear hb hbox hg) | ((with_reducible refine gate_callee (f := 18) rfl ?_); refine goesL_ (some 8) rfl rfl Tryd.func18 (by kernel_rfl) rfl #[.string a0, .int .i64 0, .func (.func 55) #[] #[]] rfl (by (try simp only [List.map_toArray, List.map_cons, List.map_nil]); first | done | rfl | (simp only [List.length_drop, List.length_take]; rfl)) ?_; (with_reducible refine (lex_run.calls55 a0 0 t176 _ A2.out).mono ?_); rintro e w' ⟨rfl, ⟨nd, rfl⟩⟩; refine ⟨_, rfl, ?_⟩; (try (rw [drewN_self w9]; generalize hq_ : World.drewN w9 _ = w9; have n0_ : Aside0 (w9.heap[gb175]? = some (.cells #[.int .i64 0, .int .i64 0, .string (⟨#[]⟩ : ByteArray), .int .i64 0, .int .u64 0] 30 (0, 0))) := ⟨by rw [← hq_]; exact (by (with_reducible repeat (first | refine blk_drewN ?_ _ | refine blk_drew ?_ | refine blk_alloc ?_ _)); exact BK175.out)⟩; have n1_ : Aside0 (Below w.heap.size w w9) := ⟨by rw [← hq_]; exact (by repeat (first | (with_reducible first | exact HB.out | apply below_alloc | apply pw_below_drewN | apply below_drew1 | refine below_set ?_ GE175.out) | exact HB.out))⟩; clear BK175 HB hq_; have BK175 := n0_; have HB := n1_; clear n0_ n1_))) | ((with_reducible refine gate_dst (N := 6) rfl ?_); refine box_event ?hg (N := 6) ?hd (cs := #[.int .i64 0, .int .i64 0, .string (⟨#[]⟩ : ByteArray), .int .i64 0, .int .u64 0]) (t := 30) ?hr ?_; (case hd => rfl); (case hg => rfl); (case hr => first | (go_simp; done) | (go_simp; rfl)); intro gb177 hg w10 hbox hb; have n0_ := Aside0.mk (blk_below (g := gb175) (o := .cells #[.int .i64 0, .int .i64 0, .string (⟨#[]⟩ : ByteArray), .int .i64 0, .int .u64 0] 30 (0, 0)) (by (with_reducible repeat (first | refine blk_drewN ?_ _ | refine blk_drew ?_ | refine blk_alloc ?_ _)); exact BK175.out) hb); have n1_ := Aside0.mk (below_step (by repeat (first | (with_reducible first | exact HB.out | apply below_alloc | apply pw_below_drewN | apply below_drew1 | refine below_set ?_ GE175.out) | exact HB.out)) hb); have n2_ := Aside0.mk (hbox); have n3_ := Aside0.mk ((by rw [hg]; exact (below_size (by repeat (first | (with_reducible first | exact HB.out | apply below_alloc | apply pw_below_drewN | apply below_drew1 | refine below_set ?_ GE175.out) | exact HB.out))) : w.heap.size ≤ gb177)); have n4_ := Aside0.mk ((by rw [hg]; exact (below_size (by repeat (first | (with_reducible first | exact HB.out | apply below_alloc | apply pw_below_drewN | apply below_drew1 | refine below_set ?_ GE175.out) | exact HB.out))) : w.heap.size ≤ gb177)); have n5_ := Aside0.mk ((by rw [hg]; exact Nat.ne_of_lt (blk_lt (g := gb175) (o := .cells #[.int .i64 0, .int .i64 0, .string (⟨#[]⟩ : ByteArray), .int .i64 0, .int .u64 0] 30 (0, 0)) (by (with_reducible repeat (first | refine blk_drewN ?_ _ | refine blk_drew ?_ | refine blk_alloc ?_ _)); exact BK175.out)) : gb175 ≠ gb177)); have n6_ := Aside0.mk ((by rw [hg]; exact Nat.ne_of_gt (blk_lt (g := gb175) (o := .cells #[.int .i64 0, .int .i64 0, .string (⟨#[]⟩ : ByteArray), .int .i64 0, .int .u64 0] 30 (0, 0)) (by (with_reducible repeat (first | refine blk_drewN ?_ _ | refine blk_drew ?_ | refine blk_alloc ?_ _)); exact BK175.out)) : gb177 ≠ gb175)); clear BK175; clear HB; have BK175 := n0_; have HB := n1_; have BK177 := n2_; have GW177 := n3_; have GE177 := n4_; have NB175_177 := n5_; have NB177_175 := n6_; clear n0_ n1_ n2_ n3_ n4_ n5_ n6_; clear hb hbox hg; have hnb11 := NB177_175.out; have hnc11 := NB175_177.out; have hcz12_0 : w10.cell? ⟨gb177, 0, none⟩ = some (.int .i64 0) := (blk_cell BK177.out 0).trans rfl; have hcz12_1 : w10.cell? ⟨gb177, 1, none⟩ = some (.int .i64 0) := (blk_cell BK177.out 1).trans rfl; have hcz12_2 : w10.cell? ⟨gb177, 2, none⟩ = some (.string (⟨#[]⟩ : ByteArray)) := (blk_cell BK177.out 2).trans rfl; have hcz12_3 : w10.cell? ⟨gb177, 3, none⟩ = some (.int .i64 0) := (blk_cell BK177.out 3).trans rfl; have hcz12_4 : w10.cell? ⟨gb177, 4, none⟩ = some (.int .u64 0) := (blk_cell BK177.out 4).trans rfl; have hfz12_0 := blk_frozen BK177.out 0; have hfz12_1 := blk_frozen BK177.out 1; have hfz12_2 := blk_frozen BK177.out 2; have hfz12_3 := blk_frozen BK177.out 3; have hfz12_4 := blk_frozen BK177.out 4))
    (try simp only [Act.put, List.setIfInBounds_toArray, List.set_cons_zero, List.set_cons_succ])
    go_cut [16] (fun v16 wc => ∃ (kq : Nat) (x16_7 : Bool), v16 = .bool x16_7 ∧ Aside0 (lex_name.j0 kq t176 x16_7 1 0 (a0.extract 0 (t176 : Int).toNat) 0 0 = some (r1, r2, r3, r4, r5, r6, r7)) ∧ Aside0 (kq ≤ k) ∧ Aside0 (wc.heap[gb175]? = some (.cells #[.int .i64 0, .int .i64 0, .string (⟨#[]⟩ : ByteArray), .int .i64 0, .int .u64 0] 30 (0, 0))) ∧ Aside0 (wc.heap[gb177]? = some (.cells #[.int .i64 1, .int .i64 0, .string (a0.extract 0 (t176 : Int).toNat), .int .i64 0, .int .u64 0] 30 (0, 0))) ∧ Aside0 (Below w.heap.size w wc))
    case first =>
     have H := HC8.out
     clear HC8
     by_cases c13 : (a0.extract 0 (t176 : Int).toNat).toList = ([105, 110, 102] : List UInt8)
     ·rw [if_pos c13] at H
      have c13b0 : ((a0.extract 0 (t176 : Int).toNat).toList == ([105, 110, 102] : List UInt8)) = true := beq_iff_eq.mpr c13
      have c13b1 : ((a0.extract 0 (t176 : Int).toNat).toList != ([105, 110, 102] : List UInt8)) = false := bne_eq_false_iff_eq.mpr c13
      clear c13
      (first | rw [c13b0] | (simp only [i64_w, i32_w]; rw [c13b0]) | skip)
      have H' := Aside0.mk H
      clear H
      have hnb14 := NB177_175.out
      have hnc14 := NB175_177.out
      have hcz15_0 : w10.cell? ⟨gb177, 0, none⟩ = some (.int .i64 0) := (blk_cell BK177.out 0).trans rfl
      have hcz15_1 : w10.cell? ⟨gb177, 1, none⟩ = some (.int .i64 0) := (blk_cell BK177.out 1).trans rfl
      have hcz15_2 : w10.cell? ⟨gb177, 2, none⟩ = some (.string (⟨#[]⟩ : ByteArray)) := (blk_cell BK177.out 2).trans rfl
      have hcz15_3 : w10.cell? ⟨gb177, 3, none⟩ = some (.int .i64 0) := (blk_cell BK177.out 3).trans rfl
      have hcz15_4 : w10.cell? ⟨gb177, 4, none⟩ = some (.int .u64 0) := (blk_cell BK177.out 4).trans rfl
      have hfz15_0 := blk_frozen BK177.out 0
      have hfz15_1 := blk_frozen BK177.out 1
      have hfz15_2 := blk_frozen BK177.out 2
      have hfz15_3 := blk_frozen BK177.out 3
      have hfz15_4 := blk_frozen BK177.out 4
      go_wp2
      go_meet
      case rel => exact ⟨_, (true), (by first | rfl | (simp; done) | (simp [*]; done)), H', ⟨by first | omega | exact Nat.le_refl _⟩, ⟨by (with_reducible repeat (first | refine blk_drewN ?_ _ | refine blk_drew ?_ | refine blk_alloc ?_ _)); refine blk_far ?_ NB175_177.out _; (with_reducible repeat (first | refine blk_drewN ?_ _ | refine blk_drew ?_ | refine blk_alloc ?_ _)); refine blk_far ?_ NB175_177.out _; (with_reducible repeat (first | refine blk_drewN ?_ _ | refine blk_drew ?_ | refine blk_alloc ?_ _)); refine blk_far ?_ NB175_177.out _; (with_reducible repeat (first | refine blk_drewN ?_ _ | refine blk_drew ?_ | refine blk_alloc ?_ _)); refine blk_far ?_ NB175_177.out _; (with_reducible repeat (first | refine blk_drewN ?_ _ | refine blk_drew ?_ | refine blk_alloc ?_ _)); refine blk_far ?_ NB175_177.out _; (with_reducible repeat (first | refine blk_drewN ?_ _ | refine blk_drew ?_ | refine blk_alloc ?_ _)); exact BK175.out⟩, ⟨by (with_reducible repeat (first | refine blk_drewN ?_ _ | refine blk_drew ?_ | refine blk_alloc ?_ _)); refine blk_put (cs := #[.int .i64 1, .int .i64 0, .string (a0.extract 0 (t176 : Int).toNat), .int .i64 0, .int .u64 0]) ?_ 4 _ rfl; (with_reducible repeat (first | refine blk_drewN ?_ _ | refine blk_drew ?_ | refine blk_alloc ?_ _)); refine blk_put (cs := #[.int .i64 1, .int .i64 0, .string (a0.extract 0 (t176 : Int).toNat), .int .i64 0, .int .u64 0]) ?_ 3 _ rfl; (with_reducible repeat (first | refine blk_drewN ?_ _ | refine blk_drew ?_ | refine blk_alloc ?_ _)); refine blk_put (cs := #[.int .i64 1, .int .i64 0, .string (⟨#[]⟩ : ByteArray), .int .i64 0, .int .u64 0]) ?_ 2 _ rfl; (with_reducible repeat (first | refine blk_drewN ?_ _ | refine blk_drew ?_ | refine blk_alloc ?_ _)); refine blk_put (cs := #[.int .i64 1, .int .i64 0, .string (⟨#[]⟩ : ByteArray), .int .i64 0, .int .u64 0]) ?_ 1 _ rfl; (with_reducible repeat (first | refine blk_drewN ?_ _ | refine blk_drew ?_ | refine blk_alloc ?_ _)); refine blk_put (cs := #[.int .i64 0, .int .i64 0, .string (⟨#[]⟩ : ByteArray), .int .i64 0, .int .u64 0]) ?_ 0 _ rfl; (with_reducible repeat (first | refine blk_drewN ?_ _ | refine blk_drew ?_ | refine blk_alloc ?_ _)); exact BK177.out⟩, ⟨by repeat (first | (with_reducible first | exact HB.out | apply below_alloc | apply pw_below_drewN | apply below_drew1 | refine below_set ?_ GE175.out | refine below_set ?_ GE177.out) | exact HB.out)⟩⟩
     ·rw [if_neg c13] at H
      have c13b0 : ((a0.extract 0 (t176 : Int).toNat).toList == ([105, 110, 102] : List UInt8)) = false := beq_eq_false_iff_ne.mpr c13
      have c13b1 : ((a0.extract 0 (t176 : Int).toNat).toList != ([105, 110, 102] : List UInt8)) = true := bne_iff_ne.mpr c13
      (first | rw [c13b0] | (simp only [i64_w, i32_w]; rw [c13b0]) | skip)
      have H' := Aside0.mk H
      clear H
      have hnb16 := NB177_175.out
      have hnc16 := NB175_177.out
      have hcz17_0 : w10.cell? ⟨gb177, 0, none⟩ = some (.int .i64 0) := (blk_cell BK177.out 0).trans rfl
      have hcz17_1 : w10.cell? ⟨gb177, 1, none⟩ = some (.int .i64 0) := (blk_cell BK177.out 1).trans rfl
      have hcz17_2 : w10.cell? ⟨gb177, 2, none⟩ = some (.string (⟨#[]⟩ : ByteArray)) := (blk_cell BK177.out 2).trans rfl
      have hcz17_3 : w10.cell? ⟨gb177, 3, none⟩ = some (.int .i64 0) := (blk_cell BK177.out 3).trans rfl
      have hcz17_4 : w10.cell? ⟨gb177, 4, none⟩ = some (.int .u64 0) := (blk_cell BK177.out 4).trans rfl
      have hfz17_0 := blk_frozen BK177.out 0
      have hfz17_1 := blk_frozen BK177.out 1
      have hfz17_2 := blk_frozen BK177.out 2
      have hfz17_3 := blk_frozen BK177.out 3
      have hfz17_4 := blk_frozen BK177.out 4
      go_wp2
      go_meet
      case rel => exact ⟨_, (((a0.extract 0 (t176 : Int).toNat).toList == ([110, 97, 110] : List UInt8))), (by first | rfl | (simp; done) | (simp [*]; done)), H', ⟨by first | omega | exact Nat.le_refl _⟩, ⟨by (with_reducible repeat (first | refine blk_drewN ?_ _ | refine blk_drew ?_ | refine blk_alloc ?_ _)); refine blk_far ?_ NB175_177.out _; (with_reducible repeat (first | refine blk_drewN ?_ _ | refine blk_drew ?_ | refine blk_alloc ?_ _)); refine blk_far ?_ NB175_177.out _; (with_reducible repeat (first | refine blk_drewN ?_ _ | refine blk_drew ?_ | refine blk_alloc ?_ _)); refine blk_far ?_ NB175_177.out _; (with_reducible repeat (first | refine blk_drewN ?_ _ | refine blk_drew ?_ | refine blk_alloc ?_ _)); refine blk_far ?_ NB175_177.out _; (with_reducible repeat (first | refine blk_drewN ?_ _ | refine blk_drew ?_ | refine blk_alloc ?_ _)); refine blk_far ?_ NB175_177.out _; (with_reducible repeat (first | refine blk_drewN ?_ _ | refine blk_drew ?_ | refine blk_alloc ?_ _)); exact BK175.out⟩, ⟨by (with_reducible repeat (first | refine blk_drewN ?_ _ | refine blk_drew ?_ | refine blk_alloc ?_ _)); refine blk_put (cs := #[.int .i64 1, .int .i64 0, .string (a0.extract 0 (t176 : Int).toNat), .int .i64 0, .int .u64 0]) ?_ 4 _ rfl; (with_reducible repeat (first | refine blk_drewN ?_ _ | refine blk_drew ?_ | refine blk_alloc ?_ _)); refine blk_put (cs := #[.int .i64 1, .int .i64 0, .string (a0.extract 0 (t176 : Int).toNat), .int .i64 0, .int .u64 0]) ?_ 3 _ rfl; (with_reducible repeat (first | refine blk_drewN ?_ _ | refine blk_drew ?_ | refine blk_alloc ?_ _)); refine blk_put (cs := #[.int .i64 1, .int .i64 0, .string (⟨#[]⟩ : ByteArray), .int .i64 0, .int .u64 0]) ?_ 2 _ rfl; (with_reducible repeat (first | refine blk_drewN ?_ _ | refine blk_drew ?_ | refine blk_alloc ?_ _)); refine blk_put (cs := #[.int .i64 1, .int .i64 0, .string (⟨#[]⟩ : ByteArray), .int .i64 0, .int .u64 0]) ?_ 1 _ rfl; (with_reducible repeat (first | refine blk_drewN ?_ _ | refine blk_drew ?_ | refine blk_alloc ?_ _)); refine blk_put (cs := #[.int .i64 0, .int .i64 0, .string (⟨#[]⟩ : ByteArray), .int .i64 0, .int .u64 0]) ?_ 0 _ rfl; (with_reducible repeat (first | refine blk_drewN ?_ _ | refine blk_drew ?_ | refine blk_alloc ?_ _)); exact BK177.out⟩, ⟨by repeat (first | (with_reducible first | exact HB.out | apply below_alloc | apply pw_below_drewN | apply below_drew1 | refine below_set ?_ GE175.out | refine below_set ?_ GE177.out) | exact HB.out)⟩⟩
    case rest =>
     clear HC8
     try clear c1
     try clear p2
     try clear c3
     try clear c3b0
     try clear c6
     try clear c6b0
     try clear c6b1
     try clear c7
     try clear c7b0
     try clear c7b1
     try clear c11
     try clear c13
     try clear c13b0
     try clear c13b1
     try clear c14
     try clear c16
     try clear hcz12_0
     try clear hcz12_1
     try clear hcz12_2
     try clear hcz12_3
     try clear hcz12_4
     try clear hcz15_0
     try clear hcz15_1
     try clear hcz15_2
     try clear hcz15_3
     try clear hcz15_4
     try clear hcz17_0
     try clear hcz17_1
     try clear hcz17_2
     try clear hcz17_3
     try clear hcz17_4
     try clear hcz5_0
     try clear hcz5_1
     try clear hcz5_2
     try clear hcz5_3
     try clear hcz5_4
     try clear hfz12_0
     try clear hfz12_1
     try clear hfz12_2
     try clear hfz12_3
     try clear hfz12_4
     try clear hfz15_0
     try clear hfz15_1
     try clear hfz15_2
     try clear hfz15_3
     try clear hfz15_4
     try clear hfz17_0
     try clear hfz17_1
     try clear hfz17_2
     try clear hfz17_3
     try clear hfz17_4
     try clear hfz5_0
     try clear hfz5_1
     try clear hfz5_2
     try clear hfz5_3
     try clear hfz5_4
     obtain ⟨kq, x16_7, rfl, HA, HJ7, BK175, BK177, HB⟩ := hcut
     cases kq with
     | zero => exact absurd HA.out (by simp [lex_name.j0])
     | succ kj7 =>
      have H := HA.out
      clear HA
      simp only [lex_name.j0] at H
      by_cases c18 : x16_7 = true
      ·subst c18
       have H1 : ((numtext_ParseFloat.f kj7 (a0.extract 0 (t176 : Int).toNat)).bind fun bt178 => (some (5, 0, (⟨#[]⟩ : ByteArray), 0, bt178.1, t176, 0))) = some (r1, r2, r3, r4, r5, r6, r7) := by rw [if_pos rfl] at H; exact H
       clear H
       have H := H1
       clear H1
       replace H := Option.bind_eq_some_iff.mp H
       obtain ⟨⟨t178, t179⟩, A190, H⟩ := H
       replace H : (some (5, 0, (⟨#[]⟩ : ByteArray), 0, t178, t176, 0)) = some (r1, r2, r3, r4, r5, r6, r7) := H
       have A19 := Aside0.mk A190
       clear A190
       simp only [Option.some.injEq, Prod.mk.injEq] at H
       obtain ⟨rfl, rfl, rfl, rfl, rfl, rfl, rfl⟩ := H
       have hnb20 := NB177_175.out
       have hnc20 := NB175_177.out
       have hcz21_0 : wc.cell? ⟨gb177, 0, none⟩ = some (.int .i64 1) := (blk_cell BK177.out 0).trans rfl
       have hcz21_1 : wc.cell? ⟨gb177, 1, none⟩ = some (.int .i64 0) := (blk_cell BK177.out 1).trans rfl
       have hcz21_2 : wc.cell? ⟨gb177, 2, none⟩ = some (.string (a0.extract 0 (t176 : Int).toNat)) := (blk_cell BK177.out 2).trans rfl
       have hcz21_3 : wc.cell? ⟨gb177, 3, none⟩ = some (.int .i64 0) := (blk_cell BK177.out 3).trans rfl
       have hcz21_4 : wc.cell? ⟨gb177, 4, none⟩ = some (.int .u64 0) := (blk_cell BK177.out 4).trans rfl
       have hfz21_0 := blk_frozen BK177.out 0
       have hfz21_1 := blk_frozen BK177.out 1
       have hfz21_2 := blk_frozen BK177.out 2
       have hfz21_3 := blk_frozen BK177.out 3
       have hfz21_4 := blk_frozen BK177.out 4
       go_wp2_with (first | ((with_reducible refine gate_callee (f := 14) rfl ?_); refine goesL_ (some 29) rfl rfl Tryd.func14 (by kernel_rfl) rfl #[.string (a0.extract 0 (t176 : Int).toNat)] rfl (by (try simp only [List.map_toArray, List.map_cons, List.map_nil]); first | done | rfl | (simp only [List.length_drop, List.length_take]; rfl)) ?_; (with_reducible refine (numtext_ParseFloat.calls (hG := (by first | exact Glob.at_ HG0.out (by repeat (first | (with_reducible first | exact HB.out | apply below_alloc | apply pw_below_drewN | apply below_drew1 | refine below_set ?_ GE175.out | refine below_set ?_ GE177.out) | exact HB.out)) | exact Glob.at_ HG0.out (Below.refl _ _))) kj7 (a0.extract 0 (t176 : Int).toNat) t178 t179 _ A19.out).mono ?_); rintro e w22 ⟨rfl, hb⟩; refine ⟨_, rfl, ?_⟩; have n0_ := Aside0.mk (blk_below (g := gb175) (o := .cells #[.int .i64 0, .int .i64 0, .string (⟨#[]⟩ : ByteArray), .int .i64 0, .int .u64 0] 30 (0, 0)) (by (with_reducible repeat (first | refine blk_drewN ?_ _ | refine blk_drew ?_ | refine blk_alloc ?_ _)); refine blk_far ?_ NB175_177.out _; (with_reducible repeat (first | refine blk_drewN ?_ _ | refine blk_drew ?_ | refine blk_alloc ?_ _)); exact BK175.out) hb); have n1_ := Aside0.mk (blk_below (g := gb177) (o := .cells #[.int .i64 5, .int .i64 0, .string (a0.extract 0 (t176 : Int).toNat), .int .i64 0, .int .u64 0] 30 (0, 0)) (by (with_reducible repeat (first | refine blk_drewN ?_ _ | refine blk_drew ?_ | refine blk_alloc ?_ _)); refine blk_put (cs := #[.int .i64 1, .int .i64 0, .string (a0.extract 0 (t176 : Int).toNat), .int .i64 0, .int .u64 0]) ?_ 0 _ rfl; (with_reducible repeat (first | refine blk_drewN ?_ _ | refine blk_drew ?_ | refine blk_alloc ?_ _)); exact BK177.out) hb); have n2_ := Aside0.mk (below_step (by repeat (first | (with_reducible first | exact HB.out | apply below_alloc | apply pw_below_drewN | apply below_drew1 | refine below_set ?_ GE175.out | refine below_set ?_ GE177.out) | exact HB.out)) hb); clear BK175; clear BK177; clear HB; have BK175 := n0_; have BK177 := n1_; have HB := n2_; clear n0_ n1_ n2_; (try clear hb); (try clear hb2); (try clear hk); (try clear hi); have hcz23_0 : w22.cell? ⟨gb177, 0, none⟩ = some (.int .i64 5) := (blk_cell BK177.out 0).trans rfl; have hcz23_1 : w22.cell? ⟨gb177, 1, none⟩ = some (.int .i64 0) := (blk_cell BK177.out 1).trans rfl; have hcz23_2 : w22.cell? ⟨gb177, 2, none⟩ = some (.string (a0.extract 0 (t176 : Int).toNat)) := (blk_cell BK177.out 2).trans rfl; have hcz23_3 : w22.cell? ⟨gb177, 3, none⟩ = some (.int .i64 0) := (blk_cell BK177.out 3).trans rfl; have hcz23_4 : w22.cell? ⟨gb177, 4, none⟩ = some (.int .u64 0) := (blk_cell BK177.out 4).trans rfl; have hfz23_0 := blk_frozen BK177.out 0; have hfz23_1 := blk_frozen BK177.out 1; have hfz23_2 := blk_frozen BK177.out 2; have hfz23_3 := blk_frozen BK177.out 3; have hfz23_4 := blk_frozen BK177.out 4; have hcz24_0 : w22.cell? ⟨gb175, 0, none⟩ = some (.int .i64 0) := (blk_cell BK175.out 0).trans rfl; have hcz24_1 : w22.cell? ⟨gb175, 1, none⟩ = some (.int .i64 0) := (blk_cell BK175.out 1).trans rfl; have hcz24_2 : w22.cell? ⟨gb175, 2, none⟩ = some (.string (⟨#[]⟩ : ByteArray)) := (blk_cell BK175.out 2).trans rfl; have hcz24_3 : w22.cell? ⟨gb175, 3, none⟩ = some (.int .i64 0) := (blk_cell BK175.out 3).trans rfl; have hcz24_4 : w22.cell? ⟨gb175, 4, none⟩ = some (.int .u64 0) := (blk_cell BK175.out 4).trans rfl; have hfz24_0 := blk_frozen BK175.out 0; have hfz24_1 := blk_frozen BK175.out 1; have hfz24_2 := blk_frozen BK175.out 2; have hfz24_3 := blk_frozen BK175.out 3; have hfz24_4 := blk_frozen BK175.out 4))
       refine bodyPost_ret (results_ctt rfl _ _ gb175 30 #[.int .i64 5, .int .i64 0, .string (⟨#[]⟩ : ByteArray), .int .i64 0, .int .u64 t178] (0, 0) _ rfl (by (with_reducible repeat (first | refine blk_drewN ?_ _ | refine blk_drew ?_ | refine blk_alloc ?_ _)); refine blk_put (cs := #[.int .i64 5, .int .i64 0, .string (⟨#[]⟩ : ByteArray), .int .i64 0, .int .u64 0]) ?_ 4 _ rfl; (with_reducible repeat (first | refine blk_drewN ?_ _ | refine blk_drew ?_ | refine blk_alloc ?_ _)); refine blk_put (cs := #[.int .i64 5, .int .i64 0, .string (⟨#[]⟩ : ByteArray), .int .i64 0, .int .u64 0]) ?_ 3 _ rfl; (with_reducible repeat (first | refine blk_drewN ?_ _ | refine blk_drew ?_ | refine blk_alloc ?_ _)); refine blk_put (cs := #[.int .i64 5, .int .i64 0, .string (⟨#[]⟩ : ByteArray), .int .i64 0, .int .u64 0]) ?_ 2 _ rfl; (with_reducible repeat (first | refine blk_drewN ?_ _ | refine blk_drew ?_ | refine blk_alloc ?_ _)); refine blk_put (cs := #[.int .i64 5, .int .i64 0, .string (⟨#[]⟩ : ByteArray), .int .i64 0, .int .u64 0]) ?_ 1 _ rfl; (with_reducible repeat (first | refine blk_drewN ?_ _ | refine blk_drew ?_ | refine blk_alloc ?_ _)); refine blk_put (cs := #[.int .i64 0, .int .i64 0, .string (⟨#[]⟩ : ByteArray), .int .i64 0, .int .u64 0]) ?_ 0 _ rfl; (with_reducible repeat (first | refine blk_drewN ?_ _ | refine blk_drew ?_ | refine blk_alloc ?_ _)); refine blk_far ?_ NB175_177.out _; (with_reducible repeat (first | refine blk_drewN ?_ _ | refine blk_drew ?_ | refine blk_alloc ?_ _)); refine blk_far ?_ NB175_177.out _; (with_reducible repeat (first | refine blk_drewN ?_ _ | refine blk_drew ?_ | refine blk_alloc ?_ _)); exact BK175.out) Tryd.underlying30 rfl (by kernel_rfl)) rfl ?_
       exact ⟨by first | rfl | (simp [errW_none, errW_some] <;> rfl) | (simp [*, errW_none, errW_some] <;> rfl), by repeat (first | (with_reducible first | exact HB.out | apply below_alloc | apply pw_below_drewN | apply below_drew1 | refine below_set ?_ GE175.out | refine below_set ?_ GE177.out) | exact HB.out)⟩
      ·replace c18 := Bool.eq_false_iff.mpr c18
       subst c18
       have H1 : ((lex_words.f).bind fun t180 => ((slices_Contains_string_string.f kj7 t180 (a0.extract 0 (t176 : Int).toNat)).bind fun t183 => (if t183 = true then (some (2, 0, (a0.extract 0 (t176 : Int).toNat), 0, 0, t176, 0)) else (some (1, 0, (a0.extract 0 (t176 : Int).toNat), 0, 0, t176, 0))))) = some (r1, r2, r3, r4, r5, r6, r7) := by rw [if_neg (show ¬ (false = true) by decide)] at H; exact H
       clear H
       have H := H1
       clear H1
       replace H := Option.bind_eq_some_iff.mp H
       obtain ⟨t180, A250, H⟩ := H
       replace H : ((slices_Contains_string_string.f kj7 t180 (a0.extract 0 (t176 : Int).toNat)).bind fun t183 => (if t183 = true then (some (2, 0, (a0.extract 0 (t176 : Int).toNat), 0, 0, t176, 0)) else (some (1, 0, (a0.extract 0 (t176 : Int).toNat), 0, 0, t176, 0)))) = some (r1, r2, r3, r4, r5, r6, r7) := H
       have A25 := Aside0.mk A250
       clear A250
       replace H := Option.bind_eq_some_iff.mp H
       obtain ⟨t183, A260, H⟩ := H
       replace H : (if t183 = true then (some (2, 0, (a0.extract 0 (t176 : Int).toNat), 0, 0, t176, 0)) else (some (1, 0, (a0.extract 0 (t176 : Int).toNat), 0, 0, t176, 0))) = some (r1, r2, r3, r4, r5, r6, r7) := H
       have A26 := Aside0.mk A260
       clear A260
       by_cases c27 : t183 = true
       ·subst c27
        have H1 : (some (2, 0, (a0.extract 0 (t176 : Int).toNat), 0, 0, t176, 0)) = some (r1, r2, r3, r4, r5, r6, r7) := by rw [if_pos rfl] at H; exact H
        clear H
        have H := H1
        clear H1
        simp only [Option.some.injEq, Prod.mk.injEq] at H
        obtain ⟨rfl, rfl, rfl, rfl, rfl, rfl, rfl⟩ := H
        try go_wp2
        have n0_ := Aside0.mk (blk_drew BK175.out)
        have n1_ := Aside0.mk (blk_drew BK177.out)
        have n2_ := Aside0.mk (below_drew1 HB.out)
        clear BK175
        clear BK177
        clear HB
        have BK175 := n0_
        have BK177 := n1_
        have HB := n2_
        clear n0_ n1_ n2_
        refine start_ (n := 5) (S := fun w' => w'.cell? ⟨gb177, 0, none⟩ = some (.int .i64 1) ∧ w'.cell? ⟨gb177, 1, none⟩ = some (.int .i64 0) ∧ w'.cell? ⟨gb177, 2, none⟩ = some (.string (a0.extract 0 (t176 : Int).toNat)) ∧ w'.cell? ⟨gb177, 3, none⟩ = some (.int .i64 0) ∧ w'.cell? ⟨gb177, 4, none⟩ = some (.int .u64 0)) (ds := []) #[false, false, false, false, false] (by kernel_rfl) rfl rfl ⟨(blk_cell BK177.out 0).trans rfl, (blk_cell BK177.out 1).trans rfl, (blk_cell BK177.out 2).trans rfl, (blk_cell BK177.out 3).trans rfl, (blk_cell BK177.out 4).trans rfl⟩ (fun hHeld => ?_)
        generalize wc.drew = w28 at BK175 BK177 HB hHeld ⊢
        refine pure_ (i := 1) (N := some 36) (v := ?_) (a' := ?_) #[false, true, false, false, false] rfl rfl (by kernel_rfl) (fun _ _ _ h => h) (Or.inl ⟨by rfl, ?_⟩) ?_ ?_
        rotate_left
        ·intro w'
         go_simp
         with_reducible rfl
        rotate_left
        ·simp only [Act.put, List.setIfInBounds_toArray, List.set_cons_zero, List.set_cons_succ, i64_w, i32_w]
         rfl
        refine take_ (i := 2) (N := some 37) (v := ?_) (a' := ?_) #[false, true, true, false, false] rfl rfl (by kernel_rfl) (fun _ _ _ h => h) (Or.inl ⟨by rfl, ?_⟩) hHeld ?_ ?_
        rotate_left
        ·rintro w' ⟨s0, s1, s2, s3, s4⟩
         go_simp
         with_reducible rfl
        rotate_left
        ·simp only [Act.put, List.setIfInBounds_toArray, List.set_cons_zero, List.set_cons_succ, i64_w, i32_w]
         rfl
        refine one_ (i := 0) (N := some 35) #[true, true, true, false, false] rfl rfl (by kernel_rfl) (by decide) (fun K hK => ?_)
        refine goes_ Tryd.func57 (by kernel_rfl) rfl #[] (by rfl) rfl rfl (by (try simp only [List.map_toArray, List.map_cons, List.map_nil]); first | done | rfl | (simp only [List.length_drop, List.length_take]; rfl)) ?_
        with_reducible refine (lex_words.calls  t180 _ A25.out).mono ?_
        rintro e w29 ⟨v181, rfl, ho0, hb⟩
        refine ⟨_, rfl, ?_⟩
        have n0_ := Aside0.mk (Kd.R_lower ho0 (below_size (by repeat (first | (with_reducible first | exact HB.out | apply below_alloc | apply pw_below_drewN | apply below_drew1 | refine below_set ?_ GE175.out | refine below_set ?_ GE177.out) | exact HB.out))))
        have n1_ := Aside0.mk (blk_below (g := gb175) (o := .cells #[.int .i64 0, .int .i64 0, .string (⟨#[]⟩ : ByteArray), .int .i64 0, .int .u64 0] 30 (0, 0)) (by (with_reducible repeat (first | refine blk_drewN ?_ _ | refine blk_drew ?_ | refine blk_alloc ?_ _)); exact BK175.out) hb)
        have n2_ := Aside0.mk (blk_below (g := gb177) (o := .cells #[.int .i64 1, .int .i64 0, .string (a0.extract 0 (t176 : Int).toNat), .int .i64 0, .int .u64 0] 30 (0, 0)) (by (with_reducible repeat (first | refine blk_drewN ?_ _ | refine blk_drew ?_ | refine blk_alloc ?_ _)); exact BK177.out) hb)
        have n3_ := Aside0.mk (below_step (by repeat (first | (with_reducible first | exact HB.out | apply below_alloc | apply pw_below_drewN | apply below_drew1 | refine below_set ?_ GE175.out | refine below_set ?_ GE177.out) | exact HB.out)) hb)
        clear BK175
        clear BK177
        clear HB
        have HO182 := n0_
        have BK175 := n1_
        have BK177 := n2_
        have HB := n3_
        clear n0_ n1_ n2_ n3_
        (try clear hb)
        (try clear hb2)
        (try clear hk)
        (try clear hi)
        (try clear ho0)
        obtain ⟨Ao30, co30, eo30⟩ := Kd.R_slice HO182.out
        (first | subst eo30 | (injection eo30 with f1_ f2_ f3_; have f4_ := f1_.symm; have f5_ := f3_.symm; clear f1_ f2_ f3_; subst f4_; subst f5_))
        refine hK.out _ _ ⟨(blk_cell BK177.out 0).trans rfl, (blk_cell BK177.out 1).trans rfl, (blk_cell BK177.out 2).trans rfl, (blk_cell BK177.out 3).trans rfl, (blk_cell BK177.out 4).trans rfl⟩ (fun hHeld => ?_)
        clear hK K
        refine norm_ (a' := ?_) ?_ ?_
        rotate_left
        ·show Act.put _ (some 35) _ = _
         simp only [Act.put, List.setIfInBounds_toArray, List.set_cons_zero, List.set_cons_succ, i64_w, i32_w]
         rfl
        refine one_ (i := 3) (N := some 38) #[true, true, true, true, false] rfl rfl (by kernel_rfl) (by decide) (fun K hK => ?_)
        refine goes_ Tryd.func56 (by kernel_rfl) rfl #[.slice Ao30 t180.length co30, .string (a0.extract 0 (t176 : Int).toNat)] (by rfl) rfl rfl (by (try simp only [List.map_toArray, List.map_cons, List.map_nil]); first | done | rfl | (simp only [List.length_drop, List.length_take]; rfl)) ?_
        with_reducible refine (slices_Contains_string_string.calls kj7 _ _ t180 (a0.extract 0 (t176 : Int).toNat) true _ ?side1 ?side2 A26.out).mono ?_
        (case side1 => repeat (first | exact (Kd.R_reads' HO182.out).2.2 | (with_reducible refine Kd.C_alloc ?_ _) | (with_reducible refine Kd.C_drewN ?_ _) | (with_reducible refine Kd.C_drew ?_)))
        (case side2 => exact (Kd.R_reads' HO182.out).2.1)
        rintro e w' ⟨rfl, ⟨nd, rfl⟩⟩
        refine ⟨_, rfl, ?_⟩
        refine hK.out _ _ ⟨(blk_cell BK177.out 0).trans rfl, (blk_cell BK177.out 1).trans rfl, (blk_cell BK177.out 2).trans rfl, (blk_cell BK177.out 3).trans rfl, (blk_cell BK177.out 4).trans rfl⟩ (fun hHeld => ?_)
        clear hK K
        refine norm_ (a' := ?_) ?_ ?_
        rotate_left
        ·show Act.put _ (some 38) _ = _
         simp only [Act.put, List.setIfInBounds_toArray, List.set_cons_zero, List.set_cons_succ, i64_w, i32_w]
         rfl
        refine pure_ (i := 4) (N := some 34) (v := ?_) (a' := ?_) #[true, true, true, true, true] rfl rfl (by kernel_rfl) (fun _ _ _ h => h) (Or.inl ⟨by rfl, ?_⟩) ?_ ?_
        rotate_left
        ·intro w'
         go_simp
         with_reducible rfl
        rotate_left
        ·simp only [Act.put, List.setIfInBounds_toArray, List.set_cons_zero, List.set_cons_succ, i64_w, i32_w]
         rfl
        refine done_ (by kernel_rfl) ?_
        have hnb31 := NB177_175.out
        have hnc31 := NB175_177.out
        have hcz32_0 : w29.cell? ⟨gb177, 0, none⟩ = some (.int .i64 1) := (blk_cell BK177.out 0).trans rfl
        have hcz32_1 : w29.cell? ⟨gb177, 1, none⟩ = some (.int .i64 0) := (blk_cell BK177.out 1).trans rfl
        have hcz32_2 : w29.cell? ⟨gb177, 2, none⟩ = some (.string (a0.extract 0 (t176 : Int).toNat)) := (blk_cell BK177.out 2).trans rfl
        have hcz32_3 : w29.cell? ⟨gb177, 3, none⟩ = some (.int .i64 0) := (blk_cell BK177.out 3).trans rfl
        have hcz32_4 : w29.cell? ⟨gb177, 4, none⟩ = some (.int .u64 0) := (blk_cell BK177.out 4).trans rfl
        have hfz32_0 := blk_frozen BK177.out 0
        have hfz32_1 := blk_frozen BK177.out 1
        have hfz32_2 := blk_frozen BK177.out 2
        have hfz32_3 := blk_frozen BK177.out 3
        have hfz32_4 := blk_frozen BK177.out 4
        have hcz33_0 : w29.cell? ⟨gb175, 0, none⟩ = some (.int .i64 0) := (blk_cell BK175.out 0).trans rfl
        have hcz33_1 : w29.cell? ⟨gb175, 1, none⟩ = some (.int .i64 0) := (blk_cell BK175.out 1).trans rfl
        have hcz33_2 : w29.cell? ⟨gb175, 2, none⟩ = some (.string (⟨#[]⟩ : ByteArray)) := (blk_cell BK175.out 2).trans rfl
        have hcz33_3 : w29.cell? ⟨gb175, 3, none⟩ = some (.int .i64 0) := (blk_cell BK175.out 3).trans rfl
        have hcz33_4 : w29.cell? ⟨gb175, 4, none⟩ = some (.int .u64 0) := (blk_cell BK175.out 4).trans rfl
        have hfz33_0 := blk_frozen BK175.out 0
        have hfz33_1 := blk_frozen BK175.out 1
        have hfz33_2 := blk_frozen BK175.out 2
        have hfz33_3 := blk_frozen BK175.out 3
        have hfz33_4 := blk_frozen BK175.out 4
        try go_wp2
        refine bodyPost_ret (results_ctt rfl _ _ gb175 30 #[.int .i64 2, .int .i64 0, .string (a0.extract 0 (t176 : Int).toNat), .int .i64 0, .int .u64 0] (0, 0) _ rfl (by (with_reducible repeat (first | refine blk_drewN ?_ _ | refine blk_drew ?_ | refine blk_alloc ?_ _)); refine blk_put (cs := #[.int .i64 2, .int .i64 0, .string (a0.extract 0 (t176 : Int).toNat), .int .i64 0, .int .u64 0]) ?_ 4 _ rfl; (with_reducible repeat (first | refine blk_drewN ?_ _ | refine blk_drew ?_ | refine blk_alloc ?_ _)); refine blk_put (cs := #[.int .i64 2, .int .i64 0, .string (a0.extract 0 (t176 : Int).toNat), .int .i64 0, .int .u64 0]) ?_ 3 _ rfl; (with_reducible repeat (first | refine blk_drewN ?_ _ | refine blk_drew ?_ | refine blk_alloc ?_ _)); refine blk_put (cs := #[.int .i64 2, .int .i64 0, .string (⟨#[]⟩ : ByteArray), .int .i64 0, .int .u64 0]) ?_ 2 _ rfl; (with_reducible repeat (first | refine blk_drewN ?_ _ | refine blk_drew ?_ | refine blk_alloc ?_ _)); refine blk_put (cs := #[.int .i64 2, .int .i64 0, .string (⟨#[]⟩ : ByteArray), .int .i64 0, .int .u64 0]) ?_ 1 _ rfl; (with_reducible repeat (first | refine blk_drewN ?_ _ | refine blk_drew ?_ | refine blk_alloc ?_ _)); refine blk_put (cs := #[.int .i64 0, .int .i64 0, .string (⟨#[]⟩ : ByteArray), .int .i64 0, .int .u64 0]) ?_ 0 _ rfl; (with_reducible repeat (first | refine blk_drewN ?_ _ | refine blk_drew ?_ | refine blk_alloc ?_ _)); refine blk_far ?_ NB175_177.out _; (with_reducible repeat (first | refine blk_drewN ?_ _ | refine blk_drew ?_ | refine blk_alloc ?_ _)); exact BK175.out) Tryd.underlying30 rfl (by kernel_rfl)) rfl ?_
        exact ⟨by first | rfl | (simp [errW_none, errW_some] <;> rfl) | (simp [*, errW_none, errW_some] <;> rfl), by repeat (first | (with_reducible first | exact HB.out | apply below_alloc | apply pw_below_drewN | apply below_drew1 | refine below_set ?_ GE175.out | refine below_set ?_ GE177.out) | exact HB.out)⟩
       ·replace c27 := Bool.eq_false_iff.mpr c27
        subst c27
        have H1 : (some (1, 0, (a0.extract 0 (t176 : Int).toNat), 0, 0, t176, 0)) = some (r1, r2, r3, r4, r5, r6, r7) := by rw [if_neg (show ¬ (false = true) by decide)] at H; exact H
        clear H
        have H := H1
        clear H1
        simp only [Option.some.injEq, Prod.mk.injEq] at H
        obtain ⟨rfl, rfl, rfl, rfl, rfl, rfl, rfl⟩ := H
        try go_wp2
        have n0_ := Aside0.mk (blk_drew BK175.out)
        have n1_ := Aside0.mk (blk_drew BK177.out)
        have n2_ := Aside0.mk (below_drew1 HB.out)
        clear BK175
        clear BK177
        clear HB
        have BK175 := n0_
        have BK177 := n1_
        have HB := n2_
        clear n0_ n1_ n2_
        refine start_ (n := 5) (S := fun w' => w'.cell? ⟨gb177, 0, none⟩ = some (.int .i64 1) ∧ w'.cell? ⟨gb177, 1, none⟩ = some (.int .i64 0) ∧ w'.cell? ⟨gb177, 2, none⟩ = some (.string (a0.extract 0 (t176 : Int).toNat)) ∧ w'.cell? ⟨gb177, 3, none⟩ = some (.int .i64 0) ∧ w'.cell? ⟨gb177, 4, none⟩ = some (.int .u64 0)) (ds := []) #[false, false, false, false, false] (by kernel_rfl) rfl rfl ⟨(blk_cell BK177.out 0).trans rfl, (blk_cell BK177.out 1).trans rfl, (blk_cell BK177.out 2).trans rfl, (blk_cell BK177.out 3).trans rfl, (blk_cell BK177.out 4).trans rfl⟩ (fun hHeld => ?_)
        generalize wc.drew = w34 at BK175 BK177 HB hHeld ⊢
        refine pure_ (i := 1) (N := some 36) (v := ?_) (a' := ?_) #[false, true, false, false, false] rfl rfl (by kernel_rfl) (fun _ _ _ h => h) (Or.inl ⟨by rfl, ?_⟩) ?_ ?_
        rotate_left
        ·intro w'
         go_simp
         with_reducible rfl
        rotate_left
        ·simp only [Act.put, List.setIfInBounds_toArray, List.set_cons_zero, List.set_cons_succ, i64_w, i32_w]
         rfl
        refine take_ (i := 2) (N := some 37) (v := ?_) (a' := ?_) #[false, true, true, false, false] rfl rfl (by kernel_rfl) (fun _ _ _ h => h) (Or.inl ⟨by rfl, ?_⟩) hHeld ?_ ?_
        rotate_left
        ·rintro w' ⟨s0, s1, s2, s3, s4⟩
         go_simp
         with_reducible rfl
        rotate_left
        ·simp only [Act.put, List.setIfInBounds_toArray, List.set_cons_zero, List.set_cons_succ, i64_w, i32_w]
         rfl
        refine one_ (i := 0) (N := some 35) #[true, true, true, false, false] rfl rfl (by kernel_rfl) (by decide) (fun K hK => ?_)
        refine goes_ Tryd.func57 (by kernel_rfl) rfl #[] (by rfl) rfl rfl (by (try simp only [List.map_toArray, List.map_cons, List.map_nil]); first | done | rfl | (simp only [List.length_drop, List.length_take]; rfl)) ?_
        with_reducible refine (lex_words.calls  t180 _ A25.out).mono ?_
        rintro e w35 ⟨v181, rfl, ho0, hb⟩
        refine ⟨_, rfl, ?_⟩
        have n0_ := Aside0.mk (Kd.R_lower ho0 (below_size (by repeat (first | (with_reducible first | exact HB.out | apply below_alloc | apply pw_below_drewN | apply below_drew1 | refine below_set ?_ GE175.out | refine below_set ?_ GE177.out) | exact HB.out))))
        have n1_ := Aside0.mk (blk_below (g := gb175) (o := .cells #[.int .i64 0, .int .i64 0, .string (⟨#[]⟩ : ByteArray), .int .i64 0, .int .u64 0] 30 (0, 0)) (by (with_reducible repeat (first | refine blk_drewN ?_ _ | refine blk_drew ?_ | refine blk_alloc ?_ _)); exact BK175.out) hb)
        have n2_ := Aside0.mk (blk_below (g := gb177) (o := .cells #[.int .i64 1, .int .i64 0, .string (a0.extract 0 (t176 : Int).toNat), .int .i64 0, .int .u64 0] 30 (0, 0)) (by (with_reducible repeat (first | refine blk_drewN ?_ _ | refine blk_drew ?_ | refine blk_alloc ?_ _)); exact BK177.out) hb)
        have n3_ := Aside0.mk (below_step (by repeat (first | (with_reducible first | exact HB.out | apply below_alloc | apply pw_below_drewN | apply below_drew1 | refine below_set ?_ GE175.out | refine below_set ?_ GE177.out) | exact HB.out)) hb)
        clear BK175
        clear BK177
        clear HB
        have HO182 := n0_
        have BK175 := n1_
        have BK177 := n2_
        have HB := n3_
        clear n0_ n1_ n2_ n3_
        (try clear hb)
        (try clear hb2)
        (try clear hk)
        (try clear hi)
        (try clear ho0)
        obtain ⟨Ao36, co36, eo36⟩ := Kd.R_slice HO182.out
        (first | subst eo36 | (injection eo36 with f1_ f2_ f3_; have f4_ := f1_.symm; have f5_ := f3_.symm; clear f1_ f2_ f3_; subst f4_; subst f5_))
        refine hK.out _ _ ⟨(blk_cell BK177.out 0).trans rfl, (blk_cell BK177.out 1).trans rfl, (blk_cell BK177.out 2).trans rfl, (blk_cell BK177.out 3).trans rfl, (blk_cell BK177.out 4).trans rfl⟩ (fun hHeld => ?_)
        clear hK K
        refine norm_ (a' := ?_) ?_ ?_
        rotate_left
        ·show Act.put _ (some 35) _ = _
         simp only [Act.put, List.setIfInBounds_toArray, List.set_cons_zero, List.set_cons_succ, i64_w, i32_w]
         rfl
        refine one_ (i := 3) (N := some 38) #[true, true, true, true, false] rfl rfl (by kernel_rfl) (by decide) (fun K hK => ?_)
        refine goes_ Tryd.func56 (by kernel_rfl) rfl #[.slice Ao36 t180.length co36, .string (a0.extract 0 (t176 : Int).toNat)] (by rfl) rfl rfl (by (try simp only [List.map_toArray, List.map_cons, List.map_nil]); first | done | rfl | (simp only [List.length_drop, List.length_take]; rfl)) ?_
        with_reducible refine (slices_Contains_string_string.calls kj7 _ _ t180 (a0.extract 0 (t176 : Int).toNat) false _ ?side1 ?side2 A26.out).mono ?_
        (case side1 => repeat (first | exact (Kd.R_reads' HO182.out).2.2 | (with_reducible refine Kd.C_alloc ?_ _) | (with_reducible refine Kd.C_drewN ?_ _) | (with_reducible refine Kd.C_drew ?_)))
        (case side2 => exact (Kd.R_reads' HO182.out).2.1)
        rintro e w' ⟨rfl, ⟨nd, rfl⟩⟩
        refine ⟨_, rfl, ?_⟩
        refine hK.out _ _ ⟨(blk_cell BK177.out 0).trans rfl, (blk_cell BK177.out 1).trans rfl, (blk_cell BK177.out 2).trans rfl, (blk_cell BK177.out 3).trans rfl, (blk_cell BK177.out 4).trans rfl⟩ (fun hHeld => ?_)
        clear hK K
        refine norm_ (a' := ?_) ?_ ?_
        rotate_left
        ·show Act.put _ (some 38) _ = _
         simp only [Act.put, List.setIfInBounds_toArray, List.set_cons_zero, List.set_cons_succ, i64_w, i32_w]
         rfl
        refine pure_ (i := 4) (N := some 34) (v := ?_) (a' := ?_) #[true, true, true, true, true] rfl rfl (by kernel_rfl) (fun _ _ _ h => h) (Or.inl ⟨by rfl, ?_⟩) ?_ ?_
        rotate_left
        ·intro w'
         go_simp
         with_reducible rfl
        rotate_left
        ·simp only [Act.put, List.setIfInBounds_toArray, List.set_cons_zero, List.set_cons_succ, i64_w, i32_w]
         rfl
        refine done_ (by kernel_rfl) ?_
        have hnb37 := NB177_175.out
        have hnc37 := NB175_177.out
        have hcz38_0 : w35.cell? ⟨gb177, 0, none⟩ = some (.int .i64 1) := (blk_cell BK177.out 0).trans rfl
        have hcz38_1 : w35.cell? ⟨gb177, 1, none⟩ = some (.int .i64 0) := (blk_cell BK177.out 1).trans rfl
        have hcz38_2 : w35.cell? ⟨gb177, 2, none⟩ = some (.string (a0.extract 0 (t176 : Int).toNat)) := (blk_cell BK177.out 2).trans rfl
        have hcz38_3 : w35.cell? ⟨gb177, 3, none⟩ = some (.int .i64 0) := (blk_cell BK177.out 3).trans rfl
        have hcz38_4 : w35.cell? ⟨gb177, 4, none⟩ = some (.int .u64 0) := (blk_cell BK177.out 4).trans rfl
        have hfz38_0 := blk_frozen BK177.out 0
        have hfz38_1 := blk_frozen BK177.out 1
        have hfz38_2 := blk_frozen BK177.out 2
        have hfz38_3 := blk_frozen BK177.out 3
        have hfz38_4 := blk_frozen BK177.out 4
        have hcz39_0 : w35.cell? ⟨gb175, 0, none⟩ = some (.int .i64 0) := (blk_cell BK175.out 0).trans rfl
        have hcz39_1 : w35.cell? ⟨gb175, 1, none⟩ = some (.int .i64 0) := (blk_cell BK175.out 1).trans rfl
        have hcz39_2 : w35.cell? ⟨gb175, 2, none⟩ = some (.string (⟨#[]⟩ : ByteArray)) := (blk_cell BK175.out 2).trans rfl
        have hcz39_3 : w35.cell? ⟨gb175, 3, none⟩ = some (.int .i64 0) := (blk_cell BK175.out 3).trans rfl
        have hcz39_4 : w35.cell? ⟨gb175, 4, none⟩ = some (.int .u64 0) := (blk_cell BK175.out 4).trans rfl
        have hfz39_0 := blk_frozen BK175.out 0
        have hfz39_1 := blk_frozen BK175.out 1
        have hfz39_2 := blk_frozen BK175.out 2
        have hfz39_3 := blk_frozen BK175.out 3
        have hfz39_4 := blk_frozen BK175.out 4
        try go_wp2
        refine bodyPost_ret (results_ctt rfl _ _ gb175 30 #[.int .i64 1, .int .i64 0, .string (a0.extract 0 (t176 : Int).toNat), .int .i64 0, .int .u64 0] (0, 0) _ rfl (by (with_reducible repeat (first | refine blk_drewN ?_ _ | refine blk_drew ?_ | refine blk_alloc ?_ _)); refine blk_put (cs := #[.int .i64 1, .int .i64 0, .string (a0.extract 0 (t176 : Int).toNat), .int .i64 0, .int .u64 0]) ?_ 4 _ rfl; (with_reducible repeat (first | refine blk_drewN ?_ _ | refine blk_drew ?_ | refine blk_alloc ?_ _)); refine blk_put (cs := #[.int .i64 1, .int .i64 0, .string (a0.extract 0 (t176 : Int).toNat), .int .i64 0, .int .u64 0]) ?_ 3 _ rfl; (with_reducible repeat (first | refine blk_drewN ?_ _ | refine blk_drew ?_ | refine blk_alloc ?_ _)); refine blk_put (cs := #[.int .i64 1, .int .i64 0, .string (⟨#[]⟩ : ByteArray), .int .i64 0, .int .u64 0]) ?_ 2 _ rfl; (with_reducible repeat (first | refine blk_drewN ?_ _ | refine blk_drew ?_ | refine blk_alloc ?_ _)); refine blk_put (cs := #[.int .i64 1, .int .i64 0, .string (⟨#[]⟩ : ByteArray), .int .i64 0, .int .u64 0]) ?_ 1 _ rfl; (with_reducible repeat (first | refine blk_drewN ?_ _ | refine blk_drew ?_ | refine blk_alloc ?_ _)); refine blk_put (cs := #[.int .i64 0, .int .i64 0, .string (⟨#[]⟩ : ByteArray), .int .i64 0, .int .u64 0]) ?_ 0 _ rfl; (with_reducible repeat (first | refine blk_drewN ?_ _ | refine blk_drew ?_ | refine blk_alloc ?_ _)); exact BK175.out) Tryd.underlying30 rfl (by kernel_rfl)) rfl ?_
        exact ⟨by first | rfl | (simp [errW_none, errW_some] <;> rfl) | (simp [*, errW_none, errW_some] <;> rfl), by repeat (first | (with_reducible first | exact HB.out | apply below_alloc | apply pw_below_drewN | apply below_drew1 | refine below_set ?_ GE175.out | refine below_set ?_ GE177.out) | exact HB.out)⟩
   ·rw [if_neg c7] at H
    exact absurd H (by simp)
  ·rw [if_neg c6] at H
   exact absurd H (by simp)
end Go.Proofs.YtjolkombhdibcaaDoor.Print
end
section
namespace Go.Proofs.YtjolkombhdibcaaDoor.Sp
open Go.RowKit Go.Proofs.YtjolkombhdibcaaDoorW.PrintWords Go.Proofs.YtjolkombhdibcaaDoorW.PrintMore Go.Proofs.YtjolkombhdibcaaDoor.Given Go.Proofs.YtjolkombhdibcaaDoor.Print
set_option linter.unusedVariables false
set_option linter.unusedSimpArgs false
abbrev T7 := Int × Int × ByteArray × Int × Int × Int × Int
def tok (kind : Int) (text : List UInt8) (i b : Int) (n : Int) : T7 := (kind, 0, bs text, i, b, n, 0)
def bad (e : Int) : T7 := (0, 0, bs [], 0, 0, 0, e)
def wordsL : List (List UInt8) := [[102, 110], [108, 101, 116], [105, 102], [101, 108, 115, 101], [119, 104, 105, 108, 101], [102, 111, 114], [105, 110], [98, 114, 101, 97, 107], [99, 111, 110, 116, 105, 110, 117, 101], [114, 101, 116, 117, 114, 110], [111, 117, 116], [97, 110, 100], [111, 114], [110, 111, 116], [116, 114, 117, 101], [102, 97, 108, 115, 101], [110, 105, 108]]
def marksL : List (List UInt8) := [[61, 61], [33, 61], [60, 61], [62, 61], [60, 60], [62, 62], [47, 47], [46, 46], [43], [45], [42], [47], [37], [38], [124], [94], [126], [60], [62], [61], [40], [41], [123], [125], [91], [93], [44], [59], [58]]
def nameT (t : List UInt8) : T7 :=
  if 31 < t.length then bad 63
  else if t = [105, 110, 102] ∨ t = [110, 97, 110] then tok 5 [] 0 (pfS t).1 t.length
  else if t ∈ wordsL then tok 2 t 0 0 t.length
  else tok 1 t 0 0 t.length
def floatTok (t : List UInt8) : T7 := if (pfS t).2 = 0 then tok 5 [] 0 (pfS t).1 t.length else bad 62
def wholeTok (t : List UInt8) : T7 := if (parseIntT t).2 = 0 then tok 4 [] (parseIntT t).1 0 t.length else bad 62
theorem bs_take (l : List UInt8) (n : Nat) : (bs l).extract 0 n = bs (l.take n) := by rw [bs_ext, List.drop_zero]
theorem runN_le (p : UInt8 → Bool) (l : List UInt8) : Given.runN p l ≤ l.length := by
  unfold Given.runN
  exact (List.takeWhile_sublist p).length_le
theorem run_f (l : List UInt8) (a : Nat) (g : Int) (h : a ≤ l.length) (hl : l.length ≤ 1000000) : lex_run.f (bs l) (a : Int) g = some ((Given.runN (runF g) (l.drop a) : Nat) : Int) := by
  unfold lex_run.f
  rw [bs_size, if_pos ⟨by omega, by omega, by unfold maxLen; omega⟩, Int.toNat_natCast]
theorem take_run (p : UInt8 → Bool) (l : List UInt8) : l.take (Given.runN p l) = l.takeWhile p := by
  unfold Given.runN
  induction l with
  | nil => rfl
  | cons c r ih =>
    rw [List.takeWhile_cons]
    split
    · rw [List.length_cons, List.take_succ_cons, ih]
    · rfl
theorem idx_l0 (ws : List (List UInt8)) (t : List UInt8) (hw : ws.length ≤ 1000) : ∀ (r p : List (List UInt8)), ws = p ++ r → t ∉ p →
    ∃ q : Int, Ev (fun k => slices_Index_string_string.l0 k (ws.map bs) (bs t) (ws.length : Int) (p.length : Int)) q ∧ (0 ≤ q ↔ t ∈ ws) := by
  intro r
  induction r with
  | nil =>
    intro p h hp
    rw [List.append_nil] at h
    subst h
    refine ⟨-1, ?_, by simp [hp]⟩
    refine Ev.step (fun k => by rw [slices_Index_string_string.l0]) ?_
    exact Ev.no (by omega) (Ev.ret rfl)
  | cons c r ih =>
    intro p h hp
    have hlen : ws.length = p.length + (r.length + 1) := by rw [h]; simp
    have e1 : rdOf ByteArray.empty (ws.map bs) (p.length : Int) = bs c := by
      unfold rdOf
      rw [Int.toNat_natCast, h]
      simp [List.getD_eq_getElem?_getD]
    by_cases hc : t = c
    · refine ⟨p.length, ?_, by subst hc; rw [h]; simp⟩
      refine Ev.step (fun k => by rw [slices_Index_string_string.l0]) ?_
      refine Ev.yes (by omega) (Ev.yes (by omega) (Ev.yes (by rw [List.length_map]; omega) ?_))
      rw [e1]
      simp only [bs_toList]
      exact Ev.yes hc (Ev.ret rfl)
    · obtain ⟨q, h1, h2⟩ := ih (p ++ [c]) (by rw [h]; simp) (by simp [hp, hc])
      refine ⟨q, ?_, h2⟩
      refine Ev.step (fun k => by rw [slices_Index_string_string.l0]) ?_
      refine Ev.yes (by omega) (Ev.yes (by omega) (Ev.yes (by rw [List.length_map]; omega) ?_))
      rw [e1, w64 (by omega) (by omega)]
      simp only [bs_toList]
      refine Ev.no hc ?_
      have e2 : ((p ++ [c]).length : Int) = (p.length : Int) + 1 := by simp
      rw [e2] at h1
      exact h1
theorem contains_ev (t : List UInt8) : Ev (fun k => slices_Contains_string_string.f k (wordsL.map bs) (bs t)) (decide (t ∈ wordsL)) := by
  obtain ⟨q, h1, h2⟩ := idx_l0 wordsL t (by decide) wordsL [] rfl (by simp)
  unfold slices_Contains_string_string.f
  refine Ev.bind (a := q) ?_ (Ev.ret ?_)
  · unfold slices_Index_string_string.f
    rw [List.length_map]
    exact h1
  · rw [decide_eq_decide]; exact h2
theorem words_f : lex_words.f = some (wordsL.map bs) := rfl
theorem name_j0 (t : List UInt8) (ht : t.length ≤ 31) : Ev (fun k => lex_name.j0 k (t.length : Int) (decide (t = [105, 110, 102] ∨ t = [110, 97, 110])) 1 0 (bs t) 0 0) (nameT t) := by
  refine Ev.step (fun k => by rw [lex_name.j0]) ?_
  unfold nameT
  rw [if_neg (by omega)]
  by_cases h : t = [105, 110, 102] ∨ t = [110, 97, 110]
  · rw [if_pos h]
    exact Ev.yes (decide_eq_true h) (Ev.bind (parseFloat_ev t (by omega)) (Ev.ret rfl))
  · rw [if_neg h]
    refine Ev.no (by simpa using h) (Ev.bind0 words_f (Ev.bind (contains_ev t) ?_))
    by_cases hw : t ∈ wordsL
    · rw [if_pos hw]; exact Ev.yes (decide_eq_true hw) (Ev.ret rfl)
    · rw [if_neg hw]; exact Ev.no (by simpa using hw) (Ev.ret rfl)
theorem name_ev (l : List UInt8) (hl : l.length ≤ 1000000) : Ev (fun k => lex_name.f k (bs l)) (nameT (l.takeWhile nameB)) := by
  unfold lex_name.f
  have hr := run_f l 0 8800000055 (by omega) hl
  rw [List.drop_zero] at hr
  refine Ev.bind0 hr ?_
  have hrun : runF 8800000055 = nameB := rfl
  rw [hrun]
  have hle := runN_le nameB l
  have htl : (l.takeWhile nameB).length = Given.runN nameB l := rfl
  have htk := take_run nameB l
  by_cases h : 31 < Given.runN nameB l
  · have : nameT (l.takeWhile nameB) = bad 63 := by unfold nameT; rw [if_pos (by omega)]
    rw [this]
    exact Ev.yes (by omega) (Ev.ret rfl)
  · refine Ev.no (by omega) (Ev.yes (by omega) (Ev.yes (by rw [bs_size]; omega) ?_))
    have hj := name_j0 (l.takeWhile nameB) (by omega)
    rw [htl] at hj
    rw [Int.toNat_natCast, bs_take, htk, bs_toList]
    by_cases h1 : l.takeWhile nameB = [105, 110, 102]
    · rw [decide_eq_true (.inl h1)] at hj
      exact Ev.yes h1 hj
    · refine Ev.no h1 ?_
      have e : decide (l.takeWhile nameB = [105, 110, 102] ∨ l.takeWhile nameB = [110, 97, 110]) = (l.takeWhile nameB == [110, 97, 110]) := by
        by_cases h2 : l.takeWhile nameB = [110, 97, 110]
        · rw [decide_eq_true (.inr h2), beq_iff_eq.2 h2]
        · rw [decide_eq_false (fun h => h.elim h1 h2), beq_eq_false_iff_ne.2 h2]
      rw [e] at hj
      exact hj
end Go.Proofs.YtjolkombhdibcaaDoor.Sp
end
section
namespace Go.Proofs.YtjolkombhdibcaaDoor.Print
open Go.RowKit Go.Proofs.YtjolkombhdibcaaDoor.Given Go.Proofs.YtjolkombhdibcaaDoorW.PrintWords Go.Proofs.YtjolkombhdibcaaDoorW.PrintLast Go.Proofs.YtjolkombhdibcaaDoorW.PrintMore
attribute [local go_sem] max2_int min2_int max_two min_two max_three min_three max_four min_four
set_option linter.unusedVariables false
set_option linter.unusedSimpArgs false
def lex_value.f (a0 : Int) : Option (Int) := (lex_digit.f a0).bind fun t152 => (if t152 = true then (some ((a0 - 48) % 256)) else (some ((((a0 - 97) % 256) + 10) % 256)))
set_option maxHeartbeats 8000000 in
set_option maxRecDepth 100000 in
theorem lex_value.calls (a0 : Int) (r : Int) (w : World) (h : lex_value.f a0 = some r) :
  Calls Tryd.prog 62 #[.int .u8 a0] w fun e w' => e = .returned (.int .u8 r) ∧ Drawn0 w w' := by
 have H : ((lex_digit.f a0).bind fun t152 => (if t152 = true then (some ((a0 - 48) % 256)) else (some ((((a0 - 97) % 256) + 10) % 256)))) = some r := h
 clear h
 replace H := Option.bind_eq_some_iff.mp H
 obtain ⟨t152, A20, H⟩ := H
 replace H : (if t152 = true then (some ((a0 - 48) % 256)) else (some ((((a0 - 97) % 256) + 10) % 256))) = some r := H
 have A2 := Aside0.mk A20
 clear A20
 by_cases c3 : t152 = true
 ·subst c3
  have H1 : (some ((a0 - 48) % 256)) = some r := by rw [if_pos rfl] at H; exact H
  clear H
  have H := H1
  clear H1
  obtain rfl := Option.some.inj H
  go_enter Tryd.func62, Tryd.ntmps62
  go_wp2_with (first | ((with_reducible refine gate_callee (f := 39) rfl ?_); refine goesL_ (some 4) rfl rfl Tryd.func39 (by kernel_rfl) rfl #[.int .u8 a0] rfl (by (try simp only [List.map_toArray, List.map_cons, List.map_nil]); first | done | rfl | (simp only [List.length_drop, List.length_take]; rfl)) ?_; (with_reducible refine (lex_digit.calls a0 true _ A2.out).mono ?_); rintro e w' ⟨rfl, ⟨nd, rfl⟩⟩; refine ⟨_, rfl, ?_⟩))
  go_ret
  exact ⟨by first | rfl | (simp; done) | (simp [*]; done), by repeat (first | exact Drawn0.refl _ | apply Drawn0.step)⟩
 ·replace c3 := Bool.eq_false_iff.mpr c3
  subst c3
  have H1 : (some ((((a0 - 97) % 256) + 10) % 256)) = some r := by rw [if_neg (show ¬ (false = true) by decide)] at H; exact H
  clear H
  have H := H1
  clear H1
  obtain rfl := Option.some.inj H
  go_enter Tryd.func62, Tryd.ntmps62
  go_wp2_with (first | ((with_reducible refine gate_callee (f := 39) rfl ?_); refine goesL_ (some 4) rfl rfl Tryd.func39 (by kernel_rfl) rfl #[.int .u8 a0] rfl (by (try simp only [List.map_toArray, List.map_cons, List.map_nil]); first | done | rfl | (simp only [List.length_drop, List.length_take]; rfl)) ?_; (with_reducible refine (lex_digit.calls a0 false _ A2.out).mono ?_); rintro e w' ⟨rfl, ⟨nd, rfl⟩⟩; refine ⟨_, rfl, ?_⟩))
  go_ret
  exact ⟨by first | rfl | (simp; done) | (simp [*]; done), by repeat (first | exact Drawn0.refl _ | apply Drawn0.step)⟩
end Go.Proofs.YtjolkombhdibcaaDoor.Print
end
section
namespace Go.Proofs.YtjolkombhdibcaaDoor.Print
open Go.RowKit Go.Proofs.YtjolkombhdibcaaDoor.Given Go.Proofs.YtjolkombhdibcaaDoorW.PrintWords Go.Proofs.YtjolkombhdibcaaDoorW.PrintLast Go.Proofs.YtjolkombhdibcaaDoorW.PrintMore
attribute [local go_sem] max2_int min2_int max_two min_two max_three min_three max_four min_four
set_option linter.unusedVariables false
set_option linter.unusedSimpArgs false
mutual
def lex_quoted.l0 : Nat → ByteArray → List Int → Int → Option (Int × Int × ByteArray × Int × Int × Int × Int)
 | 0, _, _, _ => none
 | k + 1, x0, x5, x6 => if x6 < (x0.size : Int) then (if 0 ≤ x6 then (if 0 ≤ (wrap64 (x6 + 1)) then (if (wrap64 (x6 + 1)) ≤ (x0.size : Int) then (if (bt x0 x6) = 34 then (some (6, 0, strOfNums x5, 0, 0, wrap64 (x6 + 1), 0)) else (if (bt x0 x6) = 92 then (lex_quoted.j1 k x0 x5 x6 (bt x0 x6) (x0.extract ((wrap64 (x6 + 1)) : Int).toNat x0.size) false) else (if (bt x0 x6) ≥ 32 then (lex_quoted.j1 k x0 x5 x6 (bt x0 x6) (x0.extract ((wrap64 (x6 + 1)) : Int).toNat x0.size) (decide ((bt x0 x6) ≤ 126))) else (lex_quoted.j1 k x0 x5 x6 (bt x0 x6) (x0.extract ((wrap64 (x6 + 1)) : Int).toNat x0.size) false)))) else (none)) else (none)) else (none)) else (some (0, 0, (⟨#[]⟩ : ByteArray), 0, 0, 0, 61))
def lex_quoted.j1 : Nat → ByteArray → List Int → Int → Int → ByteArray → Bool → Option (Int × Int × ByteArray × Int × Int × Int × Int)
 | 0, _, _, _, _, _, _ => none
 | k + 1, x0, x5, x6, x7, x8, x31 => if x31 = true then (if x5.length < 140737488355328 then (lex_quoted.l0 k x0 (x5 ++ [x7]) (wrap64 (x6 + 1))) else (none)) else (if x7 = 92 then (lex_quoted.j2 k x0 x5 x6 x8 (x8.toList == ([] : List UInt8))) else (lex_quoted.j2 k x0 x5 x6 x8 true))
def lex_quoted.j2 : Nat → ByteArray → List Int → Int → ByteArray → Bool → Option (Int × Int × ByteArray × Int × Int × Int × Int)
 | 0, _, _, _, _, _ => none
 | k + 1, x0, x5, x6, x8, x46 => if x46 = true then (some (0, 0, (⟨#[]⟩ : ByteArray), 0, 0, 0, 61)) else (if 0 < (x8.size : Int) then (if (bt x8 0) = 92 then (lex_quoted.j3 k x0 x5 x6 x8 true) else (lex_quoted.j3 k x0 x5 x6 x8 ((bt x8 0) == 34))) else (none))
def lex_quoted.j3 : Nat → ByteArray → List Int → Int → ByteArray → Bool → Option (Int × Int × ByteArray × Int × Int × Int × Int)
 | 0, _, _, _, _, _ => none
 | k + 1, x0, x5, x6, x8, x54 => if x54 = true then (if 0 < (x8.size : Int) then (if x5.length < 140737488355328 then (lex_quoted.l0 k x0 (x5 ++ [bt x8 0]) (wrap64 ((wrap64 (x6 + 1)) + 1))) else (none)) else (none)) else (if 0 < (x8.size : Int) then (if (bt x8 0) = 110 then (if x5.length < 140737488355328 then (lex_quoted.l0 k x0 (x5 ++ [10]) (wrap64 ((wrap64 (x6 + 1)) + 1))) else (none)) else (if (x8.size : Int) > 2 then (if (bt x8 0) = 120 then (if 1 < (x8.size : Int) then ((lex_hex.f (bt x8 1)).bind fun t163 => (if t163 = true then (if 2 < (x8.size : Int) then ((lex_hex.f (bt x8 2)).bind fun t164 => (lex_quoted.j4 k x0 x5 x6 x8 t164)) else (none)) else (lex_quoted.j4 k x0 x5 x6 x8 false))) else (none)) else (lex_quoted.j4 k x0 x5 x6 x8 false)) else (lex_quoted.j4 k x0 x5 x6 x8 false))) else (none))
def lex_quoted.j4 : Nat → ByteArray → List Int → Int → ByteArray → Bool → Option (Int × Int × ByteArray × Int × Int × Int × Int)
 | 0, _, _, _, _, _ => none
 | k + 1, x0, x5, x6, x8, x79 => if x79 = true then (if 1 < (x8.size : Int) then ((lex_value.f (bt x8 1)).bind fun t165 => (if 2 < (x8.size : Int) then ((lex_value.f (bt x8 2)).bind fun t166 => (if x5.length < 140737488355328 then (lex_quoted.l0 k x0 (x5 ++ [Go.bits .or .u8 ((t165 * 16) % 256) t166]) (wrap64 ((wrap64 (x6 + 3)) + 1))) else (none))) else (none))) else (none)) else (some (0, 0, (⟨#[]⟩ : ByteArray), 0, 0, 0, 61))
end
def lex_quoted.f (k : Nat) (a0 : ByteArray) : Option (Int × Int × ByteArray × Int × Int × Int × Int) := lex_quoted.l0 k a0 ([] : List Int) 1
def lex_quoted.T21 : Bool × List (List Nat × List Nat) := (true, [([], []), ([], []), ([1], [1]), ([2], [2]), ([3], [3]), ([], []), ([5], [5]), ([6, 3], [6]), ([4, 7], [4, 7]), ([8], [8]), ([0, 9, 7], [0, 9]), ([10, 10, 0, 1, 2, 3, 4, 5, 6, 7, 8, 9, 10], [0, 10])])
def lex_quoted.B21 : List Nat := [0, 0, 2, 6, 14, 0, 32, 110, 254, 510, 1023, 2047]
theorem lex_quoted.tab21 : rtab .any (opsOf Tryd.f41 21) = lex_quoted.T21 := by kernel_rfl
theorem lex_quoted.bits21 : waitsOk lex_quoted.T21.2 lex_quoted.B21 = true := by kernel_rfl
set_option maxHeartbeats 8000000 in
set_option maxRecDepth 100000 in
theorem lex_quoted.calls (k : Nat) (a0 : ByteArray) (r1 : Int) (r2 : Int) (r3 : ByteArray) (r4 : Int) (r5 : Int) (r6 : Int) (r7 : Int) (w : World) (h : lex_quoted.f k a0 = some (r1, r2, r3, r4, r5, r6, r7)) :
  Calls Tryd.prog 41 #[.string a0] w fun e w' => e = .returned (.tuple #[.agg #[.int .i64 r1, .int .i64 r2, .string r3, .int .i64 r4, .int .u64 r5], .int .i64 r6, .int .i64 r7]) ∧ Below w.heap.size w w' := by
 have hu30 := Tryd.underlying30
 have HB := Aside0.mk (Below.refl w.heap.size w)
 have H : (lex_quoted.l0 k a0 ([] : List Int) 1) = some (r1, r2, r3, r4, r5, r6, r7) := h
 clear h
 have H' := Aside0.mk H
 clear H
 go_enter Tryd.func41, Tryd.ntmps41
 go_wp2_with (first | ((with_reducible refine gate_dst (N := 2) rfl ?_); refine box_event ?hg (N := 2) ?hd (cs := #[.int .i64 0, .int .i64 0, .string (⟨#[]⟩ : ByteArray), .int .i64 0, .int .u64 0]) (t := 30) ?hr ?_; (case hd => rfl); (case hg => rfl); (case hr => first | (go_simp; done) | (go_simp; rfl)); intro gb153 hg w2 hbox hb; have n0_ := Aside0.mk (below_step (by repeat (first | (with_reducible first | exact HB.out | apply below_alloc | apply pw_below_drewN | apply below_drew1) | exact HB.out)) hb); have n1_ := Aside0.mk (hbox); have n2_ := Aside0.mk ((by rw [hg]; exact (below_size (by repeat (first | (with_reducible first | exact HB.out | apply below_alloc | apply pw_below_drewN | apply below_drew1) | exact HB.out))) : w.heap.size ≤ gb153)); have n3_ := Aside0.mk ((by rw [hg]; exact (below_size (by repeat (first | (with_reducible first | exact HB.out | apply below_alloc | apply pw_below_drewN | apply below_drew1) | exact HB.out))) : w.heap.size ≤ gb153)); clear HB; have HB := n0_; have BK153 := n1_; have GW153 := n2_; have GE153 := n3_; clear n0_ n1_ n2_ n3_; clear hb hbox hg))
 go_loopg [5, 6] k (fun kq v5 v6 w' => ∃ (x5_1 : List Int) (x6_1 : Int) (x154000_1 : Int) (x154001_1 : Int) (x154002_1 : ByteArray) (x154003_1 : Int) (x154004_1 : Int), v6 = .int .i64 x6_1 ∧ Aside0 (lex_quoted.l0 kq a0 x5_1 x6_1 = some (r1, r2, r3, r4, r5, r6, r7)) ∧ Aside0 (kq ≤ k) ∧ Aside0 (Kd.R (Kd.int .u8) 5 w' w.heap.size (fun _ => True) v5 x5_1) ∧ Aside0 (w'.heap[gb153]? = some (.cells #[.int .i64 x154000_1, .int .i64 x154001_1, .string x154002_1, .int .i64 x154003_1, .int .u64 x154004_1] 30 (0, 0))) ∧ Aside0 (Below w.heap.size w w'))
 case atStart => exact ⟨(([] : List Int)), (1), (0), (0), ((⟨#[]⟩ : ByteArray)), (0), (0), (by first | rfl | (simp; done) | (simp [*]; done)), H', ⟨Nat.le_refl _⟩, ⟨by first | exact Kd.R_nil _ _ _ _ _ | exact Kd.N_nil _ _ _ _ _ | exact Kd.V_nil _ _ _ _ _ | exact Kd.Q_nil _ _ _ _ _ | exact Kd.S_nil _ _ _ _ _⟩, ⟨by (with_reducible repeat (first | refine blk_drewN ?_ _ | refine blk_drew ?_ | refine blk_alloc ?_ _)); exact BK153.out⟩, ⟨by repeat (first | (with_reducible first | exact HB.out | apply below_alloc | apply pw_below_drewN | apply below_drew1 | refine below_set ?_ GE153.out) | exact HB.out)⟩⟩
 case round =>
  clear H'
  try clear p2
  obtain ⟨x5_1, x6_1, x154000_1, x154001_1, x154002_1, x154003_1, x154004_1, rfl, HA, HK1, HO_5, BK153, HB⟩ := hrel
  cases gk with
  | zero => exact absurd HA.out (by simp [lex_quoted.l0])
  | succ k1 =>
   have H := HA.out
   clear HA
   simp only [lex_quoted.l0] at H
   by_cases c3 : x6_1 < (a0.size : Int)
   ·rw [if_pos c3] at H
    have c3b0 : decide (x6_1 < (a0.size : Int)) = true := decide_eq_true c3
    clear c3
    by_cases c4 : 0 ≤ x6_1
    ·rw [if_pos c4] at H
     have c4b0 : decide (0 ≤ x6_1) = true := decide_eq_true c4
     clear c4
     obtain ⟨ji6, hji6⟩ : ∃ j_ : Int, (wrap64 (x6_1 + 1)) = j_ := ⟨_, rfl⟩
     replace H : (if 0 ≤ (ji6) then (if (ji6) ≤ (a0.size : Int) then (if (bt a0 x6_1) = 34 then (some (6, 0, strOfNums x5_1, 0, 0, ji6, 0)) else (if (bt a0 x6_1) = 92 then (lex_quoted.j1 k1 a0 x5_1 x6_1 (bt a0 x6_1) (a0.extract ((ji6) : Int).toNat a0.size) false) else (if (bt a0 x6_1) ≥ 32 then (lex_quoted.j1 k1 a0 x5_1 x6_1 (bt a0 x6_1) (a0.extract ((ji6) : Int).toNat a0.size) (decide ((bt a0 x6_1) ≤ 126))) else (lex_quoted.j1 k1 a0 x5_1 x6_1 (bt a0 x6_1) (a0.extract ((ji6) : Int).toNat a0.size) false)))) else (none)) else (none)) = some (r1, r2, r3, r4, r5, r6, r7) := by first | (rw [hji6] at H; exact H) | (simp only [hji6] at H ⊢; exact H)
     have hji6w : (IntKind.i64.wrap (x6_1 + 1)) = ji6 := (i64_w _).trans hji6
     by_cases c7 : 0 ≤ (ji6)
     ·rw [if_pos c7] at H
      have c7b0 := eq_true c7
      have c7b1 : decide (0 ≤ (ji6)) = true := decide_eq_true c7
      clear c7
      by_cases c8 : (ji6) ≤ (a0.size : Int)
      ·rw [if_pos c8] at H
       have c8b0 := eq_true c8
       have c8b1 : decide ((ji6) ≤ (a0.size : Int)) = true := decide_eq_true c8
       clear c8
       by_cases c9 : (bt a0 x6_1) = 34
       ·rw [if_pos c9] at H
        have c9b0 : ((bt a0 x6_1) == 34) = true := beq_iff_eq.mpr c9
        have c9b1 : ((bt a0 x6_1) != 34) = false := bne_eq_false_iff_eq.mpr c9
        clear c9
        simp only [Option.some.injEq, Prod.mk.injEq] at H
        obtain ⟨rfl, rfl, rfl, rfl, rfl, rfl, rfl⟩ := H
        have p5 : 0 ≤ (x6_1 : Int) := of_decide_eq_true (by first | (with_reducible assumption) | assumption)
        have q5 : x6_1 < (a0.size : Int) := of_decide_eq_true (by first | (with_reducible assumption) | assumption)
        have hx5 := bt_at a0 x6_1
        replace p5 := eq_true p5
        replace q5 := eq_true q5
        have hcv10 := own_string (P := Tryd.prog) Tryd.underlying36 Tryd.underlying5 Tryd.underlying9 (Kd.own_of_R HO_5.out)
        have hcz11_0 : wr.cell? ⟨gb153, 0, none⟩ = some (.int .i64 x154000_1) := (blk_cell BK153.out 0).trans rfl
        have hcz11_1 : wr.cell? ⟨gb153, 1, none⟩ = some (.int .i64 x154001_1) := (blk_cell BK153.out 1).trans rfl
        have hcz11_2 : wr.cell? ⟨gb153, 2, none⟩ = some (.string x154002_1) := (blk_cell BK153.out 2).trans rfl
        have hcz11_3 : wr.cell? ⟨gb153, 3, none⟩ = some (.int .i64 x154003_1) := (blk_cell BK153.out 3).trans rfl
        have hcz11_4 : wr.cell? ⟨gb153, 4, none⟩ = some (.int .u64 x154004_1) := (blk_cell BK153.out 4).trans rfl
        have hfz11_0 := blk_frozen BK153.out 0
        have hfz11_1 := blk_frozen BK153.out 1
        have hfz11_2 := blk_frozen BK153.out 2
        have hfz11_3 := blk_frozen BK153.out 3
        have hfz11_4 := blk_frozen BK153.out 4
        go_wp2
        refine bodyPost_ret (results_ctt rfl _ _ gb153 30 #[.int .i64 6, .int .i64 0, .string (strOfNums x5_1), .int .i64 0, .int .u64 0] (0, 0) _ rfl (by (with_reducible repeat (first | refine blk_drewN ?_ _ | refine blk_drew ?_ | refine blk_alloc ?_ _)); refine blk_put (cs := #[.int .i64 6, .int .i64 0, .string (strOfNums x5_1), .int .i64 0, .int .u64 x154004_1]) ?_ 4 _ rfl; (with_reducible repeat (first | refine blk_drewN ?_ _ | refine blk_drew ?_ | refine blk_alloc ?_ _)); refine blk_put (cs := #[.int .i64 6, .int .i64 0, .string (strOfNums x5_1), .int .i64 x154003_1, .int .u64 x154004_1]) ?_ 3 _ rfl; (with_reducible repeat (first | refine blk_drewN ?_ _ | refine blk_drew ?_ | refine blk_alloc ?_ _)); refine blk_put (cs := #[.int .i64 6, .int .i64 0, .string x154002_1, .int .i64 x154003_1, .int .u64 x154004_1]) ?_ 2 _ rfl; (with_reducible repeat (first | refine blk_drewN ?_ _ | refine blk_drew ?_ | refine blk_alloc ?_ _)); refine blk_put (cs := #[.int .i64 6, .int .i64 x154001_1, .string x154002_1, .int .i64 x154003_1, .int .u64 x154004_1]) ?_ 1 _ rfl; (with_reducible repeat (first | refine blk_drewN ?_ _ | refine blk_drew ?_ | refine blk_alloc ?_ _)); refine blk_put (cs := #[.int .i64 x154000_1, .int .i64 x154001_1, .string x154002_1, .int .i64 x154003_1, .int .u64 x154004_1]) ?_ 0 _ rfl; (with_reducible repeat (first | refine blk_drewN ?_ _ | refine blk_drew ?_ | refine blk_alloc ?_ _)); exact BK153.out) Tryd.underlying30 rfl (by kernel_rfl)) rfl ?_
        exact ⟨by first | rfl | (simp [errW_none, errW_some] <;> rfl) | (simp only [← hji6]; first | rfl | (simp [errW_none, errW_some] <;> rfl)) | (simp [*, errW_none, errW_some] <;> rfl), by repeat (first | (with_reducible first | exact HB.out | apply below_alloc | apply pw_below_drewN | apply below_drew1 | refine below_set ?_ GE153.out) | exact HB.out)⟩
       ·rw [if_neg c9] at H
        have c9b0 : ((bt a0 x6_1) == 34) = false := beq_eq_false_iff_ne.mpr c9
        have c9b1 : ((bt a0 x6_1) != 34) = true := bne_iff_ne.mpr c9
        have HC12 := Aside0.mk H
        clear H
        have p5 : 0 ≤ (x6_1 : Int) := of_decide_eq_true (by first | (with_reducible assumption) | assumption)
        have q5 : x6_1 < (a0.size : Int) := of_decide_eq_true (by first | (with_reducible assumption) | assumption)
        have hx5 := bt_at a0 x6_1
        replace p5 := eq_true p5
        replace q5 := eq_true q5
        go_upto_region 10 with (fail)
        go_cut [31] (fun v31 wc => ∃ (kq : Nat) (x31_11 : Bool), v31 = .bool x31_11 ∧ Aside0 (lex_quoted.j1 kq a0 x5_1 x6_1 (bt a0 x6_1) (a0.extract ((ji6) : Int).toNat a0.size) x31_11 = some (r1, r2, r3, r4, r5, r6, r7)) ∧ Aside0 (kq ≤ k1) ∧ Aside0 (Kd.R (Kd.int .u8) 5 wc w.heap.size (fun _ => True) u5 x5_1) ∧ Aside0 (wc.heap[gb153]? = some (.cells #[.int .i64 x154000_1, .int .i64 x154001_1, .string x154002_1, .int .i64 x154003_1, .int .u64 x154004_1] 30 (0, 0))) ∧ Aside0 (Below w.heap.size w wc))
        case first =>
         have H := HC12.out
         clear HC12
         by_cases c13 : (bt a0 x6_1) = 92
         ·rw [if_pos c13] at H
          have c13b0 : ((bt a0 x6_1) == 92) = true := beq_iff_eq.mpr c13
          have c13b1 : ((bt a0 x6_1) != 92) = false := bne_eq_false_iff_eq.mpr c13
          clear c13
          (first | rw [c13b0] | (simp only [i64_w, i32_w]; rw [c13b0]) | skip)
          have H' := Aside0.mk H
          clear H
          go_wp2
          go_meet
          case rel => exact ⟨_, (false), (by first | rfl | (simp; done) | (simp [*]; done)), H', ⟨by have := HK1.out; first | omega | exact Nat.le_refl _⟩, ⟨by (with_reducible repeat (first | apply Kd.R_alloc | apply Kd.R_drewN | apply Kd.R_drew)); exact HO_5.out⟩, ⟨by (with_reducible repeat (first | refine blk_drewN ?_ _ | refine blk_drew ?_ | refine blk_alloc ?_ _)); exact BK153.out⟩, ⟨by repeat (first | (with_reducible first | exact HB.out | apply below_alloc | apply pw_below_drewN | apply below_drew1 | refine below_set ?_ GE153.out) | exact HB.out)⟩⟩
         ·rw [if_neg c13] at H
          have c13b0 : ((bt a0 x6_1) == 92) = false := beq_eq_false_iff_ne.mpr c13
          have c13b1 : ((bt a0 x6_1) != 92) = true := bne_iff_ne.mpr c13
          (first | rw [c13b0] | (simp only [i64_w, i32_w]; rw [c13b0]) | skip)
          by_cases c14 : (bt a0 x6_1) ≥ 32
          ·rw [if_pos c14] at H
           have c14b0 : decide (32 ≤ (bt a0 x6_1)) = true := decide_eq_true c14
           clear c14
           have H' := Aside0.mk H
           clear H
           go_wp2
           go_meet
           case rel => exact ⟨_, (decide ((bt a0 x6_1) ≤ 126)), (by first | rfl | (simp; done) | (simp [*]; done)), H', ⟨by have := HK1.out; first | omega | exact Nat.le_refl _⟩, ⟨by (with_reducible repeat (first | apply Kd.R_alloc | apply Kd.R_drewN | apply Kd.R_drew)); exact HO_5.out⟩, ⟨by (with_reducible repeat (first | refine blk_drewN ?_ _ | refine blk_drew ?_ | refine blk_alloc ?_ _)); exact BK153.out⟩, ⟨by repeat (first | (with_reducible first | exact HB.out | apply below_alloc | apply pw_below_drewN | apply below_drew1 | refine below_set ?_ GE153.out) | exact HB.out)⟩⟩
          ·rw [if_neg c14] at H
           have c14b0 : decide (32 ≤ (bt a0 x6_1)) = false := decide_eq_false c14
           clear c14
           have H' := Aside0.mk H
           clear H
           go_wp2
           go_meet
           case rel => exact ⟨_, (false), (by first | rfl | (simp; done) | (simp [*]; done)), H', ⟨by have := HK1.out; first | omega | exact Nat.le_refl _⟩, ⟨by (with_reducible repeat (first | apply Kd.R_alloc | apply Kd.R_drewN | apply Kd.R_drew)); exact HO_5.out⟩, ⟨by (with_reducible repeat (first | refine blk_drewN ?_ _ | refine blk_drew ?_ | refine blk_alloc ?_ _)); exact BK153.out⟩, ⟨by repeat (first | (with_reducible first | exact HB.out | apply below_alloc | apply pw_below_drewN | apply below_drew1 | refine below_set ?_ GE153.out) | exact HB.out)⟩⟩
        case rest =>
         clear HC12
         try clear c1
         try clear hcv1
         try clear p2
         try clear c3
         try clear c3b0
         try clear c4
         try clear c4b0
         try clear p5
         try clear q5
         try clear hx5
         try clear p6
         try clear c7
         try clear c7b0
         try clear c7b1
         try clear c8
         try clear c8b0
         try clear c8b1
         try clear c9
         try clear c9b0
         try clear c9b1
         try clear hcv10
         try clear c13
         try clear c13b0
         try clear c13b1
         try clear c14
         try clear c14b0
         try clear hcz11_0
         try clear hcz11_1
         try clear hcz11_2
         try clear hcz11_3
         try clear hcz11_4
         try clear hfz11_0
         try clear hfz11_1
         try clear hfz11_2
         try clear hfz11_3
         try clear hfz11_4
         try clear p2
         try clear p5
         try clear q5
         obtain ⟨kq, x31_11, rfl, HA, HJ11, HO_5, BK153, HB⟩ := hcut
         cases kq with
         | zero => exact absurd HA.out (by simp [lex_quoted.j1])
         | succ kj11 =>
          have H := HA.out
          clear HA
          simp only [lex_quoted.j1] at H
          by_cases c15 : x31_11 = true
          ·subst c15
           have H1 : (if x5_1.length < 140737488355328 then (lex_quoted.l0 kj11 a0 (x5_1 ++ [(bt a0 x6_1)]) (wrap64 (x6_1 + 1))) else (none)) = some (r1, r2, r3, r4, r5, r6, r7) := by rw [if_pos rfl] at H; exact H
           clear H
           have H := H1
           clear H1
           by_cases c16 : x5_1.length < 140737488355328
           ·rw [if_pos c16] at H
            have LMc16 := Aside0.mk c16
            clear c16
            obtain ⟨y154, hy154⟩ : ∃ y_ : List Int, y_ = (x5_1 ++ [(bt a0 x6_1)]) := ⟨_, rfl⟩
            replace H : (lex_quoted.l0 kj11 a0 y154 (wrap64 (x6_1 + 1))) = some (r1, r2, r3, r4, r5, r6, r7) := by first | (rw [hy154]; with_reducible exact H) | (have H2_ := (Option.bind_some _ _).symm.trans H; rw [hy154]; with_reducible exact H2_) | (have H2_ := (Option.bind_some _ _).symm.trans H; with_reducible exact H2_) | with_reducible exact H | (rw [hy154]; exact H) | exact H
            have Ny154 := Aside0.mk hy154
            clear hy154
            have H' := Aside0.mk H
            clear H
            go_wp2_with (first | ((with_reducible refine gate_builtin (b := .append) (xs := #[.tmp 42, .tmp 44]) rfl ?_); at_builtin; refine Kd.R_append (Kd.int .u8) (w0 := w) w.heap.size rfl (.tmp 42) (.tmp 44) 36 5 (.int .u8 0) 1 rfl Tryd.underlying36 info5 rfl (by decide) (by omega) u5 x5_1 (bt a0 x6_1) [.int .u8 (bt a0 x6_1)] (fun _ => True) (fun _ => False) rfl rfl ?aP (fun _ hk => hk.elim) ?aF ?aO ?aB ?aS ?aL ?_; (case aP => exact rfl); (case aB => exact (by repeat (first | (with_reducible first | exact HB.out | apply below_alloc | apply pw_below_drewN | apply below_drew1 | refine below_set ?_ GE153.out) | exact HB.out))); (case aF => exact (fun _ _ => trivial)); (case aO => exact (by (with_reducible repeat (first | apply Kd.R_alloc | apply Kd.R_drewN | apply Kd.R_drew)); exact HO_5.out)); (case aS => exact (below_size (by repeat (first | (with_reducible first | exact HB.out | apply below_alloc | apply pw_below_drewN | apply below_drew1 | refine below_set ?_ GE153.out) | exact HB.out)))); (case aL => have := LMc16.out; omega); intro v155 w17 ho hb hg hat; rw [← Ny154.out] at ho; have n0_ := Aside0.mk (blk_grown (g := gb153) (o := .cells #[.int .i64 x154000_1, .int .i64 x154001_1, .string x154002_1, .int .i64 x154003_1, .int .u64 x154004_1] 30 (0, 0)) (by (with_reducible repeat (first | refine blk_drewN ?_ _ | refine blk_drew ?_ | refine blk_alloc ?_ _)); exact BK153.out) hg (Kd.R_ne HO_5.out BK153.out (by decide))); have n1_ := Aside0.mk (hb); have n2_ := Aside0.mk (ho); clear BK153; clear HB; clear HO_5; have BK153 := n0_; have HB := n1_; have HO156 := n2_; clear n0_ n1_ n2_; clear ho hb hg hat))
            go_roundg kj11
            case measure => have := HK1.out; have := HJ11.out; omega
            case rel => exact ⟨(y154), (wrap64 (x6_1 + 1)), (x154000_1), (x154001_1), (x154002_1), (x154003_1), (x154004_1), (by first | rfl | (simp; done) | (simp [*]; done)), H', ⟨by have := HK1.out; have := HJ11.out; omega⟩, ⟨by (with_reducible repeat (first | apply Kd.R_alloc | apply Kd.R_drewN | apply Kd.R_drew)); exact HO156.out⟩, ⟨by (with_reducible repeat (first | refine blk_drewN ?_ _ | refine blk_drew ?_ | refine blk_alloc ?_ _)); exact BK153.out⟩, ⟨by repeat (first | (with_reducible first | exact HB.out | apply below_alloc | apply pw_below_drewN | apply below_drew1 | refine below_set ?_ GE153.out) | exact HB.out)⟩⟩
           ·rw [if_neg c16] at H
            exact absurd H (by simp)
          ·replace c15 := Bool.eq_false_iff.mpr c15
           subst c15
           have H1 : (if (bt a0 x6_1) = 92 then (lex_quoted.j2 kj11 a0 x5_1 x6_1 (a0.extract ((ji6) : Int).toNat a0.size) ((a0.extract ((ji6) : Int).toNat a0.size).toList == ([] : List UInt8))) else (lex_quoted.j2 kj11 a0 x5_1 x6_1 (a0.extract ((ji6) : Int).toNat a0.size) true)) = some (r1, r2, r3, r4, r5, r6, r7) := by rw [if_neg (show ¬ (false = true) by decide)] at H; exact H
           clear H
           have H := H1
           clear H1
           have HC18 := Aside0.mk H
           clear H
           go_upto_region 12 with (fail)
           go_cut [46] (fun v46 wc => ∃ (kq : Nat) (x46_17 : Bool), v46 = .bool x46_17 ∧ Aside0 (lex_quoted.j2 kq a0 x5_1 x6_1 (a0.extract ((ji6) : Int).toNat a0.size) x46_17 = some (r1, r2, r3, r4, r5, r6, r7)) ∧ Aside0 (kq ≤ kj11) ∧ Aside0 (Kd.R (Kd.int .u8) 5 wc w.heap.size (fun _ => True) u5 x5_1) ∧ Aside0 (wc.heap[gb153]? = some (.cells #[.int .i64 x154000_1, .int .i64 x154001_1, .string x154002_1, .int .i64 x154003_1, .int .u64 x154004_1] 30 (0, 0))) ∧ Aside0 (Below w.heap.size w wc))
           case first =>
            have H := HC18.out
            clear HC18
            by_cases c19 : (bt a0 x6_1) = 92
            ·rw [if_pos c19] at H
             have c19b0 : ((bt a0 x6_1) == 92) = true := beq_iff_eq.mpr c19
             have c19b1 : ((bt a0 x6_1) != 92) = false := bne_eq_false_iff_eq.mpr c19
             clear c19
             (first | rw [c19b0] | (simp only [i64_w, i32_w]; rw [c19b0]) | skip)
             have H' := Aside0.mk H
             clear H
             go_wp2
             go_meet
             case rel => exact ⟨_, (((a0.extract ((ji6) : Int).toNat a0.size).toList == ([] : List UInt8))), (by first | rfl | (simp; done) | (simp only [← hji6] <;> (first | rfl | simp)) | (simp [*]; done)), H', ⟨by have := HK1.out; have := HJ11.out; first | omega | exact Nat.le_refl _⟩, ⟨by (with_reducible repeat (first | apply Kd.R_alloc | apply Kd.R_drewN | apply Kd.R_drew)); exact HO_5.out⟩, ⟨by (with_reducible repeat (first | refine blk_drewN ?_ _ | refine blk_drew ?_ | refine blk_alloc ?_ _)); exact BK153.out⟩, ⟨by repeat (first | (with_reducible first | exact HB.out | apply below_alloc | apply pw_below_drewN | apply below_drew1 | refine below_set ?_ GE153.out) | exact HB.out)⟩⟩
            ·rw [if_neg c19] at H
             have c19b0 : ((bt a0 x6_1) == 92) = false := beq_eq_false_iff_ne.mpr c19
             have c19b1 : ((bt a0 x6_1) != 92) = true := bne_iff_ne.mpr c19
             (first | rw [c19b0] | (simp only [i64_w, i32_w]; rw [c19b0]) | skip)
             have H' := Aside0.mk H
             clear H
             go_wp2
             go_meet
             case rel => exact ⟨_, (true), (by first | rfl | (simp; done) | (simp [*]; done)), H', ⟨by have := HK1.out; have := HJ11.out; first | omega | exact Nat.le_refl _⟩, ⟨by (with_reducible repeat (first | apply Kd.R_alloc | apply Kd.R_drewN | apply Kd.R_drew)); exact HO_5.out⟩, ⟨by (with_reducible repeat (first | refine blk_drewN ?_ _ | refine blk_drew ?_ | refine blk_alloc ?_ _)); exact BK153.out⟩, ⟨by repeat (first | (with_reducible first | exact HB.out | apply below_alloc | apply pw_below_drewN | apply below_drew1 | refine below_set ?_ GE153.out) | exact HB.out)⟩⟩
           case rest =>
            clear HC18
            try clear c1
            try clear hcv1
            try clear p2
            try clear c3
            try clear c3b0
            try clear c4
            try clear c4b0
            try clear p5
            try clear q5
            try clear hx5
            try clear p6
            try clear c7
            try clear c7b0
            try clear c7b1
            try clear c8
            try clear c8b0
            try clear c8b1
            try clear c9
            try clear c9b0
            try clear c9b1
            try clear hcv10
            try clear c13
            try clear c13b0
            try clear c13b1
            try clear c14
            try clear c14b0
            try clear c15
            try clear c16
            try clear c19
            try clear c19b0
            try clear c19b1
            try clear hcz11_0
            try clear hcz11_1
            try clear hcz11_2
            try clear hcz11_3
            try clear hcz11_4
            try clear hfz11_0
            try clear hfz11_1
            try clear hfz11_2
            try clear hfz11_3
            try clear hfz11_4
            try clear p2
            try clear p5
            try clear p6
            try clear q5
            obtain ⟨kq, x46_17, rfl, HA, HJ17, HO_5, BK153, HB⟩ := hcut
            cases kq with
            | zero => exact absurd HA.out (by simp [lex_quoted.j2])
            | succ kj17 =>
             have H := HA.out
             clear HA
             simp only [lex_quoted.j2] at H
             by_cases c20 : x46_17 = true
             ·subst c20
              have H1 : (some (0, 0, (⟨#[]⟩ : ByteArray), 0, 0, 0, 61)) = some (r1, r2, r3, r4, r5, r6, r7) := by rw [if_pos rfl] at H; exact H
              clear H
              have H := H1
              clear H1
              simp only [Option.some.injEq, Prod.mk.injEq] at H
              obtain ⟨rfl, rfl, rfl, rfl, rfl, rfl, rfl⟩ := H
              have hcz21_0 : wc.cell? ⟨gb153, 0, none⟩ = some (.int .i64 x154000_1) := (blk_cell BK153.out 0).trans rfl
              have hcz21_1 : wc.cell? ⟨gb153, 1, none⟩ = some (.int .i64 x154001_1) := (blk_cell BK153.out 1).trans rfl
              have hcz21_2 : wc.cell? ⟨gb153, 2, none⟩ = some (.string x154002_1) := (blk_cell BK153.out 2).trans rfl
              have hcz21_3 : wc.cell? ⟨gb153, 3, none⟩ = some (.int .i64 x154003_1) := (blk_cell BK153.out 3).trans rfl
              have hcz21_4 : wc.cell? ⟨gb153, 4, none⟩ = some (.int .u64 x154004_1) := (blk_cell BK153.out 4).trans rfl
              have hfz21_0 := blk_frozen BK153.out 0
              have hfz21_1 := blk_frozen BK153.out 1
              have hfz21_2 := blk_frozen BK153.out 2
              have hfz21_3 := blk_frozen BK153.out 3
              have hfz21_4 := blk_frozen BK153.out 4
              go_wp2
              refine bodyPost_ret (results_ctt rfl _ _ gb153 30 #[.int .i64 0, .int .i64 0, .string (⟨#[]⟩ : ByteArray), .int .i64 0, .int .u64 0] (0, 0) _ rfl (by (with_reducible repeat (first | refine blk_drewN ?_ _ | refine blk_drew ?_ | refine blk_alloc ?_ _)); refine blk_put (cs := #[.int .i64 0, .int .i64 0, .string (⟨#[]⟩ : ByteArray), .int .i64 0, .int .u64 x154004_1]) ?_ 4 _ rfl; (with_reducible repeat (first | refine blk_drewN ?_ _ | refine blk_drew ?_ | refine blk_alloc ?_ _)); refine blk_put (cs := #[.int .i64 0, .int .i64 0, .string (⟨#[]⟩ : ByteArray), .int .i64 x154003_1, .int .u64 x154004_1]) ?_ 3 _ rfl; (with_reducible repeat (first | refine blk_drewN ?_ _ | refine blk_drew ?_ | refine blk_alloc ?_ _)); refine blk_put (cs := #[.int .i64 0, .int .i64 0, .string x154002_1, .int .i64 x154003_1, .int .u64 x154004_1]) ?_ 2 _ rfl; (with_reducible repeat (first | refine blk_drewN ?_ _ | refine blk_drew ?_ | refine blk_alloc ?_ _)); refine blk_put (cs := #[.int .i64 0, .int .i64 x154001_1, .string x154002_1, .int .i64 x154003_1, .int .u64 x154004_1]) ?_ 1 _ rfl; (with_reducible repeat (first | refine blk_drewN ?_ _ | refine blk_drew ?_ | refine blk_alloc ?_ _)); refine blk_put (cs := #[.int .i64 x154000_1, .int .i64 x154001_1, .string x154002_1, .int .i64 x154003_1, .int .u64 x154004_1]) ?_ 0 _ rfl; (with_reducible repeat (first | refine blk_drewN ?_ _ | refine blk_drew ?_ | refine blk_alloc ?_ _)); exact BK153.out) Tryd.underlying30 rfl (by kernel_rfl)) rfl ?_
              exact ⟨by first | rfl | (simp [errW_none, errW_some] <;> rfl) | (simp only [← hji6]; first | rfl | (simp [errW_none, errW_some] <;> rfl)) | (simp [*, errW_none, errW_some] <;> rfl), by repeat (first | (with_reducible first | exact HB.out | apply below_alloc | apply pw_below_drewN | apply below_drew1 | refine below_set ?_ GE153.out) | exact HB.out)⟩
             ·replace c20 := Bool.eq_false_iff.mpr c20
              subst c20
              have H1 : (if 0 < ((a0.extract ((ji6) : Int).toNat a0.size).size : Int) then (if (bt (a0.extract ((ji6) : Int).toNat a0.size) 0) = 92 then (lex_quoted.j3 kj17 a0 x5_1 x6_1 (a0.extract ((ji6) : Int).toNat a0.size) true) else (lex_quoted.j3 kj17 a0 x5_1 x6_1 (a0.extract ((ji6) : Int).toNat a0.size) ((bt (a0.extract ((ji6) : Int).toNat a0.size) 0) == 34))) else (none)) = some (r1, r2, r3, r4, r5, r6, r7) := by rw [if_neg (show ¬ (false = true) by decide)] at H; exact H
              clear H
              have H := H1
              clear H1
              have HC22 := Aside0.mk H
              clear H
              go_upto_region 14 with (fail)
              go_cut [54] (fun v54 wc => ∃ (kq : Nat) (x54_21 : Bool), v54 = .bool x54_21 ∧ Aside0 (lex_quoted.j3 kq a0 x5_1 x6_1 (a0.extract ((ji6) : Int).toNat a0.size) x54_21 = some (r1, r2, r3, r4, r5, r6, r7)) ∧ Aside0 (kq ≤ kj17) ∧ Aside0 (Kd.R (Kd.int .u8) 5 wc w.heap.size (fun _ => True) u5 x5_1) ∧ Aside0 (wc.heap[gb153]? = some (.cells #[.int .i64 x154000_1, .int .i64 x154001_1, .string x154002_1, .int .i64 x154003_1, .int .u64 x154004_1] 30 (0, 0))) ∧ Aside0 (Below w.heap.size w wc))
              case first =>
               have H := HC22.out
               clear HC22
               by_cases c23 : 0 < ((a0.extract ((ji6) : Int).toNat a0.size).size : Int)
               ·rw [if_pos c23] at H
                have c23b0 : decide (0 < ((a0.extract ((ji6) : Int).toNat a0.size).size : Int)) = true := decide_eq_true c23
                try (have c23b0v := c23b0; simp only [ByteArray.size_extract, Nat.min_self] at c23b0v)
                have c23b1 : decide (0 < (a0.extract ((ji6) : Int).toNat a0.size).size) = true := decide_eq_true (by omega)
                try (have c23b1v := c23b1; simp only [ByteArray.size_extract, Nat.min_self] at c23b1v)
                clear c23
                (first | rw [c23b0] | (simp only [i64_w, i32_w]; rw [c23b0]) | skip)
                by_cases c25 : (bt (a0.extract ((ji6) : Int).toNat a0.size) 0) = 92
                ·rw [if_pos c25] at H
                 have c25b0 : ((bt (a0.extract ((ji6) : Int).toNat a0.size) 0) == 92) = true := beq_iff_eq.mpr c25
                 have c25b1 : ((bt (a0.extract ((ji6) : Int).toNat a0.size) 0) != 92) = false := bne_eq_false_iff_eq.mpr c25
                 clear c25
                 have H' := Aside0.mk H
                 clear H
                 have p24 : 0 ≤ (0 : Int) := (by omega)
                 have q24 : 0 < (a0.extract ((ji6) : Int).toNat a0.size).size := (by have : (0 : Int) < ((a0.extract ((ji6) : Int).toNat a0.size).size : Int) := of_decide_eq_true (by first | (with_reducible assumption) | assumption); omega)
                 have hx24 : ∀ h : 0 < (a0.extract ((ji6) : Int).toNat a0.size).size, (((a0.extract ((ji6) : Int).toNat a0.size)[0]'h).toNat : Int) = bt (a0.extract ((ji6) : Int).toNat a0.size) 0 := bt_at (a0.extract ((ji6) : Int).toNat a0.size) 0
                 clear p24
                 have qi24 : (0 < ((a0.extract ((ji6) : Int).toNat a0.size).size : Int)) = True := eq_true (of_decide_eq_true (by first | (with_reducible assumption) | assumption))
                 try (have qi24v := of_eq_true qi24; simp only [ByteArray.size_extract, Nat.min_self] at qi24v; replace qi24v := eq_true qi24v)
                 replace q24 := eq_true q24
                 try (have q24v := of_eq_true q24; simp only [ByteArray.size_extract, Nat.min_self] at q24v; replace q24v := eq_true q24v)
                 go_wp2
                 go_meet
                 case rel => exact ⟨_, (true), (by first | rfl | (simp; done) | (simp [*]; done)), H', ⟨by have := HK1.out; have := HJ11.out; have := HJ17.out; first | omega | exact Nat.le_refl _⟩, ⟨by (with_reducible repeat (first | apply Kd.R_alloc | apply Kd.R_drewN | apply Kd.R_drew)); exact HO_5.out⟩, ⟨by (with_reducible repeat (first | refine blk_drewN ?_ _ | refine blk_drew ?_ | refine blk_alloc ?_ _)); exact BK153.out⟩, ⟨by repeat (first | (with_reducible first | exact HB.out | apply below_alloc | apply pw_below_drewN | apply below_drew1 | refine below_set ?_ GE153.out) | exact HB.out)⟩⟩
                ·rw [if_neg c25] at H
                 have c25b0 : ((bt (a0.extract ((ji6) : Int).toNat a0.size) 0) == 92) = false := beq_eq_false_iff_ne.mpr c25
                 have c25b1 : ((bt (a0.extract ((ji6) : Int).toNat a0.size) 0) != 92) = true := bne_iff_ne.mpr c25
                 have H' := Aside0.mk H
                 clear H
                 have p24 : 0 ≤ (0 : Int) := (by omega)
                 have q24 : 0 < (a0.extract ((ji6) : Int).toNat a0.size).size := (by have : (0 : Int) < ((a0.extract ((ji6) : Int).toNat a0.size).size : Int) := of_decide_eq_true (by first | (with_reducible assumption) | assumption); omega)
                 have hx24 : ∀ h : 0 < (a0.extract ((ji6) : Int).toNat a0.size).size, (((a0.extract ((ji6) : Int).toNat a0.size)[0]'h).toNat : Int) = bt (a0.extract ((ji6) : Int).toNat a0.size) 0 := bt_at (a0.extract ((ji6) : Int).toNat a0.size) 0
                 clear p24
                 have qi24 : (0 < ((a0.extract ((ji6) : Int).toNat a0.size).size : Int)) = True := eq_true (of_decide_eq_true (by first | (with_reducible assumption) | assumption))
                 try (have qi24v := of_eq_true qi24; simp only [ByteArray.size_extract, Nat.min_self] at qi24v; replace qi24v := eq_true qi24v)
                 replace q24 := eq_true q24
                 try (have q24v := of_eq_true q24; simp only [ByteArray.size_extract, Nat.min_self] at q24v; replace q24v := eq_true q24v)
                 have p26 : 0 ≤ (0 : Int) := (by omega)
                 have q26 : 0 < (a0.extract ((ji6) : Int).toNat a0.size).size := (by have : (0 : Int) < ((a0.extract ((ji6) : Int).toNat a0.size).size : Int) := of_decide_eq_true (by first | (with_reducible assumption) | assumption); omega)
                 have hx26 : ∀ h : 0 < (a0.extract ((ji6) : Int).toNat a0.size).size, (((a0.extract ((ji6) : Int).toNat a0.size)[0]'h).toNat : Int) = bt (a0.extract ((ji6) : Int).toNat a0.size) 0 := bt_at (a0.extract ((ji6) : Int).toNat a0.size) 0
                 clear p26
                 have qi26 : (0 < ((a0.extract ((ji6) : Int).toNat a0.size).size : Int)) = True := eq_true (of_decide_eq_true (by first | (with_reducible assumption) | assumption))
                 try (have qi26v := of_eq_true qi26; simp only [ByteArray.size_extract, Nat.min_self] at qi26v; replace qi26v := eq_true qi26v)
                 replace q26 := eq_true q26
                 try (have q26v := of_eq_true q26; simp only [ByteArray.size_extract, Nat.min_self] at q26v; replace q26v := eq_true q26v)
                 go_wp2
                 go_meet
                 case rel => exact ⟨_, (((bt (a0.extract ((ji6) : Int).toNat a0.size) 0) == 34)), (by first | rfl | (simp; done) | (simp only [← hji6] <;> (first | rfl | simp)) | (simp [*]; done)), H', ⟨by have := HK1.out; have := HJ11.out; have := HJ17.out; first | omega | exact Nat.le_refl _⟩, ⟨by (with_reducible repeat (first | apply Kd.R_alloc | apply Kd.R_drewN | apply Kd.R_drew)); exact HO_5.out⟩, ⟨by (with_reducible repeat (first | refine blk_drewN ?_ _ | refine blk_drew ?_ | refine blk_alloc ?_ _)); exact BK153.out⟩, ⟨by repeat (first | (with_reducible first | exact HB.out | apply below_alloc | apply pw_below_drewN | apply below_drew1 | refine below_set ?_ GE153.out) | exact HB.out)⟩⟩
               ·rw [if_neg c23] at H
                exact absurd H (by simp)
              case rest =>
               clear HC22
               try clear c1
               try clear hcv1
               try clear c2
               try clear p2
               try clear q2
               try clear hx2
               try clear qi2
               try clear c3
               try clear c3b0
               try clear c4
               try clear c4b0
               try clear p5
               try clear q5
               try clear hx5
               try clear p6
               try clear c7
               try clear c7b0
               try clear c7b1
               try clear c8
               try clear c8b0
               try clear c8b1
               try clear c9
               try clear c9b0
               try clear c9b1
               try clear hcv10
               try clear c13
               try clear c13b0
               try clear c13b1
               try clear c14
               try clear c14b0
               try clear c15
               try clear c16
               try clear c19
               try clear c19b0
               try clear c19b1
               try clear c20
               try clear c23
               try clear c23b0
               try clear c23b1
               try clear p24
               try clear q24
               try clear hx24
               try clear qi24
               try clear c25
               try clear c25b0
               try clear c25b1
               try clear p26
               try clear q26
               try clear hx26
               try clear qi26
               try clear hcz11_0
               try clear hcz11_1
               try clear hcz11_2
               try clear hcz11_3
               try clear hcz11_4
               try clear hcz21_0
               try clear hcz21_1
               try clear hcz21_2
               try clear hcz21_3
               try clear hcz21_4
               try clear hfz11_0
               try clear hfz11_1
               try clear hfz11_2
               try clear hfz11_3
               try clear hfz11_4
               try clear hfz21_0
               try clear hfz21_1
               try clear hfz21_2
               try clear hfz21_3
               try clear hfz21_4
               try clear p2
               try clear p24
               try clear p26
               try clear p5
               try clear p6
               try clear q24
               try clear q26
               try clear q5
               obtain ⟨kq, x54_21, rfl, HA, HJ21, HO_5, BK153, HB⟩ := hcut
               cases kq with
               | zero => exact absurd HA.out (by simp [lex_quoted.j3])
               | succ kj21 =>
                have H := HA.out
                clear HA
                simp only [lex_quoted.j3] at H
                by_cases c27 : x54_21 = true
                ·subst c27
                 have H1 : (if 0 < ((a0.extract ((ji6) : Int).toNat a0.size).size : Int) then (if x5_1.length < 140737488355328 then (lex_quoted.l0 kj21 a0 (x5_1 ++ [bt (a0.extract ((ji6) : Int).toNat a0.size) 0]) (wrap64 ((wrap64 (x6_1 + 1)) + 1))) else (none)) else (none)) = some (r1, r2, r3, r4, r5, r6, r7) := by rw [if_pos rfl] at H; exact H
                 clear H
                 have H := H1
                 clear H1
                 by_cases c28 : 0 < ((a0.extract ((ji6) : Int).toNat a0.size).size : Int)
                 ·rw [if_pos c28] at H
                  have c28b0 : decide (0 < ((a0.extract ((ji6) : Int).toNat a0.size).size : Int)) = true := decide_eq_true c28
                  try (have c28b0v := c28b0; simp only [ByteArray.size_extract, Nat.min_self] at c28b0v)
                  have c28b1 : decide (0 < (a0.extract ((ji6) : Int).toNat a0.size).size) = true := decide_eq_true (by omega)
                  try (have c28b1v := c28b1; simp only [ByteArray.size_extract, Nat.min_self] at c28b1v)
                  clear c28
                  by_cases c30 : x5_1.length < 140737488355328
                  ·rw [if_pos c30] at H
                   have LMc30 := Aside0.mk c30
                   clear c30
                   obtain ⟨y157, hy157⟩ : ∃ y_ : List Int, y_ = (x5_1 ++ [bt (a0.extract ((ji6) : Int).toNat a0.size) 0]) := ⟨_, rfl⟩
                   replace H : (lex_quoted.l0 kj21 a0 y157 (wrap64 ((wrap64 (x6_1 + 1)) + 1))) = some (r1, r2, r3, r4, r5, r6, r7) := by first | (rw [hy157]; with_reducible exact H) | (have H2_ := (Option.bind_some _ _).symm.trans H; rw [hy157]; with_reducible exact H2_) | (have H2_ := (Option.bind_some _ _).symm.trans H; with_reducible exact H2_) | with_reducible exact H | (rw [hy157]; exact H) | exact H
                   have Ny157 := Aside0.mk hy157
                   clear hy157
                   have H' := Aside0.mk H
                   clear H
                   have p29 : 0 ≤ (0 : Int) := (by omega)
                   have q29 : 0 < (a0.extract ((ji6) : Int).toNat a0.size).size := (by have : (0 : Int) < ((a0.extract ((ji6) : Int).toNat a0.size).size : Int) := of_decide_eq_true (by first | (with_reducible assumption) | assumption); omega)
                   have hx29 : ∀ h : 0 < (a0.extract ((ji6) : Int).toNat a0.size).size, (((a0.extract ((ji6) : Int).toNat a0.size)[0]'h).toNat : Int) = bt (a0.extract ((ji6) : Int).toNat a0.size) 0 := bt_at (a0.extract ((ji6) : Int).toNat a0.size) 0
                   clear p29
                   have qi29 : (0 < ((a0.extract ((ji6) : Int).toNat a0.size).size : Int)) = True := eq_true (of_decide_eq_true (by first | (with_reducible assumption) | assumption))
                   try (have qi29v := of_eq_true qi29; simp only [ByteArray.size_extract, Nat.min_self] at qi29v; replace qi29v := eq_true qi29v)
                   replace q29 := eq_true q29
                   try (have q29v := of_eq_true q29; simp only [ByteArray.size_extract, Nat.min_self] at q29v; replace q29v := eq_true q29v)
                   go_wp2_with (first | ((with_reducible refine gate_builtin (b := .append) (xs := #[.tmp 63, .tmp 66]) rfl ?_); at_builtin; refine Kd.R_append (Kd.int .u8) (w0 := w) w.heap.size rfl (.tmp 63) (.tmp 66) 36 5 (.int .u8 0) 1 rfl Tryd.underlying36 info5 rfl (by decide) (by omega) u5 x5_1 (bt (a0.extract ((ji6) : Int).toNat a0.size) 0) [.int .u8 (bt (a0.extract ((ji6) : Int).toNat a0.size) 0)] (fun _ => True) (fun _ => False) rfl rfl ?aP (fun _ hk => hk.elim) ?aF ?aO ?aB ?aS ?aL ?_; (case aP => exact rfl); (case aB => exact (by repeat (first | (with_reducible first | exact HB.out | apply below_alloc | apply pw_below_drewN | apply below_drew1 | refine below_set ?_ GE153.out) | exact HB.out))); (case aF => exact (fun _ _ => trivial)); (case aO => exact (by (with_reducible repeat (first | apply Kd.R_alloc | apply Kd.R_drewN | apply Kd.R_drew)); exact HO_5.out)); (case aS => exact (below_size (by repeat (first | (with_reducible first | exact HB.out | apply below_alloc | apply pw_below_drewN | apply below_drew1 | refine below_set ?_ GE153.out) | exact HB.out)))); (case aL => have := LMc30.out; omega); intro v158 w31 ho hb hg hat; rw [← Ny157.out] at ho; have n0_ := Aside0.mk (blk_grown (g := gb153) (o := .cells #[.int .i64 x154000_1, .int .i64 x154001_1, .string x154002_1, .int .i64 x154003_1, .int .u64 x154004_1] 30 (0, 0)) (by (with_reducible repeat (first | refine blk_drewN ?_ _ | refine blk_drew ?_ | refine blk_alloc ?_ _)); exact BK153.out) hg (Kd.R_ne HO_5.out BK153.out (by decide))); have n1_ := Aside0.mk (hb); have n2_ := Aside0.mk (ho); clear BK153; clear HB; clear HO_5; have BK153 := n0_; have HB := n1_; have HO159 := n2_; clear n0_ n1_ n2_; clear ho hb hg hat))
                   go_roundg kj21
                   case measure => have := HK1.out; have := HJ11.out; have := HJ17.out; have := HJ21.out; omega
                   case rel => exact ⟨(y157), (wrap64 ((wrap64 (x6_1 + 1)) + 1)), (x154000_1), (x154001_1), (x154002_1), (x154003_1), (x154004_1), (by first | rfl | (simp; done) | (simp [*]; done)), H', ⟨by have := HK1.out; have := HJ11.out; have := HJ17.out; have := HJ21.out; omega⟩, ⟨by (with_reducible repeat (first | apply Kd.R_alloc | apply Kd.R_drewN | apply Kd.R_drew)); exact HO159.out⟩, ⟨by (with_reducible repeat (first | refine blk_drewN ?_ _ | refine blk_drew ?_ | refine blk_alloc ?_ _)); exact BK153.out⟩, ⟨by repeat (first | (with_reducible first | exact HB.out | apply below_alloc | apply pw_below_drewN | apply below_drew1 | refine below_set ?_ GE153.out) | exact HB.out)⟩⟩
                  ·rw [if_neg c30] at H
                   exact absurd H (by simp)
                 ·rw [if_neg c28] at H
                  exact absurd H (by simp)
                ·replace c27 := Bool.eq_false_iff.mpr c27
                 subst c27
                 have H1 : (if 0 < ((a0.extract ((ji6) : Int).toNat a0.size).size : Int) then (if (bt (a0.extract ((ji6) : Int).toNat a0.size) 0) = 110 then (if x5_1.length < 140737488355328 then (lex_quoted.l0 kj21 a0 (x5_1 ++ [10]) (wrap64 ((wrap64 (x6_1 + 1)) + 1))) else (none)) else (if ((a0.extract ((ji6) : Int).toNat a0.size).size : Int) > 2 then (if (bt (a0.extract ((ji6) : Int).toNat a0.size) 0) = 120 then (if 1 < ((a0.extract ((ji6) : Int).toNat a0.size).size : Int) then ((lex_hex.f (bt (a0.extract ((ji6) : Int).toNat a0.size) 1)).bind fun t163 => (if t163 = true then (if 2 < ((a0.extract ((ji6) : Int).toNat a0.size).size : Int) then ((lex_hex.f (bt (a0.extract ((ji6) : Int).toNat a0.size) 2)).bind fun t164 => (lex_quoted.j4 kj21 a0 x5_1 x6_1 (a0.extract ((ji6) : Int).toNat a0.size) t164)) else (none)) else (lex_quoted.j4 kj21 a0 x5_1 x6_1 (a0.extract ((ji6) : Int).toNat a0.size) false))) else (none)) else (lex_quoted.j4 kj21 a0 x5_1 x6_1 (a0.extract ((ji6) : Int).toNat a0.size) false)) else (lex_quoted.j4 kj21 a0 x5_1 x6_1 (a0.extract ((ji6) : Int).toNat a0.size) false))) else (none)) = some (r1, r2, r3, r4, r5, r6, r7) := by rw [if_neg (show ¬ (false = true) by decide)] at H; exact H
                 clear H
                 have H := H1
                 clear H1
                 by_cases c32 : 0 < ((a0.extract ((ji6) : Int).toNat a0.size).size : Int)
                 ·rw [if_pos c32] at H
                  have c32b0 : decide (0 < ((a0.extract ((ji6) : Int).toNat a0.size).size : Int)) = true := decide_eq_true c32
                  try (have c32b0v := c32b0; simp only [ByteArray.size_extract, Nat.min_self] at c32b0v)
                  have c32b1 : decide (0 < (a0.extract ((ji6) : Int).toNat a0.size).size) = true := decide_eq_true (by omega)
                  try (have c32b1v := c32b1; simp only [ByteArray.size_extract, Nat.min_self] at c32b1v)
                  clear c32
                  by_cases c34 : (bt (a0.extract ((ji6) : Int).toNat a0.size) 0) = 110
                  ·rw [if_pos c34] at H
                   have c34b0 : ((bt (a0.extract ((ji6) : Int).toNat a0.size) 0) == 110) = true := beq_iff_eq.mpr c34
                   have c34b1 : ((bt (a0.extract ((ji6) : Int).toNat a0.size) 0) != 110) = false := bne_eq_false_iff_eq.mpr c34
                   clear c34
                   by_cases c35 : x5_1.length < 140737488355328
                   ·rw [if_pos c35] at H
                    have LMc35 := Aside0.mk c35
                    clear c35
                    obtain ⟨y160, hy160⟩ : ∃ y_ : List Int, y_ = (x5_1 ++ [10]) := ⟨_, rfl⟩
                    replace H : (lex_quoted.l0 kj21 a0 y160 (wrap64 ((wrap64 (x6_1 + 1)) + 1))) = some (r1, r2, r3, r4, r5, r6, r7) := by first | (rw [hy160]; with_reducible exact H) | (have H2_ := (Option.bind_some _ _).symm.trans H; rw [hy160]; with_reducible exact H2_) | (have H2_ := (Option.bind_some _ _).symm.trans H; with_reducible exact H2_) | with_reducible exact H | (rw [hy160]; exact H) | exact H
                    have Ny160 := Aside0.mk hy160
                    clear hy160
                    have H' := Aside0.mk H
                    clear H
                    have p33 : 0 ≤ (0 : Int) := (by omega)
                    have q33 : 0 < (a0.extract ((ji6) : Int).toNat a0.size).size := (by have : (0 : Int) < ((a0.extract ((ji6) : Int).toNat a0.size).size : Int) := of_decide_eq_true (by first | (with_reducible assumption) | assumption); omega)
                    have hx33 : ∀ h : 0 < (a0.extract ((ji6) : Int).toNat a0.size).size, (((a0.extract ((ji6) : Int).toNat a0.size)[0]'h).toNat : Int) = bt (a0.extract ((ji6) : Int).toNat a0.size) 0 := bt_at (a0.extract ((ji6) : Int).toNat a0.size) 0
                    clear p33
                    have qi33 : (0 < ((a0.extract ((ji6) : Int).toNat a0.size).size : Int)) = True := eq_true (of_decide_eq_true (by first | (with_reducible assumption) | assumption))
                    try (have qi33v := of_eq_true qi33; simp only [ByteArray.size_extract, Nat.min_self] at qi33v; replace qi33v := eq_true qi33v)
                    replace q33 := eq_true q33
                    try (have q33v := of_eq_true q33; simp only [ByteArray.size_extract, Nat.min_self] at q33v; replace q33v := eq_true q33v)
                    go_wp2_with (first | ((with_reducible refine gate_builtin (b := .append) (xs := #[.tmp 74, .tmp 75]) rfl ?_); at_builtin; refine Kd.R_append (Kd.int .u8) (w0 := w) w.heap.size rfl (.tmp 74) (.tmp 75) 36 5 (.int .u8 0) 1 rfl Tryd.underlying36 info5 rfl (by decide) (by omega) u5 x5_1 10 [.int .u8 10] (fun _ => True) (fun _ => False) rfl rfl ?aP (fun _ hk => hk.elim) ?aF ?aO ?aB ?aS ?aL ?_; (case aP => exact rfl); (case aB => exact (by repeat (first | (with_reducible first | exact HB.out | apply below_alloc | apply pw_below_drewN | apply below_drew1 | refine below_set ?_ GE153.out) | exact HB.out))); (case aF => exact (fun _ _ => trivial)); (case aO => exact (by (with_reducible repeat (first | apply Kd.R_alloc | apply Kd.R_drewN | apply Kd.R_drew)); exact HO_5.out)); (case aS => exact (below_size (by repeat (first | (with_reducible first | exact HB.out | apply below_alloc | apply pw_below_drewN | apply below_drew1 | refine below_set ?_ GE153.out) | exact HB.out)))); (case aL => have := LMc35.out; omega); intro v161 w36 ho hb hg hat; rw [← Ny160.out] at ho; have n0_ := Aside0.mk (blk_grown (g := gb153) (o := .cells #[.int .i64 x154000_1, .int .i64 x154001_1, .string x154002_1, .int .i64 x154003_1, .int .u64 x154004_1] 30 (0, 0)) (by (with_reducible repeat (first | refine blk_drewN ?_ _ | refine blk_drew ?_ | refine blk_alloc ?_ _)); exact BK153.out) hg (Kd.R_ne HO_5.out BK153.out (by decide))); have n1_ := Aside0.mk (hb); have n2_ := Aside0.mk (ho); clear BK153; clear HB; clear HO_5; have BK153 := n0_; have HB := n1_; have HO162 := n2_; clear n0_ n1_ n2_; clear ho hb hg hat))
                    go_roundg kj21
                    case measure => have := HK1.out; have := HJ11.out; have := HJ17.out; have := HJ21.out; omega
                    case rel => exact ⟨(y160), (wrap64 ((wrap64 (x6_1 + 1)) + 1)), (x154000_1), (x154001_1), (x154002_1), (x154003_1), (x154004_1), (by first | rfl | (simp; done) | (simp [*]; done)), H', ⟨by have := HK1.out; have := HJ11.out; have := HJ17.out; have := HJ21.out; omega⟩, ⟨by (with_reducible repeat (first | apply Kd.R_alloc | apply Kd.R_drewN | apply Kd.R_drew)); exact HO162.out⟩, ⟨by (with_reducible repeat (first | refine blk_drewN ?_ _ | refine blk_drew ?_ | refine blk_alloc ?_ _)); exact BK153.out⟩, ⟨by repeat (first | (with_reducible first | exact HB.out | apply below_alloc | apply pw_below_drewN | apply below_drew1 | refine below_set ?_ GE153.out) | exact HB.out)⟩⟩
                   ·rw [if_neg c35] at H
                    exact absurd H (by simp)
                  ·rw [if_neg c34] at H
                   have c34b0 : ((bt (a0.extract ((ji6) : Int).toNat a0.size) 0) == 110) = false := beq_eq_false_iff_ne.mpr c34
                   have c34b1 : ((bt (a0.extract ((ji6) : Int).toNat a0.size) 0) != 110) = true := bne_iff_ne.mpr c34
                   have HC37 := Aside0.mk H
                   clear H
                   have p33 : 0 ≤ (0 : Int) := (by omega)
                   have q33 : 0 < (a0.extract ((ji6) : Int).toNat a0.size).size := (by have : (0 : Int) < ((a0.extract ((ji6) : Int).toNat a0.size).size : Int) := of_decide_eq_true (by first | (with_reducible assumption) | assumption); omega)
                   have hx33 : ∀ h : 0 < (a0.extract ((ji6) : Int).toNat a0.size).size, (((a0.extract ((ji6) : Int).toNat a0.size)[0]'h).toNat : Int) = bt (a0.extract ((ji6) : Int).toNat a0.size) 0 := bt_at (a0.extract ((ji6) : Int).toNat a0.size) 0
                   clear p33
                   have qi33 : (0 < ((a0.extract ((ji6) : Int).toNat a0.size).size : Int)) = True := eq_true (of_decide_eq_true (by first | (with_reducible assumption) | assumption))
                   try (have qi33v := of_eq_true qi33; simp only [ByteArray.size_extract, Nat.min_self] at qi33v; replace qi33v := eq_true qi33v)
                   replace q33 := eq_true q33
                   try (have q33v := of_eq_true q33; simp only [ByteArray.size_extract, Nat.min_self] at q33v; replace q33v := eq_true q33v)
                   go_upto_region 20 with (fail)
                   go_cut [79] (fun v79 wc => ∃ (kq : Nat) (x79_36 : Bool), v79 = .bool x79_36 ∧ Aside0 (lex_quoted.j4 kq a0 x5_1 x6_1 (a0.extract ((ji6) : Int).toNat a0.size) x79_36 = some (r1, r2, r3, r4, r5, r6, r7)) ∧ Aside0 (kq ≤ kj21) ∧ Aside0 (Kd.R (Kd.int .u8) 5 wc w.heap.size (fun _ => True) u5 x5_1) ∧ Aside0 (wc.heap[gb153]? = some (.cells #[.int .i64 x154000_1, .int .i64 x154001_1, .string x154002_1, .int .i64 x154003_1, .int .u64 x154004_1] 30 (0, 0))) ∧ Aside0 (Below w.heap.size w wc))
                   case first =>
                    have H := HC37.out
                    clear HC37
                    by_cases c38 : ((a0.extract ((ji6) : Int).toNat a0.size).size : Int) > 2
                    ·rw [if_pos c38] at H
                     have c38b0 : decide (2 < ((a0.extract ((ji6) : Int).toNat a0.size).size : Int)) = true := decide_eq_true c38
                     try (have c38b0v := c38b0; simp only [ByteArray.size_extract, Nat.min_self] at c38b0v)
                     have c38b1 : decide (2 < (a0.extract ((ji6) : Int).toNat a0.size).size) = true := decide_eq_true (by omega)
                     try (have c38b1v := c38b1; simp only [ByteArray.size_extract, Nat.min_self] at c38b1v)
                     clear c38
                     (first | rw [c38b0] | (simp only [i64_w, i32_w]; rw [c38b0]) | skip)
                     by_cases c40 : (bt (a0.extract ((ji6) : Int).toNat a0.size) 0) = 120
                     ·rw [if_pos c40] at H
                      have c40b0 : ((bt (a0.extract ((ji6) : Int).toNat a0.size) 0) == 120) = true := beq_iff_eq.mpr c40
                      have c40b1 : ((bt (a0.extract ((ji6) : Int).toNat a0.size) 0) != 120) = false := bne_eq_false_iff_eq.mpr c40
                      clear c40
                      by_cases c41 : 1 < ((a0.extract ((ji6) : Int).toNat a0.size).size : Int)
                      ·rw [if_pos c41] at H
                       have c41b0 : decide (1 < ((a0.extract ((ji6) : Int).toNat a0.size).size : Int)) = true := decide_eq_true c41
                       try (have c41b0v := c41b0; simp only [ByteArray.size_extract, Nat.min_self] at c41b0v)
                       have c41b1 : decide (1 < (a0.extract ((ji6) : Int).toNat a0.size).size) = true := decide_eq_true (by omega)
                       try (have c41b1v := c41b1; simp only [ByteArray.size_extract, Nat.min_self] at c41b1v)
                       clear c41
                       replace H := Option.bind_eq_some_iff.mp H
                       obtain ⟨t163, A430, H⟩ := H
                       replace H : (if t163 = true then (if 2 < ((a0.extract ((ji6) : Int).toNat a0.size).size : Int) then ((lex_hex.f (bt (a0.extract ((ji6) : Int).toNat a0.size) 2)).bind fun t164 => (lex_quoted.j4 kj21 a0 x5_1 x6_1 (a0.extract ((ji6) : Int).toNat a0.size) t164)) else (none)) else (lex_quoted.j4 kj21 a0 x5_1 x6_1 (a0.extract ((ji6) : Int).toNat a0.size) false)) = some (r1, r2, r3, r4, r5, r6, r7) := H
                       have A43 := Aside0.mk A430
                       clear A430
                       by_cases c44 : t163 = true
                       ·subst c44
                        have H1 : (if 2 < ((a0.extract ((ji6) : Int).toNat a0.size).size : Int) then ((lex_hex.f (bt (a0.extract ((ji6) : Int).toNat a0.size) 2)).bind fun t164 => (lex_quoted.j4 kj21 a0 x5_1 x6_1 (a0.extract ((ji6) : Int).toNat a0.size) t164)) else (none)) = some (r1, r2, r3, r4, r5, r6, r7) := by rw [if_pos rfl] at H; exact H
                        clear H
                        have H := H1
                        clear H1
                        by_cases c45 : 2 < ((a0.extract ((ji6) : Int).toNat a0.size).size : Int)
                        ·rw [if_pos c45] at H
                         have c45b0 : decide (2 < ((a0.extract ((ji6) : Int).toNat a0.size).size : Int)) = true := decide_eq_true c45
                         try (have c45b0v := c45b0; simp only [ByteArray.size_extract, Nat.min_self] at c45b0v)
                         have c45b1 : decide (2 < (a0.extract ((ji6) : Int).toNat a0.size).size) = true := decide_eq_true (by omega)
                         try (have c45b1v := c45b1; simp only [ByteArray.size_extract, Nat.min_self] at c45b1v)
                         clear c45
                         replace H := Option.bind_eq_some_iff.mp H
                         obtain ⟨t164, A470, H⟩ := H
                         replace H : (lex_quoted.j4 kj21 a0 x5_1 x6_1 (a0.extract ((ji6) : Int).toNat a0.size) t164) = some (r1, r2, r3, r4, r5, r6, r7) := H
                         have A47 := Aside0.mk A470
                         clear A470
                         have H' := Aside0.mk H
                         clear H
                         have p39 : 0 ≤ (0 : Int) := (by omega)
                         have q39 : 0 < (a0.extract ((ji6) : Int).toNat a0.size).size := (by have : (0 : Int) < ((a0.extract ((ji6) : Int).toNat a0.size).size : Int) := of_decide_eq_true (by first | (with_reducible assumption) | assumption); omega)
                         have hx39 : ∀ h : 0 < (a0.extract ((ji6) : Int).toNat a0.size).size, (((a0.extract ((ji6) : Int).toNat a0.size)[0]'h).toNat : Int) = bt (a0.extract ((ji6) : Int).toNat a0.size) 0 := bt_at (a0.extract ((ji6) : Int).toNat a0.size) 0
                         clear p39
                         have qi39 : (0 < ((a0.extract ((ji6) : Int).toNat a0.size).size : Int)) = True := eq_true (of_decide_eq_true (by first | (with_reducible assumption) | assumption))
                         try (have qi39v := of_eq_true qi39; simp only [ByteArray.size_extract, Nat.min_self] at qi39v; replace qi39v := eq_true qi39v)
                         replace q39 := eq_true q39
                         try (have q39v := of_eq_true q39; simp only [ByteArray.size_extract, Nat.min_self] at q39v; replace q39v := eq_true q39v)
                         have p42 : 0 ≤ (1 : Int) := (by omega)
                         have q42 : 1 < (a0.extract ((ji6) : Int).toNat a0.size).size := (by have : (1 : Int) < ((a0.extract ((ji6) : Int).toNat a0.size).size : Int) := of_decide_eq_true (by first | (with_reducible assumption) | assumption); omega)
                         have hx42 : ∀ h : 1 < (a0.extract ((ji6) : Int).toNat a0.size).size, (((a0.extract ((ji6) : Int).toNat a0.size)[1]'h).toNat : Int) = bt (a0.extract ((ji6) : Int).toNat a0.size) 1 := bt_at (a0.extract ((ji6) : Int).toNat a0.size) 1
                         clear p42
                         have qi42 : (1 < ((a0.extract ((ji6) : Int).toNat a0.size).size : Int)) = True := eq_true (of_decide_eq_true (by first | (with_reducible assumption) | assumption))
                         try (have qi42v := of_eq_true qi42; simp only [ByteArray.size_extract, Nat.min_self] at qi42v; replace qi42v := eq_true qi42v)
                         replace q42 := eq_true q42
                         try (have q42v := of_eq_true q42; simp only [ByteArray.size_extract, Nat.min_self] at q42v; replace q42v := eq_true q42v)
                         go_wp2_with (first | (go_at_call 60; (with_reducible refine (lex_hex.calls (bt (a0.extract ((ji6) : Int).toNat a0.size) 1) true _ A43.out).mono ?_); rintro e w' ⟨rfl, ⟨nd, rfl⟩⟩; have p46 : 0 ≤ (2 : Int) := (by omega); have q46 : 2 < (a0.extract ((ji6) : Int).toNat a0.size).size := (by have : (2 : Int) < ((a0.extract ((ji6) : Int).toNat a0.size).size : Int) := of_decide_eq_true (by first | (with_reducible assumption) | assumption); omega); have hx46 : ∀ h : 2 < (a0.extract ((ji6) : Int).toNat a0.size).size, (((a0.extract ((ji6) : Int).toNat a0.size)[2]'h).toNat : Int) = bt (a0.extract ((ji6) : Int).toNat a0.size) 2 := bt_at (a0.extract ((ji6) : Int).toNat a0.size) 2; clear p46; have qi46 : (2 < ((a0.extract ((ji6) : Int).toNat a0.size).size : Int)) = True := eq_true (of_decide_eq_true (by first | (with_reducible assumption) | assumption)); try (have qi46v := of_eq_true qi46; simp only [ByteArray.size_extract, Nat.min_self] at qi46v; replace qi46v := eq_true qi46v); replace q46 := eq_true q46; try (have q46v := of_eq_true q46; simp only [ByteArray.size_extract, Nat.min_self] at q46v; replace q46v := eq_true q46v)) | (go_at_call 60; (with_reducible refine (lex_hex.calls (bt (a0.extract ((ji6) : Int).toNat a0.size) 2) t164 _ A47.out).mono ?_); rintro e w' ⟨rfl, ⟨nd, rfl⟩⟩))
                         go_meet
                         case rel => exact ⟨_, (t164), (by first | rfl | (simp; done) | (simp [*]; done)), H', ⟨by have := HK1.out; have := HJ11.out; have := HJ17.out; have := HJ21.out; first | omega | exact Nat.le_refl _⟩, ⟨by (with_reducible repeat (first | apply Kd.R_alloc | apply Kd.R_drewN | apply Kd.R_drew)); exact HO_5.out⟩, ⟨by (with_reducible repeat (first | refine blk_drewN ?_ _ | refine blk_drew ?_ | refine blk_alloc ?_ _)); exact BK153.out⟩, ⟨by repeat (first | (with_reducible first | exact HB.out | apply below_alloc | apply pw_below_drewN | apply below_drew1 | refine below_set ?_ GE153.out) | exact HB.out)⟩⟩
                        ·rw [if_neg c45] at H
                         exact absurd H (by simp)
                       ·replace c44 := Bool.eq_false_iff.mpr c44
                        subst c44
                        have H1 : (lex_quoted.j4 kj21 a0 x5_1 x6_1 (a0.extract ((ji6) : Int).toNat a0.size) false) = some (r1, r2, r3, r4, r5, r6, r7) := by rw [if_neg (show ¬ (false = true) by decide)] at H; exact H
                        clear H
                        have H := H1
                        clear H1
                        have H' := Aside0.mk H
                        clear H
                        have p39 : 0 ≤ (0 : Int) := (by omega)
                        have q39 : 0 < (a0.extract ((ji6) : Int).toNat a0.size).size := (by have : (0 : Int) < ((a0.extract ((ji6) : Int).toNat a0.size).size : Int) := of_decide_eq_true (by first | (with_reducible assumption) | assumption); omega)
                        have hx39 : ∀ h : 0 < (a0.extract ((ji6) : Int).toNat a0.size).size, (((a0.extract ((ji6) : Int).toNat a0.size)[0]'h).toNat : Int) = bt (a0.extract ((ji6) : Int).toNat a0.size) 0 := bt_at (a0.extract ((ji6) : Int).toNat a0.size) 0
                        clear p39
                        have qi39 : (0 < ((a0.extract ((ji6) : Int).toNat a0.size).size : Int)) = True := eq_true (of_decide_eq_true (by first | (with_reducible assumption) | assumption))
                        try (have qi39v := of_eq_true qi39; simp only [ByteArray.size_extract, Nat.min_self] at qi39v; replace qi39v := eq_true qi39v)
                        replace q39 := eq_true q39
                        try (have q39v := of_eq_true q39; simp only [ByteArray.size_extract, Nat.min_self] at q39v; replace q39v := eq_true q39v)
                        have p42 : 0 ≤ (1 : Int) := (by omega)
                        have q42 : 1 < (a0.extract ((ji6) : Int).toNat a0.size).size := (by have : (1 : Int) < ((a0.extract ((ji6) : Int).toNat a0.size).size : Int) := of_decide_eq_true (by first | (with_reducible assumption) | assumption); omega)
                        have hx42 : ∀ h : 1 < (a0.extract ((ji6) : Int).toNat a0.size).size, (((a0.extract ((ji6) : Int).toNat a0.size)[1]'h).toNat : Int) = bt (a0.extract ((ji6) : Int).toNat a0.size) 1 := bt_at (a0.extract ((ji6) : Int).toNat a0.size) 1
                        clear p42
                        have qi42 : (1 < ((a0.extract ((ji6) : Int).toNat a0.size).size : Int)) = True := eq_true (of_decide_eq_true (by first | (with_reducible assumption) | assumption))
                        try (have qi42v := of_eq_true qi42; simp only [ByteArray.size_extract, Nat.min_self] at qi42v; replace qi42v := eq_true qi42v)
                        replace q42 := eq_true q42
                        try (have q42v := of_eq_true q42; simp only [ByteArray.size_extract, Nat.min_self] at q42v; replace q42v := eq_true q42v)
                        go_wp2_with (first | (go_at_call 60; (with_reducible refine (lex_hex.calls (bt (a0.extract ((ji6) : Int).toNat a0.size) 1) false _ A43.out).mono ?_); rintro e w' ⟨rfl, ⟨nd, rfl⟩⟩))
                        go_meet
                        case rel => exact ⟨_, (false), (by first | rfl | (simp; done) | (simp [*]; done)), H', ⟨by have := HK1.out; have := HJ11.out; have := HJ17.out; have := HJ21.out; first | omega | exact Nat.le_refl _⟩, ⟨by (with_reducible repeat (first | apply Kd.R_alloc | apply Kd.R_drewN | apply Kd.R_drew)); exact HO_5.out⟩, ⟨by (with_reducible repeat (first | refine blk_drewN ?_ _ | refine blk_drew ?_ | refine blk_alloc ?_ _)); exact BK153.out⟩, ⟨by repeat (first | (with_reducible first | exact HB.out | apply below_alloc | apply pw_below_drewN | apply below_drew1 | refine below_set ?_ GE153.out) | exact HB.out)⟩⟩
                      ·rw [if_neg c41] at H
                       exact absurd H (by simp)
                     ·rw [if_neg c40] at H
                      have c40b0 : ((bt (a0.extract ((ji6) : Int).toNat a0.size) 0) == 120) = false := beq_eq_false_iff_ne.mpr c40
                      have c40b1 : ((bt (a0.extract ((ji6) : Int).toNat a0.size) 0) != 120) = true := bne_iff_ne.mpr c40
                      have H' := Aside0.mk H
                      clear H
                      have p39 : 0 ≤ (0 : Int) := (by omega)
                      have q39 : 0 < (a0.extract ((ji6) : Int).toNat a0.size).size := (by have : (0 : Int) < ((a0.extract ((ji6) : Int).toNat a0.size).size : Int) := of_decide_eq_true (by first | (with_reducible assumption) | assumption); omega)
                      have hx39 : ∀ h : 0 < (a0.extract ((ji6) : Int).toNat a0.size).size, (((a0.extract ((ji6) : Int).toNat a0.size)[0]'h).toNat : Int) = bt (a0.extract ((ji6) : Int).toNat a0.size) 0 := bt_at (a0.extract ((ji6) : Int).toNat a0.size) 0
                      clear p39
                      have qi39 : (0 < ((a0.extract ((ji6) : Int).toNat a0.size).size : Int)) = True := eq_true (of_decide_eq_true (by first | (with_reducible assumption) | assumption))
                      try (have qi39v := of_eq_true qi39; simp only [ByteArray.size_extract, Nat.min_self] at qi39v; replace qi39v := eq_true qi39v)
                      replace q39 := eq_true q39
                      try (have q39v := of_eq_true q39; simp only [ByteArray.size_extract, Nat.min_self] at q39v; replace q39v := eq_true q39v)
                      go_wp2
                      go_meet
                      case rel => exact ⟨_, (false), (by first | rfl | (simp; done) | (simp [*]; done)), H', ⟨by have := HK1.out; have := HJ11.out; have := HJ17.out; have := HJ21.out; first | omega | exact Nat.le_refl _⟩, ⟨by (with_reducible repeat (first | apply Kd.R_alloc | apply Kd.R_drewN | apply Kd.R_drew)); exact HO_5.out⟩, ⟨by (with_reducible repeat (first | refine blk_drewN ?_ _ | refine blk_drew ?_ | refine blk_alloc ?_ _)); exact BK153.out⟩, ⟨by repeat (first | (with_reducible first | exact HB.out | apply below_alloc | apply pw_below_drewN | apply below_drew1 | refine below_set ?_ GE153.out) | exact HB.out)⟩⟩
                    ·rw [if_neg c38] at H
                     have c38b0 : decide (2 < ((a0.extract ((ji6) : Int).toNat a0.size).size : Int)) = false := decide_eq_false c38
                     try (have c38b0v := c38b0; simp only [ByteArray.size_extract, Nat.min_self] at c38b0v)
                     have c38b1 : decide (2 < (a0.extract ((ji6) : Int).toNat a0.size).size) = false := decide_eq_false (by omega)
                     try (have c38b1v := c38b1; simp only [ByteArray.size_extract, Nat.min_self] at c38b1v)
                     clear c38
                     (first | rw [c38b0] | (simp only [i64_w, i32_w]; rw [c38b0]) | skip)
                     have H' := Aside0.mk H
                     clear H
                     go_wp2
                     go_meet
                     case rel => exact ⟨_, (false), (by first | rfl | (simp; done) | (simp [*]; done)), H', ⟨by have := HK1.out; have := HJ11.out; have := HJ17.out; have := HJ21.out; first | omega | exact Nat.le_refl _⟩, ⟨by (with_reducible repeat (first | apply Kd.R_alloc | apply Kd.R_drewN | apply Kd.R_drew)); exact HO_5.out⟩, ⟨by (with_reducible repeat (first | refine blk_drewN ?_ _ | refine blk_drew ?_ | refine blk_alloc ?_ _)); exact BK153.out⟩, ⟨by repeat (first | (with_reducible first | exact HB.out | apply below_alloc | apply pw_below_drewN | apply below_drew1 | refine below_set ?_ GE153.out) | exact HB.out)⟩⟩
                   case rest =>
                    clear HC37
                    try clear c1
                    try clear hcv1
                    try clear c2
                    try clear p2
                    try clear q2
                    try clear hx2
                    try clear qi2
                    try clear c3
                    try clear c3b0
                    try clear p3
                    try clear q3
                    try clear hx3
                    try clear qi3
                    try clear c4
                    try clear c4b0
                    try clear p4
                    try clear q4
                    try clear hx4
                    try clear qi4
                    try clear p5
                    try clear q5
                    try clear hx5
                    try clear p6
                    try clear c7
                    try clear c7b0
                    try clear c7b1
                    try clear c8
                    try clear c8b0
                    try clear c8b1
                    try clear c9
                    try clear c9b0
                    try clear c9b1
                    try clear hcv10
                    try clear c13
                    try clear c13b0
                    try clear c13b1
                    try clear c14
                    try clear c14b0
                    try clear c15
                    try clear c16
                    try clear c19
                    try clear c19b0
                    try clear c19b1
                    try clear c20
                    try clear c23
                    try clear c23b0
                    try clear c23b1
                    try clear p24
                    try clear q24
                    try clear hx24
                    try clear qi24
                    try clear c25
                    try clear c25b0
                    try clear c25b1
                    try clear p26
                    try clear q26
                    try clear hx26
                    try clear qi26
                    try clear c27
                    try clear c28
                    try clear c28b0
                    try clear c28b1
                    try clear p29
                    try clear q29
                    try clear hx29
                    try clear qi29
                    try clear c30
                    try clear c32
                    try clear c32b0
                    try clear c32b1
                    try clear p33
                    try clear q33
                    try clear hx33
                    try clear qi33
                    try clear c34
                    try clear c34b0
                    try clear c34b1
                    try clear c35
                    try clear c38
                    try clear c38b0
                    try clear c38b1
                    try clear p39
                    try clear q39
                    try clear hx39
                    try clear qi39
                    try clear c40
                    try clear c40b0
                    try clear c40b1
                    try clear c41
                    try clear c41b0
                    try clear c41b1
                    try clear p42
                    try clear q42
                    try clear hx42
                    try clear qi42
                    try clear c44
                    try clear c45
                    try clear c45b0
                    try clear c45b1
                    try clear p46
                    try clear q46
                    try clear hx46
                    try clear qi46
                    try clear hcz11_0
                    try clear hcz11_1
                    try clear hcz11_2
                    try clear hcz11_3
                    try clear hcz11_4
                    try clear hcz21_0
                    try clear hcz21_1
                    try clear hcz21_2
                    try clear hcz21_3
                    try clear hcz21_4
                    try clear hfz11_0
                    try clear hfz11_1
                    try clear hfz11_2
                    try clear hfz11_3
                    try clear hfz11_4
                    try clear hfz21_0
                    try clear hfz21_1
                    try clear hfz21_2
                    try clear hfz21_3
                    try clear hfz21_4
                    try clear p2
                    try clear p24
                    try clear p26
                    try clear p29
                    try clear p33
                    try clear p39
                    try clear p42
                    try clear p46
                    try clear p5
                    try clear p6
                    try clear q2
                    try clear q24
                    try clear q26
                    try clear q29
                    try clear q33
                    try clear q39
                    try clear q42
                    try clear q46
                    try clear q5
                    obtain ⟨kq, x79_36, rfl, HA, HJ36, HO_5, BK153, HB⟩ := hcut
                    cases kq with
                    | zero => exact absurd HA.out (by simp [lex_quoted.j4])
                    | succ kj36 =>
                     have H := HA.out
                     clear HA
                     simp only [lex_quoted.j4] at H
                     by_cases c48 : x79_36 = true
                     ·subst c48
                      have H1 : (if 1 < ((a0.extract ((ji6) : Int).toNat a0.size).size : Int) then ((lex_value.f (bt (a0.extract ((ji6) : Int).toNat a0.size) 1)).bind fun t165 => (if 2 < ((a0.extract ((ji6) : Int).toNat a0.size).size : Int) then ((lex_value.f (bt (a0.extract ((ji6) : Int).toNat a0.size) 2)).bind fun t166 => (if x5_1.length < 140737488355328 then (lex_quoted.l0 kj36 a0 (x5_1 ++ [Go.bits .or .u8 ((t165 * 16) % 256) t166]) (wrap64 ((wrap64 (x6_1 + 3)) + 1))) else (none))) else (none))) else (none)) = some (r1, r2, r3, r4, r5, r6, r7) := by rw [if_pos rfl] at H; exact H
                      clear H
                      have H := H1
                      clear H1
                      by_cases c49 : 1 < ((a0.extract ((ji6) : Int).toNat a0.size).size : Int)
                      ·rw [if_pos c49] at H
                       have c49b0 : decide (1 < ((a0.extract ((ji6) : Int).toNat a0.size).size : Int)) = true := decide_eq_true c49
                       try (have c49b0v := c49b0; simp only [ByteArray.size_extract, Nat.min_self] at c49b0v)
                       have c49b1 : decide (1 < (a0.extract ((ji6) : Int).toNat a0.size).size) = true := decide_eq_true (by omega)
                       try (have c49b1v := c49b1; simp only [ByteArray.size_extract, Nat.min_self] at c49b1v)
                       clear c49
                       replace H := Option.bind_eq_some_iff.mp H
                       obtain ⟨t165, A510, H⟩ := H
                       replace H : (if 2 < ((a0.extract ((ji6) : Int).toNat a0.size).size : Int) then ((lex_value.f (bt (a0.extract ((ji6) : Int).toNat a0.size) 2)).bind fun t166 => (if x5_1.length < 140737488355328 then (lex_quoted.l0 kj36 a0 (x5_1 ++ [Go.bits .or .u8 ((t165 * 16) % 256) t166]) (wrap64 ((wrap64 (x6_1 + 3)) + 1))) else (none))) else (none)) = some (r1, r2, r3, r4, r5, r6, r7) := H
                       have A51 := Aside0.mk A510
                       clear A510
                       by_cases c52 : 2 < ((a0.extract ((ji6) : Int).toNat a0.size).size : Int)
                       ·rw [if_pos c52] at H
                        have c52b0 : decide (2 < ((a0.extract ((ji6) : Int).toNat a0.size).size : Int)) = true := decide_eq_true c52
                        try (have c52b0v := c52b0; simp only [ByteArray.size_extract, Nat.min_self] at c52b0v)
                        have c52b1 : decide (2 < (a0.extract ((ji6) : Int).toNat a0.size).size) = true := decide_eq_true (by omega)
                        try (have c52b1v := c52b1; simp only [ByteArray.size_extract, Nat.min_self] at c52b1v)
                        clear c52
                        replace H := Option.bind_eq_some_iff.mp H
                        obtain ⟨t166, A540, H⟩ := H
                        replace H : (if x5_1.length < 140737488355328 then (lex_quoted.l0 kj36 a0 (x5_1 ++ [Go.bits .or .u8 ((t165 * 16) % 256) t166]) (wrap64 ((wrap64 (x6_1 + 3)) + 1))) else (none)) = some (r1, r2, r3, r4, r5, r6, r7) := H
                        have A54 := Aside0.mk A540
                        clear A540
                        by_cases c55 : x5_1.length < 140737488355328
                        ·rw [if_pos c55] at H
                         have LMc55 := Aside0.mk c55
                         clear c55
                         obtain ⟨y167, hy167⟩ : ∃ y_ : List Int, y_ = (x5_1 ++ [Go.bits .or .u8 ((t165 * 16) % 256) t166]) := ⟨_, rfl⟩
                         replace H : (lex_quoted.l0 kj36 a0 y167 (wrap64 ((wrap64 (x6_1 + 3)) + 1))) = some (r1, r2, r3, r4, r5, r6, r7) := by first | (rw [hy167]; with_reducible exact H) | (have H2_ := (Option.bind_some _ _).symm.trans H; rw [hy167]; with_reducible exact H2_) | (have H2_ := (Option.bind_some _ _).symm.trans H; with_reducible exact H2_) | with_reducible exact H | (rw [hy167]; exact H) | exact H
                         have Ny167 := Aside0.mk hy167
                         clear hy167
                         have H' := Aside0.mk H
                         clear H
                         try go_wp2
                         have n0_ := Aside0.mk (Kd.R_drew HO_5.out)
                         have n1_ := Aside0.mk (blk_drew BK153.out)
                         have n2_ := Aside0.mk (below_drew1 HB.out)
                         clear HO_5
                         clear BK153
                         clear HB
                         have HO_5 := n0_
                         have BK153 := n1_
                         have HB := n2_
                         clear n0_ n1_ n2_
                         have p50 : 0 ≤ (1 : Int) := (by omega)
                         have q50 : 1 < (a0.extract ((ji6) : Int).toNat a0.size).size := (by have : (1 : Int) < ((a0.extract ((ji6) : Int).toNat a0.size).size : Int) := of_decide_eq_true (by first | (with_reducible assumption) | assumption); omega)
                         have hx50 : ∀ h : 1 < (a0.extract ((ji6) : Int).toNat a0.size).size, (((a0.extract ((ji6) : Int).toNat a0.size)[1]'h).toNat : Int) = bt (a0.extract ((ji6) : Int).toNat a0.size) 1 := bt_at (a0.extract ((ji6) : Int).toNat a0.size) 1
                         clear p50
                         have qi50 : (1 < ((a0.extract ((ji6) : Int).toNat a0.size).size : Int)) = True := eq_true (of_decide_eq_true (by first | (with_reducible assumption) | assumption))
                         try (have qi50v := of_eq_true qi50; simp only [ByteArray.size_extract, Nat.min_self] at qi50v; replace qi50v := eq_true qi50v)
                         replace q50 := eq_true q50
                         try (have q50v := of_eq_true q50; simp only [ByteArray.size_extract, Nat.min_self] at q50v; replace q50v := eq_true q50v)
                         have p53 : 0 ≤ (2 : Int) := (by omega)
                         have q53 : 2 < (a0.extract ((ji6) : Int).toNat a0.size).size := (by have : (2 : Int) < ((a0.extract ((ji6) : Int).toNat a0.size).size : Int) := of_decide_eq_true (by first | (with_reducible assumption) | assumption); omega)
                         have hx53 : ∀ h : 2 < (a0.extract ((ji6) : Int).toNat a0.size).size, (((a0.extract ((ji6) : Int).toNat a0.size)[2]'h).toNat : Int) = bt (a0.extract ((ji6) : Int).toNat a0.size) 2 := bt_at (a0.extract ((ji6) : Int).toNat a0.size) 2
                         clear p53
                         have qi53 : (2 < ((a0.extract ((ji6) : Int).toNat a0.size).size : Int)) = True := eq_true (of_decide_eq_true (by first | (with_reducible assumption) | assumption))
                         try (have qi53v := of_eq_true qi53; simp only [ByteArray.size_extract, Nat.min_self] at qi53v; replace qi53v := eq_true qi53v)
                         replace q53 := eq_true q53
                         try (have q53v := of_eq_true q53; simp only [ByteArray.size_extract, Nat.min_self] at q53v; replace q53v := eq_true q53v)
                         refine start_ (n := 12) (S := fun w' => True) (ds := []) #[false, false, false, false, false, false, false, false, false, false, false, false] (by kernel_rfl) rfl rfl trivial (fun hHeld => ?_); refine with_tabW lex_quoted.tab21 lex_quoted.bits21 (fun HT_ HW_ => ?_)
                         generalize wc.drew = w56 at HO_5 BK153 HB hHeld ⊢
                         refine pure_ (i := 0) (N := some 98) (v := ?_) (a' := ?_) #[true, false, false, false, false, false, false, false, false, false, false, false] rfl rfl (any_of HT_.out (by kernel_rfl)) (fun _ _ _ h => h) (Or.inl ⟨by rfl, ?_⟩) ?_ ?_
                         rotate_left
                         ·intro w'
                          go_simp
                          with_reducible rfl
                         rotate_left
                         ·simp only [Act.put, List.setIfInBounds_toArray, List.set_cons_zero, List.set_cons_succ, i64_w, i32_w]
                          rfl
                         refine pure_ (i := 1) (N := some 99) (v := ?_) (a' := ?_) #[true, true, false, false, false, false, false, false, false, false, false, false] rfl rfl (any_of HT_.out (by kernel_rfl)) (fun _ _ _ h => h) (Or.inl ⟨by rfl, ?_⟩) ?_ ?_
                         rotate_left
                         ·intro w'
                          go_simp
                          with_reducible rfl
                         rotate_left
                         ·simp only [Act.put, List.setIfInBounds_toArray, List.set_cons_zero, List.set_cons_succ, i64_w, i32_w]
                          rfl
                         refine pure_ (i := 5) (N := some 103) (v := ?_) (a' := ?_) #[true, true, false, false, false, true, false, false, false, false, false, false] rfl rfl (any_of HT_.out (by kernel_rfl)) (fun _ _ _ h => h) (Or.inl ⟨by rfl, ?_⟩) ?_ ?_
                         rotate_left
                         ·intro w'
                          go_simp
                          with_reducible rfl
                         rotate_left
                         ·simp only [Act.put, List.setIfInBounds_toArray, List.set_cons_zero, List.set_cons_succ, i64_w, i32_w]
                          rfl
                         refine take_ (i := 2) (N := some 100) (v := ?_) (a' := ?_) #[true, true, true, false, false, true, false, false, false, false, false, false] rfl rfl (take_ofW HT_.out HW_.out (by kernel_rfl)) (fun _ _ _ h => h) (Or.inl ⟨by rfl, ?_⟩) hHeld ?_ ?_
                         rotate_left
                         ·intro w' _
                          go_simp
                          with_reducible rfl
                         rotate_left
                         ·simp only [Act.put, List.setIfInBounds_toArray, List.set_cons_zero, List.set_cons_succ, i64_w, i32_w]
                          rfl
                         refine take_ (i := 6) (N := some 104) (v := ?_) (a' := ?_) #[true, true, true, false, false, true, true, false, false, false, false, false] rfl rfl (take_ofW HT_.out HW_.out (by kernel_rfl)) (fun _ _ _ h => h) (Or.inl ⟨by rfl, ?_⟩) hHeld ?_ ?_
                         rotate_left
                         ·intro w' _
                          go_simp
                          with_reducible rfl
                         rotate_left
                         ·simp only [Act.put, List.setIfInBounds_toArray, List.set_cons_zero, List.set_cons_succ, i64_w, i32_w]
                          rfl
                         refine one_ (i := 3) (N := some 101) #[true, true, true, true, false, true, true, false, false, false, false, false] rfl rfl (one_of HT_.out (by kernel_rfl)) (by decide) (fun K hK => ?_)
                         refine goes_ Tryd.func62 (by kernel_rfl) rfl #[.int .u8 (bt (a0.extract ((ji6) : Int).toNat a0.size) 1)] (by rfl) rfl rfl (by (try simp only [List.map_toArray, List.map_cons, List.map_nil]); first | done | (simp only [hji6]; rfl) | rfl | (simp only [List.length_drop, List.length_take]; rfl)) ?_
                         with_reducible refine (lex_value.calls (bt (a0.extract ((ji6) : Int).toNat a0.size) 1) t165 _ A51.out).mono ?_
                         rintro e w' ⟨rfl, ⟨nd, rfl⟩⟩
                         refine ⟨_, rfl, ?_⟩
                         refine hK.out _ _ trivial (fun hHeld => ?_)
                         clear hK K
                         refine norm_ (a' := ?_) ?_ ?_
                         rotate_left
                         ·show Act.put _ (some 101) _ = _
                          simp only [Act.put, List.setIfInBounds_toArray, List.set_cons_zero, List.set_cons_succ, i64_w, i32_w]
                          rfl
                         refine pure_ (i := 4) (N := some 102) (v := ?_) (a' := ?_) #[true, true, true, true, true, true, true, false, false, false, false, false] rfl rfl (any_of HT_.out (by kernel_rfl)) (fun _ _ _ h => h) (Or.inl ⟨by rfl, ?_⟩) ?_ ?_
                         rotate_left
                         ·intro w'
                          go_simp
                          with_reducible rfl
                         rotate_left
                         ·simp only [Act.put, List.setIfInBounds_toArray, List.set_cons_zero, List.set_cons_succ, i64_w, i32_w]
                          rfl
                         refine one_ (i := 7) (N := some 105) #[true, true, true, true, true, true, true, true, false, false, false, false] rfl rfl (one_of HT_.out (by kernel_rfl)) (by decide) (fun K hK => ?_)
                         refine goes_ Tryd.func62 (by kernel_rfl) rfl #[.int .u8 (bt (a0.extract ((ji6) : Int).toNat a0.size) 2)] (by rfl) rfl rfl (by (try simp only [List.map_toArray, List.map_cons, List.map_nil]); first | done | (simp only [hji6]; rfl) | rfl | (simp only [List.length_drop, List.length_take]; rfl)) ?_
                         with_reducible refine (lex_value.calls (bt (a0.extract ((ji6) : Int).toNat a0.size) 2) t166 _ A54.out).mono ?_
                         rintro e w' ⟨rfl, ⟨nd, rfl⟩⟩
                         refine ⟨_, rfl, ?_⟩
                         refine hK.out _ _ trivial (fun hHeld => ?_)
                         clear hK K
                         refine norm_ (a' := ?_) ?_ ?_
                         rotate_left
                         ·show Act.put _ (some 105) _ = _
                          simp only [Act.put, List.setIfInBounds_toArray, List.set_cons_zero, List.set_cons_succ, i64_w, i32_w]
                          rfl
                         refine pure_ (i := 8) (N := some 106) (v := ?_) (a' := ?_) #[true, true, true, true, true, true, true, true, true, false, false, false] rfl rfl (any_of HT_.out (by kernel_rfl)) (fun _ _ _ h => h) (Or.inl ⟨by rfl, ?_⟩) ?_ ?_
                         rotate_left
                         ·intro w'
                          go_simp
                          with_reducible rfl
                         rotate_left
                         ·simp only [Act.put, List.setIfInBounds_toArray, List.set_cons_zero, List.set_cons_succ, i64_w, i32_w]
                          rfl
                         refine one_ (i := 9) (N := some 107) #[true, true, true, true, true, true, true, true, true, true, false, false] rfl rfl (one_of HT_.out (by kernel_rfl)) (by decide) (fun K hK => ?_)
                         refine value_ (w1 := ?_) (v := ?_) (by rfl) rfl ?_ ?_
                         rotate_left 2
                         ·go_simp
                          constructor
                          ·rfl
                          ·rfl
                         refine hK.out _ _ trivial (fun hHeld => ?_)
                         clear hK K
                         refine norm_ (a' := ?_) ?_ ?_
                         rotate_left
                         ·show Act.put _ (some 107) _ = _
                          simp only [Act.put, List.setIfInBounds_toArray, List.set_cons_zero, List.set_cons_succ, i64_w, i32_w]
                          rfl
                         refine one_ (i := 10) (N := some 108) #[true, true, true, true, true, true, true, true, true, true, true, false] rfl rfl (one_of HT_.out (by kernel_rfl)) (by decide) (fun K hK => ?_)
                         refine Kd.R_append_step (Kd.int .u8) (w0 := w) w.heap.size (by rfl) (.tmp 98) (.tmp 107) 36 5 (.int .u8 0) 1 rfl Tryd.underlying36 info5 rfl (by decide) (by omega) u5 x5_1 (Go.bits .or .u8 ((t165 * 16) % 256) t166) [.int .u8 (Go.bits .or .u8 ((t165 * 16) % 256) t166)] (fun _ => True) (fun _ => False) rfl rfl ?aP (fun _ hk => hk.elim) ?aF ?aO ?aB ?aS ?aL ?_
                         (case aP => exact rfl)
                         (case aB => exact (by repeat (first | (with_reducible first | exact HB.out | apply below_alloc | apply pw_below_drewN | apply below_drew1 | refine below_set ?_ GE153.out) | exact HB.out)))
                         (case aF => exact (fun _ _ => trivial))
                         (case aO => exact (by (with_reducible repeat (first | apply Kd.R_alloc | apply Kd.R_drewN | apply Kd.R_drew)); exact HO_5.out))
                         (case aS => exact (below_size (by repeat (first | (with_reducible first | exact HB.out | apply below_alloc | apply pw_below_drewN | apply below_drew1 | refine below_set ?_ GE153.out) | exact HB.out))))
                         (case aL => have := LMc55.out; omega)
                         intro v168 w57 ho hb hg hat
                         rw [← Ny167.out] at ho
                         have n0_ := Aside0.mk (blk_grown (g := gb153) (o := .cells #[.int .i64 x154000_1, .int .i64 x154001_1, .string x154002_1, .int .i64 x154003_1, .int .u64 x154004_1] 30 (0, 0)) (by (with_reducible repeat (first | refine blk_drewN ?_ _ | refine blk_drew ?_ | refine blk_alloc ?_ _)); exact BK153.out) hg (Kd.R_ne HO_5.out BK153.out (by decide)))
                         have n1_ := Aside0.mk (hb)
                         have n2_ := Aside0.mk (ho)
                         clear BK153
                         clear HB
                         clear HO_5
                         have BK153 := n0_
                         have HB := n1_
                         have HO169 := n2_
                         clear n0_ n1_ n2_
                         clear ho hb hg hat
                         refine hK.out _ _ trivial (fun hHeld => ?_)
                         clear hK K
                         refine norm_ (a' := ?_) ?_ ?_
                         rotate_left
                         ·show Act.put _ (some 108) _ = _
                          simp only [Act.put, List.setIfInBounds_toArray, List.set_cons_zero, List.set_cons_succ, i64_w, i32_w]
                          rfl
                         refine pure_ (i := 11) (N := some 5) (v := ?_) (a' := ?_) #[true, true, true, true, true, true, true, true, true, true, true, true] rfl rfl (any_of HT_.out (by kernel_rfl)) (fun _ _ _ h => h) (Or.inl ⟨by rfl, ?_⟩) ?_ ?_
                         rotate_left
                         ·intro w'
                          go_simp
                          with_reducible rfl
                         rotate_left
                         ·simp only [Act.put, List.setIfInBounds_toArray, List.set_cons_zero, List.set_cons_succ, i64_w, i32_w]
                          rfl
                         refine done_ (done_of HT_.out (by kernel_rfl)) ?_
                         try go_wp2
                         go_roundg kj36
                         case measure => have := HK1.out; have := HJ11.out; have := HJ17.out; have := HJ21.out; have := HJ36.out; omega
                         case rel => exact ⟨(y167), (wrap64 ((wrap64 (x6_1 + 3)) + 1)), (x154000_1), (x154001_1), (x154002_1), (x154003_1), (x154004_1), (by first | rfl | (simp; done) | (simp [*]; done)), H', ⟨by have := HK1.out; have := HJ11.out; have := HJ17.out; have := HJ21.out; have := HJ36.out; omega⟩, ⟨by (with_reducible repeat (first | apply Kd.R_alloc | apply Kd.R_drewN | apply Kd.R_drew)); exact HO169.out⟩, ⟨by (with_reducible repeat (first | refine blk_drewN ?_ _ | refine blk_drew ?_ | refine blk_alloc ?_ _)); exact BK153.out⟩, ⟨by repeat (first | (with_reducible first | exact HB.out | apply below_alloc | apply pw_below_drewN | apply below_drew1 | refine below_set ?_ GE153.out) | exact HB.out)⟩⟩
                        ·rw [if_neg c55] at H
                         exact absurd H (by simp)
                       ·rw [if_neg c52] at H
                        exact absurd H (by simp)
                      ·rw [if_neg c49] at H
                       exact absurd H (by simp)
                     ·replace c48 := Bool.eq_false_iff.mpr c48
                      subst c48
                      have H1 : (some (0, 0, (⟨#[]⟩ : ByteArray), 0, 0, 0, 61)) = some (r1, r2, r3, r4, r5, r6, r7) := by rw [if_neg (show ¬ (false = true) by decide)] at H; exact H
                      clear H
                      have H := H1
                      clear H1
                      simp only [Option.some.injEq, Prod.mk.injEq] at H
                      obtain ⟨rfl, rfl, rfl, rfl, rfl, rfl, rfl⟩ := H
                      have hcz58_0 : wc.cell? ⟨gb153, 0, none⟩ = some (.int .i64 x154000_1) := (blk_cell BK153.out 0).trans rfl
                      have hcz58_1 : wc.cell? ⟨gb153, 1, none⟩ = some (.int .i64 x154001_1) := (blk_cell BK153.out 1).trans rfl
                      have hcz58_2 : wc.cell? ⟨gb153, 2, none⟩ = some (.string x154002_1) := (blk_cell BK153.out 2).trans rfl
                      have hcz58_3 : wc.cell? ⟨gb153, 3, none⟩ = some (.int .i64 x154003_1) := (blk_cell BK153.out 3).trans rfl
                      have hcz58_4 : wc.cell? ⟨gb153, 4, none⟩ = some (.int .u64 x154004_1) := (blk_cell BK153.out 4).trans rfl
                      have hfz58_0 := blk_frozen BK153.out 0
                      have hfz58_1 := blk_frozen BK153.out 1
                      have hfz58_2 := blk_frozen BK153.out 2
                      have hfz58_3 := blk_frozen BK153.out 3
                      have hfz58_4 := blk_frozen BK153.out 4
                      go_wp2
                      refine bodyPost_ret (results_ctt rfl _ _ gb153 30 #[.int .i64 0, .int .i64 0, .string (⟨#[]⟩ : ByteArray), .int .i64 0, .int .u64 0] (0, 0) _ rfl (by (with_reducible repeat (first | refine blk_drewN ?_ _ | refine blk_drew ?_ | refine blk_alloc ?_ _)); refine blk_put (cs := #[.int .i64 0, .int .i64 0, .string (⟨#[]⟩ : ByteArray), .int .i64 0, .int .u64 x154004_1]) ?_ 4 _ rfl; (with_reducible repeat (first | refine blk_drewN ?_ _ | refine blk_drew ?_ | refine blk_alloc ?_ _)); refine blk_put (cs := #[.int .i64 0, .int .i64 0, .string (⟨#[]⟩ : ByteArray), .int .i64 x154003_1, .int .u64 x154004_1]) ?_ 3 _ rfl; (with_reducible repeat (first | refine blk_drewN ?_ _ | refine blk_drew ?_ | refine blk_alloc ?_ _)); refine blk_put (cs := #[.int .i64 0, .int .i64 0, .string x154002_1, .int .i64 x154003_1, .int .u64 x154004_1]) ?_ 2 _ rfl; (with_reducible repeat (first | refine blk_drewN ?_ _ | refine blk_drew ?_ | refine blk_alloc ?_ _)); refine blk_put (cs := #[.int .i64 0, .int .i64 x154001_1, .string x154002_1, .int .i64 x154003_1, .int .u64 x154004_1]) ?_ 1 _ rfl; (with_reducible repeat (first | refine blk_drewN ?_ _ | refine blk_drew ?_ | refine blk_alloc ?_ _)); refine blk_put (cs := #[.int .i64 x154000_1, .int .i64 x154001_1, .string x154002_1, .int .i64 x154003_1, .int .u64 x154004_1]) ?_ 0 _ rfl; (with_reducible repeat (first | refine blk_drewN ?_ _ | refine blk_drew ?_ | refine blk_alloc ?_ _)); exact BK153.out) Tryd.underlying30 rfl (by kernel_rfl)) rfl ?_
                      exact ⟨by first | rfl | (simp [errW_none, errW_some] <;> rfl) | (simp only [← hji6]; first | rfl | (simp [errW_none, errW_some] <;> rfl)) | (simp [*, errW_none, errW_some] <;> rfl), by repeat (first | (with_reducible first | exact HB.out | apply below_alloc | apply pw_below_drewN | apply below_drew1 | refine below_set ?_ GE153.out) | exact HB.out)⟩
                 ·rw [if_neg c32] at H
                  exact absurd H (by simp)
      ·rw [if_neg c8] at H
       exact absurd H (by simp)
     ·rw [if_neg c7] at H
      exact absurd H (by simp)
    ·rw [if_neg c4] at H
     exact absurd H (by simp)
   ·rw [if_neg c3] at H
    have c3b0 : decide (x6_1 < (a0.size : Int)) = false := decide_eq_false c3
    clear c3
    simp only [Option.some.injEq, Prod.mk.injEq] at H
    obtain ⟨rfl, rfl, rfl, rfl, rfl, rfl, rfl⟩ := H
    have hcz59_0 : wr.cell? ⟨gb153, 0, none⟩ = some (.int .i64 x154000_1) := (blk_cell BK153.out 0).trans rfl
    have hcz59_1 : wr.cell? ⟨gb153, 1, none⟩ = some (.int .i64 x154001_1) := (blk_cell BK153.out 1).trans rfl
    have hcz59_2 : wr.cell? ⟨gb153, 2, none⟩ = some (.string x154002_1) := (blk_cell BK153.out 2).trans rfl
    have hcz59_3 : wr.cell? ⟨gb153, 3, none⟩ = some (.int .i64 x154003_1) := (blk_cell BK153.out 3).trans rfl
    have hcz59_4 : wr.cell? ⟨gb153, 4, none⟩ = some (.int .u64 x154004_1) := (blk_cell BK153.out 4).trans rfl
    have hfz59_0 := blk_frozen BK153.out 0
    have hfz59_1 := blk_frozen BK153.out 1
    have hfz59_2 := blk_frozen BK153.out 2
    have hfz59_3 := blk_frozen BK153.out 3
    have hfz59_4 := blk_frozen BK153.out 4
    go_wp2
    refine bodyPost_ret (results_ctt rfl _ _ gb153 30 #[.int .i64 0, .int .i64 0, .string (⟨#[]⟩ : ByteArray), .int .i64 0, .int .u64 0] (0, 0) _ rfl (by (with_reducible repeat (first | refine blk_drewN ?_ _ | refine blk_drew ?_ | refine blk_alloc ?_ _)); refine blk_put (cs := #[.int .i64 0, .int .i64 0, .string (⟨#[]⟩ : ByteArray), .int .i64 0, .int .u64 x154004_1]) ?_ 4 _ rfl; (with_reducible repeat (first | refine blk_drewN ?_ _ | refine blk_drew ?_ | refine blk_alloc ?_ _)); refine blk_put (cs := #[.int .i64 0, .int .i64 0, .string (⟨#[]⟩ : ByteArray), .int .i64 x154003_1, .int .u64 x154004_1]) ?_ 3 _ rfl; (with_reducible repeat (first | refine blk_drewN ?_ _ | refine blk_drew ?_ | refine blk_alloc ?_ _)); refine blk_put (cs := #[.int .i64 0, .int .i64 0, .string x154002_1, .int .i64 x154003_1, .int .u64 x154004_1]) ?_ 2 _ rfl; (with_reducible repeat (first | refine blk_drewN ?_ _ | refine blk_drew ?_ | refine blk_alloc ?_ _)); refine blk_put (cs := #[.int .i64 0, .int .i64 x154001_1, .string x154002_1, .int .i64 x154003_1, .int .u64 x154004_1]) ?_ 1 _ rfl; (with_reducible repeat (first | refine blk_drewN ?_ _ | refine blk_drew ?_ | refine blk_alloc ?_ _)); refine blk_put (cs := #[.int .i64 x154000_1, .int .i64 x154001_1, .string x154002_1, .int .i64 x154003_1, .int .u64 x154004_1]) ?_ 0 _ rfl; (with_reducible repeat (first | refine blk_drewN ?_ _ | refine blk_drew ?_ | refine blk_alloc ?_ _)); exact BK153.out) Tryd.underlying30 rfl (by kernel_rfl)) rfl ?_
    exact ⟨by first | rfl | (simp [errW_none, errW_some] <;> rfl) | (simp [*, errW_none, errW_some] <;> rfl), by repeat (first | (with_reducible first | exact HB.out | apply below_alloc | apply pw_below_drewN | apply below_drew1 | refine below_set ?_ GE153.out) | exact HB.out)⟩
end Go.Proofs.YtjolkombhdibcaaDoor.Print
end
