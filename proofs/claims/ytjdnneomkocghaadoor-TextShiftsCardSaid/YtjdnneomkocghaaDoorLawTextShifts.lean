/- TextShifts: the row, and the tied card: for every input the law answers true; the arguments read behind the call as before. The listed variables of Go's library are tied to the program's text (in a pruned copy of the project). -/
import Derived.Test.YtjdnneomkocghaaDoorRows
import Derived.Test.YtjdnneomkocghaaDoorCards
import Derived.Test.YtjdnneomkocghaaDoorTie
import Derived.Test.YtjdnneomkocghaaDoorLaid
import Derived.Test.YtjdnneomkocghaaDoorPrint5
import Derived.Test.YtjdnneomkocghaaDoorSpN
import Derived.Test.YtjdnneomkocghaaDoorSpJ
import Derived.Test.YtjdnneomkocghaaDoorSpK
import Derived.WalkKit
import Derived.ProofKit
import Derived.OpenShut
import Derived.ShutString
import Derived.ChangeOld
import Derived.Below
import Derived.SizedLaws
import Derived.SevenTiedAt
import Derived.Lib.SmallJoins
import Derived.Deep.Strs
/- The statement TextShifts, plain: a double written otherwise. No condition. -/
namespace Go.Proofs.YtjdnneomkocghaaDoor.Pure
open Go.RowKit Go.Proofs.YtjdnneomkocghaaDoorW.PrintWords Go.Proofs.YtjdnneomkocghaaDoorW.PrintMore Go.Proofs.YtjdnneomkocghaaDoor.Given Go.Proofs.YtjdnneomkocghaaDoor.Print Go.Proofs.YtjdnneomkocghaaDoor.Sp
open Go.Lib (decDigits itoa nDigits)
set_option linter.unusedVariables false
set_option linter.unusedSimpArgs false
theorem th_u64 {a : Int} (h : (Lit.int .u64 a).wf = true) : 0 ≤ a ∧ a ≤ 18446744073709551615 := by
  simpa [Lit.wf, IntKind.min, IntKind.max, IntKind.signed, IntKind.bits] using h
def noughts (z : Nat) : List UInt8 := List.replicate z 48
theorem cut_noughts : ∀ (z : Nat) (l : List UInt8), cutN (noughts z ++ l) = (List.replicate z 0 ++ (cutN l).1, (cutN l).2)
  | 0, l => by simp [noughts]
  | z + 1, l => by
    unfold noughts at *
    rw [List.replicate_succ, List.cons_append, cutN, show hexV 48 = some 0 from rfl]
    have := cut_noughts z l
    unfold noughts at this
    rw [this]; rfl
theorem cut_pre : ∀ (n f : Nat) (l : List UInt8), f < 4503599627370496 → cutN (hexs n f ++ l) = (hexN n f ++ (cutN l).1, (cutN l).2)
  | 0, f, l, hf => by simp only [hexs, hexN, List.nil_append]
  | n + 1, f, l, hf => by
    unfold hexs hexN
    by_cases h : f = 0
    · rw [if_pos h, if_pos h, List.nil_append, List.nil_append]
    · rw [if_neg h, if_neg h, List.cons_append, cutN, hexV_hex (by omega), cut_pre n _ l (Nat.mod_lt _ (by decide))]; rfl
theorem cut_p (r : List UInt8) : cutN (112 :: r) = ([], 112 :: r) := by rw [cutN, show hexV 112 = none from rfl]
theorem cut_exp (e : Int) : cutN (expT e) = ([], expT e) := cut_p _
/-- A digit of which the number is dv, a fraction's digits. -/
theorem fin_val (d f : Nat) (hf : f < 4503599627370496) (e : Int) : exactS (val 16 d (hexN 13 f)) (e - 4 * ((hexN 13 f).length : Nat)) = exactS (d * 4503599627370496 + f) (e - 52) := by
  obtain ⟨v1, v2⟩ := hexN_val 13 f d (by omega) hf (p16 f)
  rw [show e - 4 * ((hexN 13 f).length : Int) = (e - 52) + ((52 - 4 * (hexN 13 f).length : Nat) : Int) by omega, ← exactS_shift, v1]
theorem body1 (neg : Bool) (d : UInt8) (dv : Nat) (hd : hexV d = some dv) (z : Nat) (e : Int) (f : Nat) (hf : f < 4503599627370496) (he : -99999 ≤ e ∧ e ≤ 99999) :
    bodyS neg (noughts z ++ d :: ((if f = 0 then [] else [46]) ++ hexs 13 f ++ expT e)) = resR (signN neg) (exactS (dv * 4503599627370496 + f) (e - 52)) := by
  rw [← fin_val dv f hf e]
  unfold bodyS
  by_cases h : f = 0
  · subst h
    rw [if_pos rfl, List.nil_append]
    have hc : cutN (noughts z ++ d :: (hexs 13 0 ++ expT e)) = (List.replicate z 0 ++ [dv], expT e) := by
      rw [cut_noughts, cutN, hd]
      show (List.replicate z 0 ++ dv :: (cutN (expT e)).1, (cutN (expT e)).2) = _
      rw [cut_exp]
    rw [hc, if_neg (by simp)]
    show tailS neg (List.replicate z 0 ++ [dv]) 0 (expT e) = _
    have h0 : hexN 13 0 = [] := by unfold hexN; rw [if_pos rfl]
    rw [tail_expT _ _ _ _ he, val_zeros, h0]
    show resR (signN neg) (exactS (val 16 (0 * 16 + dv) []) _) = resR (signN neg) (exactS (val 16 dv []) _)
    rw [Nat.zero_mul, Nat.zero_add]
    rfl
  · rw [if_neg h]
    have hc : cutN (noughts z ++ d :: ([46] ++ hexs 13 f ++ expT e)) = (List.replicate z 0 ++ [dv], 46 :: (hexs 13 f ++ expT e)) := by
      rw [cut_noughts, List.append_assoc, List.singleton_append, cutN, hd]
      show (List.replicate z 0 ++ dv :: (cutN (46 :: (hexs 13 f ++ expT e))).1, (cutN (46 :: (hexs 13 f ++ expT e))).2) = _
      rw [cutN, show hexV 46 = none from rfl]
    rw [hc, if_neg (by simp)]
    show (if (cutN (hexs 13 f ++ expT e)).1 = [] then ((0, 20) : Int × Int) else tailS neg ((List.replicate z 0 ++ [dv]) ++ (cutN (hexs 13 f ++ expT e)).1) (cutN (hexs 13 f ++ expT e)).1.length (cutN (hexs 13 f ++ expT e)).2) = _
    rw [cut_pre 13 f _ hf, cut_exp]
    simp only [List.append_nil]
    rw [if_neg (hexN_ne h), tail_expT _ _ _ _ he, List.append_assoc, val_zeros]
    rw [show val 16 0 ([dv] ++ hexN 13 f) = val 16 (0 * 16 + dv) (hexN 13 f) from rfl, Nat.zero_mul, Nat.zero_add]
theorem body2 (neg : Bool) (d : UInt8) (dv : Nat) (hd : hexV d = some dv) (z : Nat) (e : Int) (f : Nat) (hf : f < 4503599627370496) (he : -99999 ≤ e ∧ e ≤ 99999) :
    bodyS neg (d :: 46 :: (hexs 13 f ++ (noughts (z + 1) ++ expT e))) = resR (signN neg) (exactS (dv * 4503599627370496 + f) (e - 52)) := by
  rw [← fin_val dv f hf e]
  unfold bodyS
  have hc : cutN (d :: 46 :: (hexs 13 f ++ (noughts (z + 1) ++ expT e))) = ([dv], 46 :: (hexs 13 f ++ (noughts (z + 1) ++ expT e))) := by
    rw [cutN, hd]
    show (dv :: (cutN (46 :: (hexs 13 f ++ (noughts (z + 1) ++ expT e)))).1, (cutN (46 :: (hexs 13 f ++ (noughts (z + 1) ++ expT e)))).2) = _
    rw [cutN, show hexV 46 = none from rfl]
  rw [hc, if_neg (by simp)]
  show (if (cutN (hexs 13 f ++ (noughts (z + 1) ++ expT e))).1 = [] then ((0, 20) : Int × Int) else tailS neg ([dv] ++ (cutN (hexs 13 f ++ (noughts (z + 1) ++ expT e))).1) (cutN (hexs 13 f ++ (noughts (z + 1) ++ expT e))).1.length (cutN (hexs 13 f ++ (noughts (z + 1) ++ expT e))).2) = _
  rw [cut_pre 13 f _ hf, cut_noughts, cut_exp]
  simp only [List.append_nil]
  rw [if_neg (by simp), tail_expT _ _ _ _ he]
  rw [show val 16 0 ([dv] ++ (hexN 13 f ++ List.replicate (z + 1) 0)) = val 16 (0 * 16 + dv) (hexN 13 f ++ List.replicate (z + 1) 0) from rfl, Nat.zero_mul, Nat.zero_add, val_append, val_tail]
  rw [show (16 : Nat) ^ (z + 1) = 2 ^ (4 * (z + 1)) by rw [Nat.pow_mul], exactS_shift]
  congr 2
  simp only [List.length_append, List.length_replicate]
  omega
theorem noP_exp (e : Int) : ∃ r, expT e = 112 :: r ∧ (∀ c ∈ r, c ≠ 112) ∧ 2 ≤ r.length := by
  have hdig : ∀ n, ∀ c ∈ decDigits n, c ≠ 112 := by
    intro n c hc e
    have := List.all_eq_true.1 (dec_dig n) c hc
    subst e
    simp [isDig] at this
  have hl : ∀ n, 1 ≤ (decDigits n).length := fun n => List.length_pos_iff.2 (dec_ne n)
  unfold expT itoa
  by_cases h : e < 0
  · rw [if_pos h, if_pos h]
    refine ⟨_, rfl, fun c hc => ?_, by have := hl e.natAbs; simp; omega⟩
    rcases List.mem_cons.1 hc with rfl | hc
    · decide
    · exact hdig _ _ hc
  · rw [if_neg h, if_neg h]
    refine ⟨_, rfl, fun c hc => ?_, by have := hl e.toNat; simp; omega⟩
    rcases List.mem_cons.1 hc with rfl | hc
    · decide
    · exact hdig _ _ hc
theorem noP_hexs : ∀ (n f : Nat), f < 4503599627370496 → ∀ c ∈ hexs n f, c ≠ 112
  | 0, f, hf => by intro c hc; simp [hexs] at hc
  | n + 1, f, hf => by
    intro c hc
    unfold hexs at hc
    split at hc
    · simp at hc
    · rcases List.mem_cons.1 hc with rfl | hc
      · have h16 : ∀ i : Fin 16, hexL.getD i.val 0 ≠ 112 := by decide
        exact h16 ⟨f / 281474976710656, by omega⟩
      · exact noP_hexs n _ (Nat.mod_lt _ (by decide)) c hc
def lastP : List UInt8 → Int → Int → Int
  | [], _, acc => acc
  | c :: r, i, acc => lastP r (i + 1) (if c = 112 then i else acc)
theorem lastP_no : ∀ (l : List UInt8) (i acc : Int), (∀ c ∈ l, c ≠ 112) → lastP l i acc = acc
  | [], _, _, _ => rfl
  | c :: r, i, acc, h => by
    show lastP r (i + 1) (if c = 112 then i else acc) = acc
    rw [if_neg (h c (by simp))]
    exact lastP_no r _ _ (fun x hx => h x (by simp [hx]))
theorem lastP_app : ∀ (l m : List UInt8) (i acc : Int), lastP (l ++ m) i acc = lastP m (i + l.length) (lastP l i acc)
  | [], m, i, acc => by simp [lastP]
  | c :: r, m, i, acc => by
    show lastP (r ++ m) (i + 1) (if c = 112 then i else acc) = _
    rw [lastP_app r m]
    show lastP m (i + 1 + r.length) _ = lastP m _ (lastP r (i + 1) (if c = 112 then i else acc))
    congr 1
    simp; omega
theorem lastP_one (a b : List UInt8) (ha : ∀ c ∈ a, c ≠ 112) (hb : ∀ c ∈ b, c ≠ 112) : lastP (a ++ 112 :: b) 0 (-1) = (a.length : Int) := by
  rw [lastP_app, lastP_no a _ _ ha]
  show lastP b _ (if (112 : UInt8) = 112 then _ else _) = _
  rw [if_pos rfl, lastP_no b _ _ hb]; omega
theorem scan (b : Int) (l s z : List UInt8) (hl : l.length ≤ 1000) (res : Bool) : ∀ (r : List UInt8) (i : Nat) (acc : Int), l.drop i = r → i ≤ l.length →
    Ev (fun k => casketlaw4_TextShifts.l1 k b (bs l) (bs s) (bs z) (lastP r i acc) (l.length : Int)) res →
    Ev (fun k => casketlaw4_TextShifts.l1 k b (bs l) (bs s) (bs z) acc (i : Int)) res := by
  intro r
  induction r with
  | nil =>
    intro i acc h hi hE
    have : i = l.length := by
      have := List.drop_eq_nil_iff.1 h; omega
    subst this
    exact hE
  | cons c r ih =>
    intro i acc h hi hE
    obtain ⟨h1, h2, h3⟩ := drop_cons h
    refine Ev.step (fun k => by rw [casketlaw4_TextShifts.l1]) ?_
    rw [bs_size]
    refine Ev.yes (by omega) (Ev.yes (by omega) ?_)
    rw [bt_bs, h1, w64 (x := (i : Int) + 1) (by omega) (by omega)]
    have hE' : Ev (fun k => casketlaw4_TextShifts.l1 k b (bs l) (bs s) (bs z) (if c = 112 then (i : Int) else acc) ((i + 1 : Nat) : Int)) res := ih (i + 1) _ h3 (by omega) hE
    by_cases h112 : c = 112
    · rw [if_pos h112] at hE'
      exact Ev.yes (by rw [h112]; rfl) hE'
    · rw [if_neg h112] at hE'
      exact Ev.no (fun e => h112 (u8_eq (n := 112) e (by decide))) hE'
/-- A finite double's text without its sign. -/
theorem shape {m : Nat} (h1 : ¬ 9218868437227405312 < m) (h2 : m ≠ 9218868437227405312) : ∃ (d : UInt8) (dv f : Nat) (e : Int), floatM [] m = 48 :: 120 :: d :: ((if f = 0 then [] else [46]) ++ hexs 13 f ++ expT e) ∧
    hexV d = some dv ∧ f < 4503599627370496 ∧ (-99999 ≤ e ∧ e ≤ 99999) ∧ d ≠ 112 ∧ ∀ s, resR s (exactS (dv * 4503599627370496 + f) (e - 52)) = (((s + m : Nat) : Int), 0) := by
  unfold floatM
  rw [if_neg h1, if_neg h2]
  by_cases h3 : m = 0
  · rw [if_pos h3]; subst h3
    have g0 : hexs 13 0 = [] := by
      unfold hexs
      rw [if_pos rfl]
    have g1 : expT 0 = [112, 43, 48] := by
      unfold expT Lib.itoa
      rw [if_neg (by decide), if_neg (by decide)]
      show 112 :: 43 :: decDigits 0 = _
      rw [decDigits, dif_pos (by decide)]
      rfl
    exact ⟨48, 0, 0, 0, by rw [g0, g1]; rfl, rfl, by decide, by decide, by decide, fun s => rfl⟩
  · rw [if_neg h3]
    by_cases h4 : m < 4503599627370496
    · rw [if_pos h4]
      obtain ⟨p1, p2, p3⟩ := bl_bounds m (by omega)
      have hb := bl_le (n := m) (k := 52) (by omega)
      have hM1 : 4503599627370496 ≤ m * 2 ^ (53 - bl m) := by
        have := Nat.mul_le_mul_right (2 ^ (53 - bl m)) p2
        rw [← Nat.pow_add, show bl m - 1 + (53 - bl m) = 52 by omega] at this; omega
      have hM2 : m * 2 ^ (53 - bl m) < 9007199254740992 := by
        have := Nat.mul_lt_mul_of_pos_right p3 (Nat.two_pow_pos (53 - bl m))
        rw [← Nat.pow_add, show bl m + (53 - bl m) = 53 by omega] at this; omega
      refine ⟨49, 1, m * 2 ^ (53 - bl m) % 4503599627370496, -1022 - (53 - bl m : Nat), by unfold finT; simp, rfl, Nat.mod_lt _ (by decide), by omega, by decide, fun s => ?_⟩
      rw [show 1 * 4503599627370496 + m * 2 ^ (53 - bl m) % 4503599627370496 = m * 2 ^ (53 - bl m) by omega, exactS_shift, show (-1022 - ((53 - bl m : Nat) : Int) - 52 + ((53 - bl m : Nat) : Int) : Int) = -1074 by omega, exactS_sub (by omega) h4]
      rfl
    · rw [if_neg h4]
      refine ⟨49, 1, m % 4503599627370496, (m / 4503599627370496 : Nat) - 1023, by unfold finT; simp, rfl, Nat.mod_lt _ (by decide), by omega, by decide, fun s => ?_⟩
      rw [exactS_norm (by omega) (by omega) (by omega)]
      show (((s + _ : Nat) : Int), (0 : Int)) = _
      congr 2
      omega
theorem pfS_hex (neg : Bool) (t : List UInt8) (hl : t.length ≤ 60) : pfS ((if neg = true then [45] else []) ++ 48 :: 120 :: t) = bodyS neg t := by
  unfold pfS
  cases neg with
  | true =>
    rw [if_pos rfl, if_neg (by simp; omega), if_neg (by simp), if_neg (by simp), if_neg (by simp)]
    rfl
  | false =>
    have e0 : (if false = true then [45] else ([] : List UInt8)) = [] := rfl
    rw [e0, if_neg (by simp only [List.nil_append, List.length_cons]; omega), if_neg (by simp), if_neg (by simp), if_neg (by simp)]
    rfl
theorem th_j0 (b z : Int) : Ev (fun k => casketlaw4_TextShifts.j0 k b z true) true := by
  refine Ev.step (fun k => by rw [casketlaw4_TextShifts.j0]) ?_
  exact Ev.yes rfl (Ev.ret rfl)
/-- The end: the second writing. -/
theorem th_end (n z : Nat) (hz : z ≤ 20) (neg : Bool) (d : UInt8) (dv f : Nat) (e : Int) (hd : hexV d = some dv) (hf : f < 4503599627370496) (he : -99999 ≤ e ∧ e ≤ 99999) (hR : resR (signN neg) (exactS (dv * 4503599627370496 + f) (e - 52)) = ((n : Int), 0))
    (l : List UInt8) (hl : l = 48 :: 120 :: d :: ((if f = 0 then [] else [46]) ++ hexs 13 f) ++ expT e) :
    Ev (fun k => casketlaw4_TextShifts.l1 k n (bs l) (bs (if neg = true then [45] else [])) (bs (noughts z)) ((48 :: 120 :: d :: ((if f = 0 then [] else [46]) ++ hexs 13 f)).length : Nat) (l.length : Int)) true := by
  have hx := hexs_len 13 f
  have hy := expT_len he
  have hdot : (if f = 0 then ([] : List UInt8) else [46]).length ≤ 1 := by split <;> simp
  have hs : (if neg = true then [45] else ([] : List UInt8)).length ≤ 1 := by split <;> simp
  have hn : (noughts z).length = z := by simp [noughts]
  have hb2 := body2 neg d dv hd z e f hf he
  rw [hR] at hb2
  have hpf := pfS_hex neg (d :: 46 :: (hexs 13 f ++ (noughts (z + 1) ++ expT e))) (by simp only [List.length_cons, List.length_append, noughts, List.length_replicate]; omega)
  rw [hb2] at hpf
  have hsucc : noughts (z + 1) = 48 :: noughts z := rfl
  obtain ⟨pre, hpre⟩ : ∃ pre, pre = 48 :: 120 :: d :: ((if f = 0 then [] else [46]) ++ hexs 13 f) := ⟨_, rfl⟩
  rw [← hpre] at hl ⊢
  have hpl : pre.length = 3 + (if f = 0 then ([] : List UInt8) else [46]).length + (hexs 13 f).length := by rw [hpre]; simp; omega
  have hll : l.length = pre.length + (expT e).length := by rw [hl]; simp
  refine Ev.step (fun k => by rw [casketlaw4_TextShifts.l1]) ?_
  simp only [bs_size, Int.toNat_natCast]
  have ex1 : (bs l).extract 0 pre.length = bs pre := by rw [bs_ext, hl]; simp
  have ex2 : (bs l).extract pre.length l.length = bs (expT e) := by rw [bs_ext, List.take_length, hl]; simp
  rw [ex1, ex2, show (⟨#[46]⟩ : ByteArray) = bs [46] from rfl, show (⟨#[48]⟩ : ByteArray) = bs [48] from rfl]
  simp only [bs_app, bs_size]
  refine Ev.no (by omega) (Ev.no (by omega) (Ev.yes (by omega) (Ev.yes (by omega) ?_)))
  by_cases h : f = 0
  · have h0 : hexs 13 f = [] := by unfold hexs; rw [if_pos h]
    have hp3 : pre = [48, 120, d] := by rw [hpre, if_pos h, h0]; rfl
    have ht : (if neg = true then [45] else []) ++ (pre ++ [46]) ++ [48] ++ noughts z ++ expT e = (if neg = true then [45] else []) ++ 48 :: 120 :: d :: 46 :: (hexs 13 f ++ (noughts (z + 1) ++ expT e)) := by
      rw [hp3, h0, hsucc]; simp
    refine Ev.yes (by rw [hp3]; rfl) ?_
    rw [ht]
    simp only [List.length_append, List.length_cons, List.length_nil]
    refine Ev.yes (by omega) (Ev.yes (by omega) (Ev.yes (by omega) (Ev.yes (by omega) (Ev.yes (by omega) (Ev.bind (parseFloat_ev _ (by simp only [List.length_cons, List.length_append, noughts, List.length_replicate]; omega)) ?_)))))
    rw [hpf]
    exact Ev.yes rfl (Ev.yes rfl (Ev.bind awake_ev (Ev.ret rfl)))
  · have hp3 : pre = 48 :: 120 :: d :: 46 :: hexs 13 f := by rw [hpre, if_neg h]; rfl
    have ht : (if neg = true then [45] else []) ++ pre ++ [48] ++ noughts z ++ expT e = (if neg = true then [45] else []) ++ 48 :: 120 :: d :: 46 :: (hexs 13 f ++ (noughts (z + 1) ++ expT e)) := by
      rw [hp3, hsucc]; simp
    refine Ev.no (by rw [hp3]; simp <;> omega) ?_
    rw [ht]
    simp only [List.length_append, List.length_cons, List.length_nil]
    refine Ev.yes (by omega) (Ev.yes (by omega) (Ev.yes (by omega) (Ev.yes (by omega) (Ev.bind (parseFloat_ev _ (by simp only [List.length_cons, List.length_append, noughts, List.length_replicate]; omega)) ?_))))
    rw [hpf]
    exact Ev.yes rfl (Ev.yes rfl (Ev.bind awake_ev (Ev.ret rfl)))
theorem th_l0 (n z : Nat) (hz : z ≤ 20) (neg : Bool) (d : UInt8) (dv f : Nat) (e : Int) (hd : hexV d = some dv) (hd1 : d ≠ 112) (hf : f < 4503599627370496) (he : -99999 ≤ e ∧ e ≤ 99999) (hR : resR (signN neg) (exactS (dv * 4503599627370496 + f) (e - 52)) = ((n : Int), 0))
    (l : List UInt8) (hl : l = 48 :: 120 :: d :: ((if f = 0 then [] else [46]) ++ hexs 13 f) ++ expT e) :
    ∀ (j i : Nat), i + j = z → Ev (fun k => casketlaw4_TextShifts.l0 k n (z : Int) (bs l) (bs (if neg = true then [45] else [])) (bs (noughts i)) (i : Int)) true := by
  have hx := hexs_len 13 f
  have hy := expT_len he
  have hdot : (if f = 0 then ([] : List UInt8) else [46]).length ≤ 1 := by split <;> simp
  have hs : (if neg = true then [45] else ([] : List UInt8)).length ≤ 1 := by split <;> simp
  have hll : l.length = 3 + (if f = 0 then ([] : List UInt8) else [46]).length + (hexs 13 f).length + (expT e).length := by rw [hl]; simp; omega
  have hnl : ∀ i, (noughts i).length = i := fun i => by simp [noughts]
  intro j
  induction j with
  | zero =>
    intro i hi
    have : i = z := by omega
    subst this
    refine Ev.step (fun k => by rw [casketlaw4_TextShifts.l0]) ?_
    have hni := hnl i
    have hb1 := body1 neg d dv hd i e f hf he
    rw [hR] at hb1
    have hpf := pfS_hex neg (noughts i ++ d :: ((if f = 0 then [] else [46]) ++ hexs 13 f ++ expT e)) (by simp only [List.length_cons, List.length_append]; omega)
    rw [hb1] at hpf
    rw [show (⟨#[48, 120]⟩ : ByteArray) = bs [48, 120] from rfl, bs_from]
    simp only [bs_app, bs_size]
    have ht : (if neg = true then [45] else []) ++ [48, 120] ++ noughts i ++ List.drop 2 l = (if neg = true then [45] else []) ++ 48 :: 120 :: (noughts i ++ d :: ((if f = 0 then [] else [46]) ++ hexs 13 f ++ expT e)) := by
      rw [hl]; simp
    rw [ht]
    simp only [List.length_append, List.length_cons, List.length_nil, List.length_drop]
    refine Ev.no (by omega) (Ev.yes (by omega) (Ev.yes (by omega) (Ev.yes (by omega) (Ev.yes (by omega) (Ev.bind (parseFloat_ev _ (by simp only [List.length_cons, List.length_append]; omega)) ?_)))))
    rw [hpf]
    refine Ev.yes rfl ?_
    show Ev (fun k => casketlaw4_TextShifts.j5 k n (bs l) (bs (if neg = true then [45] else [])) (bs (noughts i)) false) true
    refine Ev.step (fun k => by rw [casketlaw4_TextShifts.j5]) ?_
    refine Ev.no (by simp) ?_
    refine scan n l _ (noughts i) (by omega) true l 0 (-1) rfl (by omega) ?_
    obtain ⟨r, hr, hr1, _⟩ := noP_exp e
    have hlast : lastP l ((0 : Nat) : Int) (-1) = ((48 :: 120 :: d :: ((if f = 0 then [] else [46]) ++ hexs 13 f)).length : Nat) := by
      rw [hl, hr]
      refine lastP_one _ r ?_ hr1
      intro c hc
      rcases List.mem_cons.1 hc with rfl | hc
      · decide
      · rcases List.mem_cons.1 hc with rfl | hc
        · decide
        · rcases List.mem_cons.1 hc with rfl | hc
          · exact hd1
          · rcases List.mem_append.1 hc with hc | hc
            · split at hc
              · simp at hc
              · have : c = 46 := by simpa using hc
                subst this; decide
            · exact noP_hexs 13 f hf c hc
    rw [hlast]
    exact th_end n i hz neg d dv f e hd hf he hR l hl
  | succ j ih =>
    intro i hi
    refine Ev.step (fun k => by rw [casketlaw4_TextShifts.l0]) ?_
    have hni := hnl i
    rw [show (⟨#[48]⟩ : ByteArray) = bs [48] from rfl, w64 (x := (i : Int) + 1) (by omega) (by omega)]
    simp only [bs_app, bs_size]
    have e1 : noughts i ++ [48] = noughts (i + 1) := by unfold noughts; rw [List.replicate_succ']
    rw [e1]
    exact Ev.yes (by omega) (Ev.yes (by omega) (ih (i + 1) (by omega)))
theorem th_j2 (n z : Nat) (hz : z ≤ 20) (neg : Bool) (d : UInt8) (dv f : Nat) (e : Int) (hd : hexV d = some dv) (hd1 : d ≠ 112) (hf : f < 4503599627370496) (he : -99999 ≤ e ∧ e ≤ 99999) (hR : resR (signN neg) (exactS (dv * 4503599627370496 + f) (e - 52)) = ((n : Int), 0))
    (l : List UInt8) (hl : l = 48 :: 120 :: d :: ((if f = 0 then [] else [46]) ++ hexs 13 f) ++ expT e) :
    Ev (fun k => casketlaw4_TextShifts.j2 k n (z : Int) (bs l) (bs (if neg = true then [45] else []))) true := by
  obtain ⟨r, hr, _, hr2⟩ := noP_exp e
  have hll : 6 ≤ l.length := by rw [hl, hr]; simp; omega
  refine Ev.step (fun k => by rw [casketlaw4_TextShifts.j2]) ?_
  simp only [bs_size]
  have e2 : (bs l).extract 0 2 = bs [48, 120] := by rw [bs_ext, hl]; rfl
  rw [e2]
  refine Ev.no (by omega) (Ev.yes (by decide) (Ev.yes (by omega) ?_))
  rw [bs_toList, bne_self_eq_false]
  refine Ev.step (fun k => by rw [casketlaw4_TextShifts.j3]) ?_
  exact Ev.no (by simp) (th_l0 n z hz neg d dv f e hd hd1 hf he hR l hl z 0 (by omega))
theorem and63 (n : Nat) (h : n < 18446744073709551616) : Go.bits .and .u64 (n : Int) 9223372036854775807 = ((n % 9223372036854775808 : Nat) : Int) := by
  have h64 : (2 : Int) ^ 64 = 18446744073709551616 := by decide
  have h1 := bits_mask .u64 64 (by decide) wr64 63 (by decide) (n : Int) (by omega) (by omega)
  have h63 : (2 : Int) ^ 63 = 9223372036854775808 := by decide
  rw [h63, show (9223372036854775808 : Int) - 1 = 9223372036854775807 by decide] at h1
  rw [h1]
  omega
theorem TextShifts : casketlaw4_TextShifts.Pure := by
  intro b z hb hz
  have hb := th_u64 hb
  obtain ⟨n, rfl⟩ := Int.eq_ofNat_of_zero_le hb.1
  have hn : n < 18446744073709551616 := by omega
  refine Ev.rounds ?_
  unfold casketlaw4_TextShifts.f
  by_cases z0 : z < 0
  · exact Ev.yes z0 (th_j0 _ _)
  · refine Ev.no z0 ?_
    by_cases z1 : z > 20
    · exact Ev.yes z1 (th_j0 _ _)
    · refine Ev.no z1 (Ev.bind0 (nan_f n hn) ?_)
      obtain ⟨w, rfl⟩ := Int.eq_ofNat_of_zero_le (show 0 ≤ z by omega)
      have hw : w ≤ 20 := by omega
      by_cases h1 : 9218868437227405312 < n % 9223372036854775808
      · exact Ev.yes (decide_eq_true h1) (th_j0 _ _)
      · refine Ev.no (by simpa using h1) ?_
        rw [and63 n hn]
        by_cases h2 : n % 9223372036854775808 = 9218868437227405312
        · rw [h2]; exact th_j0 _ _
        · rw [beq_eq_false_iff_ne.2 (fun e => h2 (by omega))]
          refine Ev.step (fun k => by rw [casketlaw4_TextShifts.j0]) ?_
          refine Ev.no (by simp) (Ev.bind (float_ev n hn) ?_)
          have hsv := signN_val hn
          have hT : floatT n = floatM (if decide (9223372036854775808 ≤ n) = true then [45] else []) (n % 9223372036854775808) := by
            unfold floatT; rw [signT_eq]
          have hlen := float_len n
          generalize decide (9223372036854775808 ≤ n) = neg at hsv hT
          generalize n % 9223372036854775808 = m at h1 h2 hsv hT
          obtain ⟨d, dv, f, e, s1, s2, s3, s4, s5, s6⟩ := shape h1 h2
          have hR := s6 (signN neg)
          rw [hsv] at hR
          have main := th_j2 n w hw neg d dv f e s2 s5 s3 s4 hR (48 :: 120 :: d :: ((if f = 0 then [] else [46]) ++ hexs 13 f) ++ expT e) rfl
          have hs1 : floatM [] m = 48 :: 120 :: d :: ((if f = 0 then [] else [46]) ++ hexs 13 f) ++ expT e := by rw [s1]; simp
          rw [bs_size]
          cases neg with
          | true =>
            have hT' : floatT n = 45 :: (48 :: 120 :: d :: ((if f = 0 then [] else [46]) ++ hexs 13 f) ++ expT e) := by
              rw [hT, if_pos rfl, floatM_sign h1, hs1]
            rw [hT'] at hlen ⊢
            generalize 48 :: 120 :: d :: ((if f = 0 then [] else [46]) ++ hexs 13 f) ++ expT e = t at main hlen
            refine Ev.yes (by simp <;> omega) (Ev.yes (by simp <;> omega) ?_)
            rw [bt0, show (((45 : UInt8).toNat : Int) == 45) = true from rfl]
            refine Ev.step (fun k => by rw [casketlaw4_TextShifts.j1]) ?_
            refine Ev.yes rfl (Ev.yes (by rw [bs_size]; simp <;> omega) ?_)
            rw [bs_from]
            exact main
          | false =>
            have hT' : floatT n = 48 :: 120 :: d :: ((if f = 0 then [] else [46]) ++ hexs 13 f) ++ expT e := by
              rw [hT]; exact hs1
            rw [hT'] at hlen ⊢
            refine Ev.yes (by simp <;> omega) (Ev.yes (by simp <;> omega) ?_)
            rw [show bt (bs (48 :: 120 :: d :: ((if f = 0 then [] else [46]) ++ hexs 13 f) ++ expT e)) 0 = 48 from bt0 48 _, show ((48 : Int) == 45) = false from rfl]
            refine Ev.step (fun k => by rw [casketlaw4_TextShifts.j1]) ?_
            refine Ev.no (by simp) ?_
            exact main
end Go.Proofs.YtjdnneomkocghaaDoor.Pure

namespace Go.Proofs.YtjdnneomkocghaaDoor.textShifts
open Go.ChangeShapes Go.WideShapes Go.ChangeAt Go.RowKit Go.Joins
open Go.ChangeMaps (open_string shut_string)
set_option linter.unusedVariables false
set_option maxRecDepth 100000 in
theorem lifted (os : Os) (started : os.Started) (H : Type) (enc : TypeId × Value → H) :
    ReturnsInHanded {} Tryd.checked os 3 .any (fun w args => (Rows.textShiftsSpec.pre enc Tryd.prog Tryd.f3 [] false w args ∧ laidMetH Tryd.prog Laid.laid w) ∧ sizedMet enc Tryd.prog Tryd.f3 (OpenSpec.ofChange Rows.textShiftsSpec) false w args) (Rows.textShiftsSpec.post enc Tryd.prog Tryd.f3 false true false false) := by
  refine returnsInHanded_of_change_and (C := Tryd.checked) (X := fun w _ => laidMetH Tryd.prog Laid.laid w) (fun _ _ _ hh h => h.of_heap hh) Laid.own started (by kernel_rfl) Tryd.func3
    (ChangeSpec.witness_shaped (enc := enc) (C := Tryd.checked) (os := os) (X := fun w _ => laidMetH Tryd.prog Laid.laid w) false (World.doorLaid Tryd.prog 62 os) #[.int .u64 0, .int .i64 0] 8 rfl (World.shaped_of_RefB (by kernel_rfl) (by kernel_rfl)) (by kernel_rfl) (by kernel_rfl) (by kernel_rfl) (Laid.door_met os _)) ?_
  intro W base args ds gs before hval0 hW hcnd hsz0 hL _
  have hsz : (DataW.weightsEach Tryd.prog (Tryd.f3.params.toList ++ Rows.textShiftsSpec.plain.varTypes Tryd.prog) (ds ++ gs)).all (· ≤ reachBytes) = true := hsz0
  have hval : ∀ (j : Nat) t v, Tryd.f3.params[j]? = some t → args[j]? = some v → Value.okWide Tryd.prog W .any base t v := hval0
  have hW' := hW
  obtain ⟨p, q, hA0, hV, rfl, hfz, hnd⟩ := hW
  have hA : DataW.TrodAll enc Tryd.prog W 0 (fun _ => true) true Tryd.f3.params.toList args.toList ds p := hA0
  rw [Tryd.params3] at hA hval hsz
  obtain ⟨v0, vs0, d0, ds0, p0, q0, hargs, rfl, rfl, h0, r0⟩ := trodAll_cons hA
  obtain ⟨v1, vs1, d1, ds1, p1, q1, rfl, rfl, rfl, h1, r1⟩ := trodAll_cons r0
  obtain ⟨rfl, rfl, rfl⟩ := trodAll_nil r1
  obtain rfl : args = #[v0, v1] := by cases args; simp_all
  obtain ⟨rfl, rfl⟩ := trodVars_none hV
  have hG : Given.Glob W := Laid.of_laid hL
  obtain ⟨a0, rfl, rfl, rfl, w0⟩ := open_int Tryd.underlying22 (hval 0 22 v0 rfl rfl) h0
  obtain ⟨a1, rfl, rfl, rfl, w1⟩ := open_int Tryd.underlying3 (hval 1 3 v1 rfl rfl) h1
  clear hA0 hval0 hsz0 hsz
  refine (Print.casketlaw4_TextShifts.walk Pure.TextShifts a0 a1 W hG w0 w1).mono fun e W' ⟨he, bel⟩ => ?_
  subst he
  exact ⟨_, rfl, _, _, _, [], _, [], hW', trodAll_mk1 (shut_bool Tryd.underlying4 _), (trodAll_cons_mk (shut_int Tryd.underlying22 w0) (trodAll_cons_mk (shut_int Tryd.underlying3 w1) trodAll_mk0)), rfl, bel.frame _, fun h => by cases h⟩
theorem over : Rows.textShiftsRow.holds Tryd.pinned (OpenSpec.ofChange Rows.textShiftsSpec) :=
  OpenClaim.holds_of_wide 3 Tryd.f3 rfl rfl rfl rfl rfl rfl rfl ⟨rfl, rfl, rfl, rfl, rfl⟩ rfl rfl rfl rfl rfl (by kernel_rfl) Tryd.func3 (by kernel_rfl)
    (of_decide_eq_true (by kernel_rfl)) (by unfold Func.isWrapper; first | (rw [if_pos (by decide +kernel)]; kernel_rfl) | (rw [if_neg (by decide +kernel)]; exact ⟨rfl, rfl⟩))
    (fun os started H enc _ => lifted os started H enc)
theorem card_holds : Rows.TextShiftsCardSaid :=
  Claim7.holds_tied_plain_at .later [] [.data, .data, .data, .sentinel, .sentinel] true (true, "ad15c43d92773aa6568aae07c966bf4115df40cfb2d27db2d73bcd3fa37724bd") true
    over (fun _ h => by cases h) (by kernel_rfl) (fun _ h => by cases h) textShifts_row_tie rfl ⟨rfl, rfl⟩ (by kernel_rfl) rfl
    (fun f fn hf hfn => by
      obtain rfl : f = 3 := Option.some.inj ((show Tryd.prog.funcNamed "casket/casketlaw4.TextShifts" = some 3 by kernel_rfl).symm.trans hf) |>.symm
      obtain rfl : fn = Tryd.f3 := (Option.some.inj (Tryd.func3.symm.trans hfn)).symm
      exact ⟨by kernel_rfl, fun j t ht => by
        rw [Tryd.params3] at ht
        have hm : t ∈ [22, 3] := by simpa using Array.mem_of_getElem? ht
        have hall : ([22, 3].all fun u => !Tryd.prog.wantsStandIn u) = true := by kernel_rfl
        exact (show Tryd.prog.wantsStandIn t = false by simpa using List.all_eq_true.1 hall t hm)⟩)
    (by kernel_rfl)
#print axioms card_holds
end Go.Proofs.YtjdnneomkocghaaDoor.textShifts
namespace Go.Proofs.YtjdnneomkocghaaDoor
/-- The tied card, under a short name, for the claim. -/
theorem textShifts_card : Rows.TextShiftsCardSaid := textShifts.card_holds
end Go.Proofs.YtjdnneomkocghaaDoor
