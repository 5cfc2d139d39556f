/- Chapter 1: whole numbers, doubles, truths and texts in words and out of them. -/
import Derived.Test.YtgimcpnelogadaaBsC
import Derived.Laws.IdiomStrings
import Derived.Deep.DeepCutAuto
namespace Go.Proofs.Ytgimcpnelogadaa.Wd
open Go.RowKit Go.Proofs.Ytgimcpnelogadaa.Mem Go.Proofs.Ytgimcpnelogadaa.Sto
set_option linter.unusedVariables false
set_option linter.unusedSimpArgs false

/-- A whole number that stands in a word. -/
def Small (i : Int) : Prop := -140737488355328 ≤ i ∧ i < 140737488355328
instance (i : Int) : Decidable (Small i) := inferInstanceAs (Decidable (_ ∧ _))
def intW (i : Int) : Nat := 18444773748872577024 + (i % 281474976710656).toNat
theorem intW_lt (i : Int) : intW i < 18446744073709551616 ∧ intW i / 281474976710656 = 65529 ∧ intW i % 281474976710656 = (i % 281474976710656).toNat := by unfold intW; omega
theorem cls_int (i : Int) : cls (intW i) = 2 := by
  obtain ⟨h1, h2, h3⟩ := intW_lt i
  unfold cls nanB
  have c1 : ¬ (decide (18437736874454810624 < 2 * intW i % 18446744073709551616) = false ∨ intW i = 9221120237041090560) := by
    rw [decide_eq_false_iff_not]; omega
  rw [if_neg c1, if_neg (by omega), if_neg (by omega), if_pos (by omega)]
theorem fromInt_small {i : Int} (h : Small i) (W : World) : Calls Try.prog 96 #[.int .i64 i] W fun e w' => e = .returned (.tuple #[.int .u64 (intW i : Nat), .bool true]) ∧ W = w' := by
  obtain ⟨h1, h2⟩ := h
  have hL := and_mask (i % 18446744073709551616).toNat 48 (by omega) (by omega)
  have hL' : bits .and .u64 (((i % 18446744073709551616).toNat : Nat) : Int) 281474976710655 = (((i % 18446744073709551616).toNat % 281474976710656 : Nat) : Int) := hL
  have hw : IntKind.u64.wrap i = (((i % 18446744073709551616).toNat : Nat) : Int) := by rw [IntKind.wrap_u64]; omega
  clear hL
  go_enter Try.func96, Try.ntmps96
  go_wp2
  go_ret2
  have o1 : bits .or .u64 18444492273895866368 281474976710656 = 18444773748872577024 := or_add 18444492273895866368 281474976710656 49 (by decide) (by decide) (by decide) (by decide) (by decide)
  have o2 := or_add 18444773748872577024 ((i % 18446744073709551616).toNat % 281474976710656) 48 (by decide) (by omega) (by decide) (by decide) (by omega)
  have e1 : max (i % 18446744073709551616) 0 = (((i % 18446744073709551616).toNat : Nat) : Int) := by omega
  have key : bits .or .u64 (bits .or .u64 18444492273895866368 281474976710656) (bits .and .u64 (max (i % 18446744073709551616) 0) 281474976710655) = ((intW i : Nat) : Int) := by
    rw [e1, hL', o1]
    refine Eq.trans o2 ?_
    unfold intW
    omega
  rw [← key]
  exact ⟨rfl, rfl⟩
theorem fromInt_great {i : Int} (h : ¬ Small i) (W : World) : Calls Try.prog 96 #[.int .i64 i] W fun e w' => e = .returned (.tuple #[.int .u64 0, .bool false]) ∧ W = w' := by
  by_cases h1 : i < -140737488355328
  · go_enter Try.func96, Try.ntmps96
    go_wp2
    go_ret2
    exact ⟨rfl, rfl⟩
  · have h2 : ¬ i < 140737488355328 := fun e => h ⟨by omega, e⟩
    have h3 : 140737488355328 ≤ i := by omega
    go_enter Try.func96, Try.ntmps96
    go_wp2
    go_ret2
    exact ⟨rfl, rfl⟩
theorem toInt_calls {i : Int} (h : Small i) (W : World) : Calls Try.prog 103 #[.int .u64 (intW i : Nat)] W fun e w' => e = .returned (.tuple #[.int .i64 i, .bool true]) ∧ W = w' := by
  obtain ⟨h1, h2⟩ := h
  obtain ⟨g1, g2, g3⟩ := intW_lt i
  have CC := Mem.Aside.mk (class_calls (intW i) g1)
  rw [cls_int, show ((2 : Nat) : Int) = 2 from rfl] at CC
  obtain ⟨N, hN⟩ : ∃ N, N = intW i := ⟨_, rfl⟩
  rw [← hN] at CC g1 g2 g3 ⊢
  clear hN
  go_enter Try.func103, Try.ntmps103
  go_wp2_with (go_at_call 102; (with_reducible refine (CC.out _).mono ?_); rintro e w' ⟨rfl, rfl⟩)
  go_ret2
  have key : wrap64 (IntKind.u64.wrap ((N : Int) * 65536)) / 65536 = i := by
    rw [IntKind.wrap_u64]
    unfold wrap64
    omega
  rw [key]
  exact ⟨rfl, rfl⟩
/-- The word of a double. -/
def floatW (b : Nat) : Nat := if nanB b then 9221120237041090560 else b
theorem fromFloat_calls {b : Nat} (hb : b < 18446744073709551616) (W : World) : Calls Try.prog 97 #[.int .u64 (b : Int)] W fun e w' => e = .returned (.int .u64 (floatW b : Nat)) ∧ W = w' := by
  have CN := Mem.Aside.mk (nan_calls b hb)
  unfold floatW
  cases hB : nanB b with
  | false =>
    rw [hB] at CN
    clear hB
    go_enter Try.func97, Try.ntmps97
    go_wp2_with (go_at_call 125; (with_reducible refine (CN.out _).mono ?_); rintro e w' ⟨rfl, rfl⟩)
    go_ret
    exact ⟨rfl, rfl⟩
  | true =>
    rw [hB] at CN
    clear hB
    go_enter Try.func97, Try.ntmps97
    go_wp2_with (go_at_call 125; (with_reducible refine (CN.out _).mono ?_); rintro e w' ⟨rfl, rfl⟩)
    go_ret
    exact ⟨rfl, rfl⟩
theorem cls_float (b : Nat) : cls (floatW b) = 1 := by
  unfold floatW
  cases hB : nanB b with
  | false =>
    simp only [Bool.false_eq_true, if_false]
    unfold cls
    rw [if_pos (.inl hB)]
  | true => rfl
theorem fromNil_calls (W : World) : Calls Try.prog 94 #[] W fun e w' => e = .returned (.int .u64 18444492273895866368) ∧ W = w' := by
  go_enter Try.func94, Try.ntmps94
  go_wp2
  go_ret
  exact ⟨rfl, rfl⟩
def boolW (b : Bool) : Nat := if b then 18444492273895866370 else 18444492273895866369
theorem fromBool_calls (b : Bool) (W : World) : Calls Try.prog 95 #[.bool b] W fun e w' => e = .returned (.int .u64 (boolW b : Nat)) ∧ W = w' := by
  have o1 : bits .or .u64 18444492273895866368 1 = 18444492273895866369 := or_add 18444492273895866368 1 1 (by decide) (by decide) (by decide) (by decide) (by decide)
  have o2 : bits .or .u64 18444492273895866368 2 = 18444492273895866370 := or_add 18444492273895866368 2 2 (by decide) (by decide) (by decide) (by decide) (by decide)
  cases b with
  | false =>
    go_enter Try.func95, Try.ntmps95
    go_wp2
    go_ret
    exact ⟨rfl, rfl⟩
  | true =>
    go_enter Try.func95, Try.ntmps95
    go_wp2
    go_ret
    exact ⟨rfl, rfl⟩
theorem toBool_calls (b : Bool) (W : World) : Calls Try.prog 104 #[.int .u64 (boolW b : Nat)] W fun e w' => e = .returned (.tuple #[.bool b, .bool true]) ∧ W = w' := by
  have CC := Mem.Aside.mk (class_calls (boolW b) (by cases b <;> decide))
  have CB := Mem.Aside.mk (fromBool_calls true)
  have e : cls (boolW b) = 4 := by cases b <;> decide
  rw [e, show ((4 : Nat) : Int) = 4 from rfl] at CC
  clear e
  cases b with
  | false =>
    go_enter Try.func104, Try.ntmps104
    go_wp2_with (first | (go_at_call 102; (with_reducible refine (CC.out _).mono ?_); rintro e w' ⟨rfl, rfl⟩) | (go_at_call 95; (with_reducible refine (CB.out _).mono ?_); rintro e w' ⟨rfl, rfl⟩))
    go_ret2
    exact ⟨rfl, rfl⟩
  | true =>
    go_enter Try.func104, Try.ntmps104
    go_wp2_with (first | (go_at_call 102; (with_reducible refine (CC.out _).mono ?_); rintro e w' ⟨rfl, rfl⟩) | (go_at_call 95; (with_reducible refine (CB.out _).mono ?_); rintro e w' ⟨rfl, rfl⟩))
    go_ret2
    exact ⟨rfl, rfl⟩
theorem or_mid (n D l b : Nat) (hl : l < 2 ^ n) (hb : b < 256) : (2 ^ n * (256 * D) + l) ||| (2 ^ n * b) = 2 ^ n * (256 * D + b) + l := by
  have h1 : 2 ^ n * (256 * D) + l = 2 ^ n * (256 * D) ||| l := Nat.two_pow_add_eq_or_of_lt hl _
  have h2 : 256 * D + b = 256 * D ||| b := Nat.two_pow_add_eq_or_of_lt (i := 8) hb _
  have h3 : 2 ^ n * (256 * D + b) + l = 2 ^ n * (256 * D + b) ||| l := Nat.two_pow_add_eq_or_of_lt hl _
  have h4 : 2 ^ n * (256 * D ||| b) = 2 ^ n * (256 * D) ||| 2 ^ n * b := by
    rw [Nat.mul_comm, ← Nat.shiftLeft_eq, Nat.shiftLeft_or_distrib, Nat.shiftLeft_eq, Nat.shiftLeft_eq, Nat.mul_comm _ (2 ^ n), Nat.mul_comm b]
  rw [h3, h2, h4, h1, Nat.or_assoc, Nat.or_comm l, ← Nat.or_assoc]
theorem or_byte (S l b k : Nat) (hS : S ≤ 5) (hl : l < 256 ^ k) (hb : b < 256) (hk : k < 5) : bits .or .u64 (((S * 1099511627776 + l : Nat)) : Int) (IntKind.u64.wrap ((b : Int) * 2 ^ (8 * k))) = ((S * 1099511627776 + (l + b * 256 ^ k) : Nat) : Int) := by
  have e : (256 : Nat) ^ k = 2 ^ (8 * k) := by rw [Nat.pow_mul]
  rw [e] at hl ⊢
  have hp : 2 ^ (8 * k) ≤ 2 ^ 32 := Nat.pow_le_pow_right (by omega) (by omega)
  have hb2 : b * 2 ^ (8 * k) ≤ 255 * 2 ^ 32 := Nat.mul_le_mul (by omega) hp
  have e2 : ((b : Int) * 2 ^ (8 * k)) = ((b * 2 ^ (8 * k) : Nat) : Int) := by simp
  have e3 : IntKind.u64.wrap ((b : Int) * 2 ^ (8 * k)) = ((b * 2 ^ (8 * k) : Nat) : Int) := by
    rw [e2, IntKind.wrap_u64]; omega
  rw [e3, u64_or_nat _ _ (by omega) (by omega)]
  congr 1
  have hd : S * 1099511627776 = 2 ^ (8 * k) * (256 * (S * 2 ^ (32 - 8 * k))) := by
    have : (1099511627776 : Nat) = 2 ^ (8 * k) * (256 * 2 ^ (32 - 8 * k)) := by
      rw [show (256 : Nat) = 2 ^ 8 by decide, ← Nat.pow_add, ← Nat.pow_add, show 8 * k + (8 + (32 - 8 * k)) = 40 by omega]
    rw [this]
    simp only [Nat.mul_left_comm, Nat.mul_assoc, Nat.mul_comm]
  rw [hd, Nat.mul_comm b, or_mid _ _ _ _ hl hb, Nat.mul_add]
  omega
/-- The word of a text of five bytes at most. -/
def textW (s : ByteArray) : Nat := 18445055223849287680 + (s.size * 1099511627776 + leN s.data.toList)
set_option maxRecDepth 100000 in
theorem fromText_short {s : ByteArray} (h : s.size ≤ 5) (W : World) : Calls Try.prog 98 #[.string s] W fun e w' => e = .returned (.tuple #[.int .u64 (textW s : Nat), .bool true]) ∧ W = w' := by
  go_enter Try.func98, Try.ntmps98
  go_wp2
  go_loop [4, 15] (fun x i => ∃ k : Nat, k ≤ s.size ∧ i = .int .i64 (k : Int) ∧ x = .int .u64 ((s.size * 1099511627776 + leN (s.data.toList.take k) : Nat) : Int)) (fun _ i => s.size - (intOf i).toNat)
  case atStart => exact ⟨0, Nat.zero_le _, rfl, by simp [leN]⟩
  case round =>
    obtain ⟨k, hk, rfl, rfl⟩ := hrel
    by_cases c : k < s.size
    · obtain ⟨X, hX⟩ : ∃ X, X = s.size * 1099511627776 + leN (s.data.toList.take k) := ⟨_, rfl⟩
      rw [← hX]
      have HX := Mem.Aside.mk hX
      clear hX
      go_wp2
      refine ⟨⟨k + 1, by omega, by go_num, ?_⟩, by simp [intOf]; omega⟩
      have hb := s[k].toNat_lt
      have e1 : IntKind.u64.wrap ((s[k].toNat : Nat) : Int) = ((s[k].toNat : Nat) : Int) := u64_in (by omega)
      have e2 : s.data.toList.take (k + 1) = s.data.toList.take k ++ [s[k]] := List.take_succ_eq_append_getElem (l := s.data.toList) (i := k) (by exact c)
      have hlk : (s.data.toList.take k).length = k := by rw [List.length_take]; exact Nat.min_eq_left hk
      have hlt := leN_lt (s.data.toList.take k)
      rw [hlk] at hlt
      rw [e1, e2, leN_snoc, hlk, HX.out]
      exact congrArg (Value.int .u64) (or_byte s.size _ _ k h hlt hb (by omega))
    · go_wp2
      obtain rfl : k = s.size := by omega
      go_ret2
      have e : s.data.toList.take s.size = s.data.toList := List.take_of_length_le (Nat.le_refl _)
      have hlt := leN_lt s.data.toList
      have hp : 256 ^ s.data.toList.length ≤ 256 ^ 5 := Nat.pow_le_pow_right (by omega) h
      have o1 : bits .or .u64 18444492273895866368 562949953421312 = 18445055223849287680 := or_add 18444492273895866368 562949953421312 50 (by decide) (by decide) (by decide) (by decide) (by decide)
      have o2 := or_add 18445055223849287680 (s.size * 1099511627776 + leN s.data.toList) 48 (by decide) (by omega) (by decide) (by decide) (by omega)
      have key : bits .or .u64 (bits .or .u64 18444492273895866368 562949953421312) ((s.size : Int) * 1099511627776 + (leN (List.take s.size s.data.toList) : Int)) = ((textW s : Nat) : Int) := by
        rw [e, o1]
        exact o2
      rw [← key]
      exact ⟨rfl, rfl⟩
/-- Its class and what it holds. -/
theorem textW_parts {s : ByteArray} (h : s.size ≤ 5) : textW s < 18446744073709551616 ∧ textW s / 281474976710656 = 65530 ∧ textW s % 281474976710656 = s.size * 1099511627776 + leN s.data.toList ∧ leN s.data.toList < 256 ^ s.size := by
  have hlt := leN_lt s.data.toList
  have hl : s.data.toList.length = s.size := rfl
  have hp : 256 ^ s.data.toList.length ≤ 256 ^ 5 := Nat.pow_le_pow_right (by omega) h
  rw [hl] at hlt hp
  unfold textW
  refine ⟨by omega, by omega, by omega, hlt⟩
theorem cls_text {s : ByteArray} (h : s.size ≤ 5) : cls (textW s) = 5 := by
  obtain ⟨h1, h2, h3, h4⟩ := textW_parts h
  have hp : 256 ^ s.size ≤ 256 ^ 5 := Nat.pow_le_pow_right (by omega) h
  unfold cls nanB
  have c1 : ¬ (decide (18437736874454810624 < 2 * textW s % 18446744073709551616) = false ∨ textW s = 9221120237041090560) := by
    rw [decide_eq_false_iff_not]; omega
  have e1 : textW s % 281474976710656 / 1099511627776 = s.size := by omega
  have e2 : textW s % 1099511627776 = leN s.data.toList := by omega
  have e3 : leN s.data.toList / 2 ^ (8 * s.size) = 0 := by rw [Nat.pow_mul]; exact Nat.div_eq_of_lt h4
  rw [if_neg c1, if_neg (by omega), if_neg (by omega), if_neg (by omega), if_pos (by omega), e1, e2, if_pos ⟨h, e3⟩]
set_option maxRecDepth 100000 in
theorem fromText_long {s : ByteArray} (h : 5 < s.size) (W : World) : Calls Try.prog 98 #[.string s] W fun e w' => e = .returned (.tuple #[.int .u64 0, .bool false]) ∧ W = w' := by
  have h1 : (5 : Int) < (s.size : Int) := by omega
  go_enter Try.func98, Try.ntmps98
  go_wp2
  go_ret2
  exact ⟨rfl, rfl⟩
theorem leN_digit : ∀ (l : List UInt8) (k : Nat) (h : k < l.length), leN l / 256 ^ k % 256 = (l[k]).toNat
  | b :: l, 0, _ => by simp only [leN, Nat.pow_zero, Nat.div_one, List.getElem_cons_zero]; have := b.toNat_lt; omega
  | b :: l, k + 1, h => by
    have ih := leN_digit l k (by simpa using h)
    rw [List.getElem_cons_succ, ← ih, leN, Nat.pow_succ, Nat.mul_comm (256 ^ k), ← Nat.div_div_eq_div_mul]
    have := b.toNat_lt
    rw [show (b.toNat + 256 * leN l) / 256 = leN l by omega]
theorem textW_digit {s : ByteArray} (h : s.size ≤ 5) {k : Nat} (hk : k < s.size) : textW s / 256 ^ k % 256 = s[k].toNat := by
  have e := leN_digit s.data.toList k hk
  rw [show s.data.toList[k] = s[k] from rfl] at e
  rw [← e]
  unfold textW
  have : k = 0 ∨ k = 1 ∨ k = 2 ∨ k = 3 ∨ k = 4 := by omega
  rcases this with rfl | rfl | rfl | rfl | rfl <;> simp only [Nat.reducePow] <;> omega
set_option maxRecDepth 100000 in
theorem toText_calls {s : ByteArray} (h : s.size ≤ 5) (W : World) : Calls Try.prog 105 #[.int .u64 (textW s : Nat)] W fun e w' => e = .returned (.tuple #[.string s, .bool true]) ∧ Chg [] W w' := by
  obtain ⟨h1, h2, h3, h4⟩ := textW_parts h
  have CC := Mem.Aside.mk (class_calls (textW s) h1)
  rw [cls_text h, show ((5 : Nat) : Int) = 5 from rfl] at CC
  have hL := and_mask (textW s) 48 (by omega) (by omega)
  have hL' : bits .and .u64 ((textW s : Nat) : Int) 281474976710655 = ((textW s % 281474976710656 : Nat) : Int) := hL
  clear hL
  go_enter Try.func105, Try.ntmps105
  have hsz : textW s % 281474976710656 / 1099511627776 = s.size := by
    have : leN s.data.toList < 256 ^ 5 := Nat.lt_of_lt_of_le h4 (Nat.pow_le_pow_right (by omega) h)
    omega
  have hsz' : ((textW s % 281474976710656 : Nat) : Int) / 1099511627776 = (s.size : Int) := by omega
  obtain ⟨N, hN⟩ : ∃ N, N = textW s := ⟨_, rfl⟩
  rw [← hN] at CC h1 h2 h3 hL' hsz' ⊢
  have HN := Mem.Aside.mk (And.intro hN h4)
  obtain ⟨L, hL⟩ : ∃ L, L = N % 281474976710656 := ⟨_, rfl⟩
  rw [← hL] at hL' hsz' h3
  have HNL := Mem.Aside.mk (And.intro hL (And.intro h1 (And.intro h2 h3)))
  clear hN hsz h4 h3 h2 h1 hL
  have elemB : Elem Try.prog 5 1 1 (.int .u8 0) := Elem.of (by kernel_rfl) rfl (by intro v hv; simp [Value.cells] at hv; subst hv; rfl) (by decide)
  go_upto_region 4 with (first
    | (go_at_call 102; (with_reducible refine (CC.out _).mono ?_); rintro e w' ⟨rfl, rfl⟩)
    | (at_make; refine wpList_make1 (z := .int .u8 0) rfl _ _ rfl Try.underlying57 elemB rfl s.size rfl rfl (by omega) (by omega) ?_; intro w3 hb3 hc3 hs3; have H3 := Mem.Aside.mk (And.intro hb3 hc3); clear hb3 hc3 hs3))
  obtain ⟨g, hg⟩ : ∃ g, g = W.heap.size := ⟨_, rfl⟩
  have HG := Mem.Aside.mk hg
  rw [← hg] at H3 ⊢
  clear hg
  go_wp2
  go_loopw [15] (fun i wr => ∃ k : Nat, k ≤ s.size ∧ i = .int .i64 (k : Int) ∧ Mem.Aside (Blk wr g 5 (u8V (s.data.toList.take k) ++ List.replicate (s.size - k) (.int .u8 0)) ∧ Chg [] W wr)) (fun i _ => s.size - (intOf i).toNat)
  case atStart => exact ⟨0, Nat.zero_le _, rfl, ⟨by simpa [u8V] using H3.out.1, H3.out.2⟩⟩
  case round =>
    obtain ⟨k, hk, rfl, HB⟩ := hrel
    by_cases c : k < s.size
    · have hlk : (u8V (s.data.toList.take k)).length = k := by simp only [u8V, List.length_map, List.length_take]; exact Nat.min_eq_left hk
      have b0 := HB.out.1.cellAt (i := k) (v := .int .u8 0) (by rw [List.getElem?_append_right (by omega), hlk, Nat.sub_self, List.getElem?_replicate, if_pos (by omega)])
      have b1 := HB.out.1.frozen k
      have HLK := Mem.Aside.mk hlk
      clear hlk
      go_wp2
      have hd : (N : Int) / 2 ^ (8 * k) % 256 = ((s[k].toNat : Nat) : Int) := by
        rw [← textW_digit h c, ← HN.out.1, show (256 : Nat) ^ k = 2 ^ (8 * k) by rw [Nat.pow_mul]]
        simp
      rw [hd]
      refine ⟨⟨k + 1, by omega, by go_num, ⟨?_, HB.out.2.setCell (p := ⟨g, k, none⟩) (.inr (by rw [HG.out]; exact Nat.le_refl _)) _⟩⟩, by simp [intOf]; omega⟩
      have e2 : s.data.toList.take (k + 1) = s.data.toList.take k ++ [s[k]] := List.take_succ_eq_append_getElem (l := s.data.toList) (i := k) (by exact c)
      have := HB.out.1.set k (.int .u8 ((s[k].toNat : Nat) : Int))
      rw [List.set_append_right _ _ (by rw [HLK.out]; exact Nat.le_refl _), HLK.out, Nat.sub_self, show s.size - k = (s.size - (k + 1)) + 1 by omega, List.replicate_succ, List.set_cons_zero] at this
      rw [e2]
      simpa [u8V] using this
    · obtain rfl : k = s.size := by omega
      have hcv : (convert 57 9 (.slice (some ⟨g, 0, none⟩) s.size s.size)).run Try.prog wr = .ok (.string s) wr := by
        have e : s.data.toList.take s.size = s.data.toList := List.take_of_length_le (Nat.le_refl _)
        have hb := HB.out.1
        rw [e, Nat.sub_self, List.replicate_zero, List.append_nil] at hb
        have := run_convert_bytes_back (P := Try.prog) wr 57 9 5 ⟨g, 0, none⟩ s.size s.data.toList Try.underlying57 Try.underlying5 Try.underlying9 (fun j hj => by
          rw [addr_add, Nat.zero_add, hb.cell, u8V, List.getElem?_map, List.getElem?_eq_getElem hj]
          rfl)
        simpa using this
      have HC := Mem.Aside.mk HB.out.2
      clear HB
      go_wp2
      go_ret2
      exact ⟨rfl, HC.out⟩
theorem textW_inj {s t : ByteArray} (hs : s.size ≤ 5) (ht : t.size ≤ 5) (h : textW s = textW t) : s = t := by
  obtain ⟨_, _, h3, h4⟩ := textW_parts hs
  obtain ⟨_, _, k3, k4⟩ := textW_parts ht
  have a1 : leN s.data.toList < 256 ^ 5 := Nat.lt_of_lt_of_le h4 (Nat.pow_le_pow_right (by omega) hs)
  have a2 : leN t.data.toList < 256 ^ 5 := Nat.lt_of_lt_of_le k4 (Nat.pow_le_pow_right (by omega) ht)
  have hsz : s.size = t.size := by omega
  have key : s.data.toList = t.data.toList := List.ext_getElem hsz fun i h1 h2 => by
    have d1 := textW_digit hs (k := i) h1
    have d2 := textW_digit ht (k := i) h2
    rw [h] at d1
    exact UInt8.toNat.inj (d1.symm.trans d2)
  cases s; cases t
  simp only at key
  congr 1
  exact Array.toList_inj.1 key
end Go.Proofs.Ytgimcpnelogadaa.Wd
