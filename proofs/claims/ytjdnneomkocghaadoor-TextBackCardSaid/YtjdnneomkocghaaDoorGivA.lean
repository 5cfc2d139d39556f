/- Chapter 4: contracts by hand of what the print does not take: the shelf's, in the print's own form; soft.Neg. -/
import Derived.Test.YtjdnneomkocghaaDoorShelf
import Derived.Shelf.Spec.TrailingZeros
import Derived.Below
import Derived.WalkKit
import Derived.WalkSmall
import Derived.OwnWalk
import Derived.KernelRfl
import Derived.Lib.Hide
import Derived.Laws.Externs
import Derived.WalkLawsBesides
import Derived.WalkSpells
import Derived.Test.YtjdnneomkocghaaDoorWWords
namespace Go.Proofs
open Go.Shelf
def Tryd.lays7n29_ren : Go.Shelf.Ren := ⟨fun | 29 => 44 | n => n, fun | 22 => 22 | 3 => 3 | 4 => 4 | 25 => 44 | 54 => 74 | 0 => 0 | 5 => 5 | n => n, fun | 1 => 0 | n => n⟩
theorem Tryd.lays7n29 : Go.Proofs.Lays7.n29 Tryd.prog Tryd.lays7n29_ren := {
  mixed := by kernel_rfl
  f29 := Tryd.func44.trans (congrArg some (by kernel_rfl))
  t0 := Tryd.underlying0
  a0 := Tryd.isAgg0
  z0 := Tryd.sizeOf0
  v0 := Tryd.zeroValue0
  i0 := by kernel_rfl
  t3 := Tryd.underlying3
  a3 := Tryd.isAgg3
  z3 := Tryd.sizeOf3
  v3 := Tryd.zeroValue3
  i3 := by kernel_rfl
  t4 := Tryd.underlying4
  a4 := Tryd.isAgg4
  z4 := Tryd.sizeOf4
  v4 := Tryd.zeroValue4
  i4 := by kernel_rfl
  t5 := Tryd.underlying5
  a5 := Tryd.isAgg5
  z5 := Tryd.sizeOf5
  v5 := Tryd.zeroValue5
  i5 := by kernel_rfl
  t22 := Tryd.underlying22
  a22 := Tryd.isAgg22
  z22 := Tryd.sizeOf22
  v22 := Tryd.zeroValue22
  i22 := by kernel_rfl
  t25 := Tryd.underlying44
  a25 := Tryd.isAgg44
  z25 := Tryd.sizeOf44
  v25 := Tryd.zeroValue44
  i25 := by kernel_rfl
  t54 := Tryd.underlying74
  a54 := Tryd.isAgg74
  z54 := Tryd.sizeOf74
  g1 := by kernel_rfl }
end Go.Proofs
namespace Go.Proofs.YtjdnneomkocghaaDoor.Given
open Go.RowKit Go.Shelf Go.Proofs.YtjdnneomkocghaaDoorW.PrintWords

/-- What a walk asks of the program's variables: the tables and the two errors, below all blocks of ours. -/
def Glob (w : World) : Prop :=
  Lib.TabIs Tryd.prog w "internal/strconv.uint64pow10" .u64 Lib.pow10Tab ∧ TabAt 0 Lib.deBruijn64tab w ∧
  (∃ tp p, w.var? Tryd.prog "strconv.ErrSyntax" = some #[.iface tp p]) ∧ (∃ tp p, w.var? Tryd.prog "strconv.ErrRange" = some #[.iface tp p]) ∧ 5 ≤ w.heap.size

theorem g_pow : Tryd.prog.globalNamed "internal/strconv.uint64pow10" = some 4 := by kernel_rfl
theorem g_syn : Tryd.prog.globalNamed "strconv.ErrSyntax" = some 2 := by kernel_rfl
theorem g_rng : Tryd.prog.globalNamed "strconv.ErrRange" = some 3 := by kernel_rfl

theorem Glob.at_ {w w' : World} (h : Glob w) (hb : Below w.heap.size w w') : Glob w' := by
  obtain ⟨h1, h2, ⟨t3, p3, h3⟩, ⟨t4, p4, h4⟩, h5⟩ := h
  refine ⟨var?_below hb g_pow (by omega) h1, fun j hj => ?_, ⟨t3, p3, var?_below hb g_syn (by omega) h3⟩, ⟨t4, p4, var?_below hb g_rng (by omega) h4⟩, Nat.le_trans h5 hb.size⟩
  rw [hb.cell (p := ⟨0, j, none⟩) (by simp; omega)]; exact h2 j hj

def nanB (x : Nat) : Bool := decide (9218868437227405312 < x % 9223372036854775808)
theorem order_self (x : Nat) : (FloatKind.f64.format.order x x != some Ordering.eq) = nanB x := by
  have hs : FloatKind.f64.format.signWeight = 9223372036854775808 := rfl
  have hi : FloatKind.f64.format.infRung = 9218868437227405312 := rfl
  have hb : FloatKind.f64.format.binade = 4503599627370496 := rfl
  unfold Ieee.Format.order Ieee.Format.read nanB
  simp only [hs, hi, hb]
  by_cases h1 : x % 9223372036854775808 < 4503599627370496
  · rw [if_pos h1]
    have : ¬ 9218868437227405312 < x % 9223372036854775808 := by omega
    simp [Ieee.Datum.order, this]
  · rw [if_neg h1]
    by_cases h2 : x % 9223372036854775808 < 9218868437227405312
    · rw [if_pos h2]
      have : ¬ 9218868437227405312 < x % 9223372036854775808 := by omega
      simp [Ieee.Datum.order, this]
    · rw [if_neg h2]
      by_cases h3 : x % 9223372036854775808 = 9218868437227405312
      · rw [if_pos h3]
        have : ¬ 9218868437227405312 < x % 9223372036854775808 := by omega
        simp [Ieee.Datum.order, this]
      · rw [if_neg h3]
        have : 9218868437227405312 < x % 9223372036854775808 := by omega
        simp [Ieee.Datum.order, this]

def negS (x : Int) : Int := if nanB x.toNat = true then 9221120237041090560 else bits .xor .u64 x 9223372036854775808
def soft_Neg.f (a0 : Int) : Option Int := if 0 ≤ a0 ∧ a0 ≤ 18446744073709551615 then some (negS a0) else none

theorem call48 (x : Int) (w : World) : (callFunc 48 #[.int .u64 x]).run Tryd.prog w = .ok (.value (.float .f64 x.toNat)) w := by
  rw [run_callFunc_extern Tryd.func48 (by kernel_rfl) (by kernel_rfl) (by kernel_rfl) (e := Extern.MathFloatBits.float64frombits) (by kernel_rfl)]
  rfl
theorem soft_of_calls (x : Int) (w : World) :
    Calls Tryd.prog 35 #[.int .u64 x] w fun e w' => e = .returned (.float .f64 x.toNat) ∧ w = w' := by
  have hc := call48 x w
  go_enter Tryd.func35, Tryd.ntmps35
  go_wp2
  go_ret
  exact ⟨rfl, rfl⟩
theorem neg_calls (x : Int) (w : World) :
    Calls Tryd.prog 19 #[.int .u64 x] w fun e w' => e = .returned (.int .u64 (negS x)) ∧ w = w' := by
  have hn := order_self x.toNat
  by_cases h : nanB x.toNat = true
  · have hr : negS x = 9221120237041090560 := by unfold negS; rw [if_pos h]
    have H := Lib.hid hr
    clear hr
    rw [h] at hn
    go_enter Tryd.func19, Tryd.ntmps19
    go_wp2_with (first | (go_at_call 35; refine (soft_of_calls _ _).mono ?_; rintro e w' ⟨rfl, rfl⟩))
    go_ret
    exact ⟨by rw [H.out]; rfl, rfl⟩
  · have h' : nanB x.toNat = false := by simpa using h
    have hr : negS x = bits .xor .u64 x 9223372036854775808 := by unfold negS; rw [if_neg h]
    have H := Lib.hid hr
    clear hr
    rw [h'] at hn
    go_enter Tryd.func19, Tryd.ntmps19
    go_wp2_with (first | (go_at_call 35; refine (soft_of_calls _ _).mono ?_; rintro e w' ⟨rfl, rfl⟩))
    go_ret
    exact ⟨by rw [H.out]; rfl, rfl⟩
theorem soft_Neg.calls (a0 : Int) (r : Int) (w : World) (h : soft_Neg.f a0 = some r) :
    Calls Tryd.prog 19 #[.int .u64 a0] w fun e w' => e = .returned (.int .u64 r) ∧ Drawn0 w w' := by
  unfold soft_Neg.f at h
  split at h
  · obtain rfl := Option.some.inj h
    refine (neg_calls a0 w).mono ?_
    rintro e w' ⟨rfl, rfl⟩
    exact ⟨rfl, Drawn0.refl _⟩
  · cases h

/- the shelf's, in the print's form -/
def strings_CutPrefix.f (a0 a1 : ByteArray) : Option (ByteArray × Bool) := some (⟨(Lib.trimPrefix a0.data.toList a1.data.toList).toArray⟩, Lib.hasPrefix a0.data.toList a1.data.toList)
theorem strings_CutPrefix.calls (a0 a1 : ByteArray) (r1 : ByteArray) (r2 : Bool) (w : World) (h : strings_CutPrefix.f a0 a1 = some (r1, r2)) :
    Calls Tryd.prog 26 #[.string a0, .string a1] w fun e w' => e = .returned (.tuple #[.string r1, .bool r2]) ∧ Drawn0 w w' := by
  simp only [strings_CutPrefix.f, Option.some.injEq, Prod.mk.injEq] at h
  obtain ⟨rfl, rfl⟩ := h
  refine (Tryd.strings_CutPrefix a0 a1 w).mono ?_
  rintro e w' ⟨rfl, rfl⟩
  exact ⟨rfl, Drawn0.refl _⟩
def strings_TrimPrefix.f (a0 a1 : ByteArray) : Option ByteArray := some ⟨(Lib.trimPrefix a0.data.toList a1.data.toList).toArray⟩
theorem strings_TrimPrefix.calls (a0 a1 : ByteArray) (r : ByteArray) (w : World) (h : strings_TrimPrefix.f a0 a1 = some r) :
    Calls Tryd.prog 31 #[.string a0, .string a1] w fun e w' => e = .returned (.string r) ∧ Drawn0 w w' := by
  simp only [strings_TrimPrefix.f, Option.some.injEq] at h
  obtain rfl := h
  refine (Tryd.strings_TrimPrefix a0 a1 w).mono ?_
  rintro e w' ⟨rfl, rfl⟩
  exact ⟨rfl, Drawn0.refl _⟩
def strings_HasPrefix.f (a0 a1 : ByteArray) : Option Bool := some (Lib.hasPrefix a0.data.toList a1.data.toList)
theorem strings_HasPrefix.calls (a0 a1 : ByteArray) (r : Bool) (w : World) (h : strings_HasPrefix.f a0 a1 = some r) :
    Calls Tryd.prog 39 #[.string a0, .string a1] w fun e w' => e = .returned (.bool r) ∧ Drawn0 w w' := by
  simp only [strings_HasPrefix.f, Option.some.injEq] at h
  obtain rfl := h
  refine (Tryd.strings_HasPrefix a0 a1 w).mono ?_
  rintro e w' ⟨rfl, rfl⟩
  exact ⟨rfl, Drawn0.refl _⟩
def bits_LeadingZeros64.f (a0 : Int) : Option Int := if 0 ≤ a0 ∧ a0 ≤ 18446744073709551615 then some (64 - (Lib.bitLen a0.toNat : Int)) else none
theorem bits_LeadingZeros64.calls (a0 r : Int) (w : World) (h : bits_LeadingZeros64.f a0 = some r) :
    Calls Tryd.prog 25 #[.int .u64 a0] w fun e w' => e = .returned (.int .i64 r) ∧ Drawn0 w w' := by
  unfold bits_LeadingZeros64.f at h
  split at h
  · rename_i hc
    obtain rfl := Option.some.inj h
    refine (Tryd.bits_LeadingZeros64 a0 w hc.1 hc.2).mono ?_
    rintro e w' ⟨rfl, rfl⟩
    exact ⟨rfl, Drawn0.refl _⟩
  · cases h
def bits_Len64.f (a0 : Int) : Option Int := if 0 ≤ a0 ∧ a0 ≤ 18446744073709551615 then some (Lib.bitLen a0.toNat : Int) else none
theorem bits_Len64.calls (a0 r : Int) (w : World) (h : bits_Len64.f a0 = some r) :
    Calls Tryd.prog 40 #[.int .u64 a0] w fun e w' => e = .returned (.int .i64 r) ∧ Drawn0 w w' := by
  unfold bits_Len64.f at h
  split at h
  · rename_i hc
    obtain rfl := Option.some.inj h
    refine (Tryd.bits_Len64 a0 w hc.1 hc.2).mono ?_
    rintro e w' ⟨rfl, rfl⟩
    exact ⟨rfl, Drawn0.refl _⟩
  · cases h
theorem below_grow0 (B : Nat) (w : World) (hB : B ≤ w.heap.size) (k : Nat) (os : Array Obj) : Below B w (Sort.grow (w.drewN k) os) :=
  ⟨rfl, rfl, rfl, by show w.heap.size ≤ (w.heap ++ os).size; rw [Array.size_append]; omega, fun j hj => by
    show (w.heap ++ os)[j]? = w.heap[j]?
    rw [Array.getElem?_append_left (by omega)]⟩
def strconv_FormatInt_33.f (a0 a1 : Int) : Option ByteArray := if -9223372036854775808 ≤ a0 ∧ a0 ≤ 9223372036854775807 ∧ a1 = 10 then some ⟨(Lib.itoa a0).toArray⟩ else none
theorem strconv_FormatInt_33.calls (a0 a1 : Int) (r : ByteArray) (w : World) (hG : Glob w) (h : strconv_FormatInt_33.f a0 a1 = some r) :
    Calls Tryd.prog 33 #[.int .i64 a0, .int .i64 a1] w fun e w' => e = .returned (.string r) ∧ Below w.heap.size w w' := by
  unfold strconv_FormatInt_33.f at h
  split at h
  · rename_i hc
    obtain ⟨h1, h2, rfl⟩ := hc
    obtain rfl := Option.some.inj h
    refine (Tryd.strconv_FormatInt_10 a0 h1 h2 w hG.1).mono ?_
    rintro e w' ⟨rfl, k, os, rfl⟩
    exact ⟨rfl, below_grow0 _ _ (Nat.le_refl _) _ _⟩
  · cases h
def errV : Option Int → Value
  | none => .nilIface
  | some c => .iface 70 (.int .i64 c)
def strconv_Atoi_29.f (a0 : ByteArray) : Option (Int × Option Int) := if a0.size ≤ 9223372036854775806 then match Lib.atoiAll a0.data.toList with | .ok v => some (v, none) | _ => none else none
theorem strconv_Atoi_29.calls (a0 : ByteArray) (r1 : Int) (r2 : Option Int) (w : World) (h : strconv_Atoi_29.f a0 = some (r1, r2)) :
    Calls Tryd.prog 29 #[.string a0] w fun e w' => e = .returned (.tuple #[.int .i64 r1, errV r2]) ∧ Below w.heap.size w w' := by
  unfold strconv_Atoi_29.f at h
  split at h
  · rename_i hs
    split at h
    · rename_i v hv
      simp only [Option.some.injEq, Prod.mk.injEq] at h
      obtain ⟨rfl, rfl⟩ := h
      refine (Tryd.strconv_Atoi_ok a0 hs v hv w).mono ?_
      rintro e w' ⟨rfl, hw⟩
      refine ⟨rfl, ?_⟩
      rcases hw with rfl | ⟨t, rfl⟩
      · exact Below.refl _ _
      · exact Lib.bytesWorld_below _ _ _
    · cases h
  · cases h
def bits_TrailingZeros64.f (a0 : Int) : Option Int := if 0 ≤ a0 ∧ a0 < 18446744073709551616 then some (Lib.ctz 64 a0.toNat : Int) else none
theorem bits_TrailingZeros64.calls (a0 r : Int) (w : World) (hG : Glob w) (h : bits_TrailingZeros64.f a0 = some r) :
    Calls Tryd.prog 44 #[.int .u64 a0] w fun e w' => e = .returned (.int .i64 r) ∧ Below w.heap.size w w' := by
  unfold bits_TrailingZeros64.f at h
  split at h
  · rename_i hc
    obtain ⟨h0, h1⟩ := hc
    obtain rfl := Option.some.inj h
    obtain ⟨x, rfl⟩ := Int.eq_ofNat_of_zero_le h0
    refine (Any7.bits_TrailingZeros64 Tryd.lays7n29 x (by omega) w (fun _ => hG.2.1)).mono ?_
    rintro e w' ⟨rfl, rfl⟩
    exact ⟨rfl, Below.refl _ _⟩
  · cases h
end Go.Proofs.YtjdnneomkocghaaDoor.Given
