/- Chapter 5, the store, by hand: Load. -/
import Derived.Test.YtgimcpnelogadaaStG
namespace Go.Proofs.Ytgimcpnelogadaa.Sto
open Go.RowKit Go.Proofs.Ytgimcpnelogadaa.Mem
set_option linter.unusedVariables false
set_option linter.unusedSimpArgs false

/-- The number of some bytes, the lowest first. -/
def leN : List UInt8 → Nat
  | [] => 0
  | b :: bs => b.toNat + 256 * leN bs
theorem leN_snoc (l : List UInt8) (b : UInt8) : leN (l ++ [b]) = leN l + b.toNat * 256 ^ l.length := by
  induction l with
  | nil => simp [leN]
  | cons x xs ih => simp only [List.cons_append, leN, ih, List.length_cons, Nat.pow_succ]; rw [Nat.mul_add]; rw [show 256 * (b.toNat * 256 ^ xs.length) = b.toNat * (256 ^ xs.length * 256) by rw [Nat.mul_comm, Nat.mul_assoc]]; omega
theorem leN_lt (l : List UInt8) : leN l < 256 ^ l.length := by
  induction l with
  | nil => simp [leN]
  | cons x xs ih => simp only [leN, List.length_cons, Nat.pow_succ]; have := x.toNat_lt; omega

theorem load_none {w : World} {p : Nat} {s : St} {F : List Nat} (h : Sto w p s F) (k off width : Int) (hk : I64 k) (hn : atOf s.all k = none) :
    Calls Try.prog 24 #[.pointer (some ⟨p, 0, none⟩), .int .i64 k, .int .i64 off, .int .i64 width] w fun e w' => e = .returned (.tuple #[.int .u64 0, .int .i64 30]) ∧ w = w' := by
  have C := Aside.mk (part_none h k off width hk hn)
  clear h hn hk
  go_enter Try.func24, Try.ntmps24
  go_wp2_with (go_at_call 66; (with_reducible refine C.out.mono ?_); rintro e w' ⟨rfl, rfl⟩)
  refine wp_loop_rounds 1 ?_
  rw [rounds_succ]; go_wp2
  go_ret2
  exact ⟨rfl, rfl⟩

theorem load_bad {w : World} {p : Nat} {s : St} {F : List Nat} (h : Sto w p s F) (ho : Ok s) (hl : s.all.length ≤ 1000000000) (hr : s.raw.length ≤ 1000000000000) {i : Nat} (hi : i < s.all.length) (hk : I64 (s.all[i].id : Int)) (off width : Int) (hb : reachE s.all[i].len off width ≠ 0) :
    Calls Try.prog 24 #[.pointer (some ⟨p, 0, none⟩), .int .i64 (s.all[i].id : Int), .int .i64 off, .int .i64 width] w fun e w' => e = .returned (.tuple #[.int .u64 0, .int .i64 (reachE s.all[i].len off width)]) ∧ Chg [] w w' := by
  have C := Aside.mk (part_bad h ho hl hr hi hk off width hb)
  clear h ho hl hr hk hb
  go_enter Try.func24, Try.ntmps24
  go_wp2_with (go_at_call 66; (with_reducible refine C.out.mono ?_); rintro e w' ⟨rfl, hc⟩)
  refine wp_loop_rounds 1 ?_
  rw [rounds_succ]; go_wp2
  go_ret2
  exact ⟨rfl, hc⟩

/-- The cells of the bytes of a store. -/
theorem StoAt.byte {w : World} {p mb : Nat} {s : St} {allv : Value} {g m cap : Nat} (h : StoAt w p s (.slice (some ⟨g, 0, none⟩) m cap) allv mb) {j : Nat} (hj : j < s.raw.length) :
    w.cell? ⟨g, j, none⟩ = some (.int .u8 (s.raw[j].toNat : Int)) ∧ w.frozen? ⟨g, j, none⟩ = false := by
  rcases h.raw.cases with ⟨h1, h2, _⟩ | ⟨g', cap', rest, h1, hb, _⟩
  · cases h1
  · cases h1
    refine ⟨hb.cellAt (List.getElem?_append_left_some (b := rest) ?_), hb.frozen j⟩
    simp [u8V, List.getElem?_map, List.getElem?_eq_getElem hj]

theorem sl_succ {α : Type} {r : List α} {a k : Nat} (h : a + k < r.length) : sl r a (k + 1) = sl r a k ++ [r[a + k]] := by
  unfold sl
  rw [List.take_succ_eq_append_getElem (by rw [List.length_drop]; omega), List.getElem_drop]
theorem or_step (X b k : Nat) (hX : X < 256 ^ k) (hk : k < 8) (hb : b < 256) : bits .or .u64 (X : Int) (IntKind.u64.wrap ((b : Int) * 2 ^ (8 * k))) = ((X + b * 256 ^ k : Nat) : Int) := by
  have e : (256 : Nat) ^ k = 2 ^ (8 * k) := by rw [Nat.pow_mul]
  rw [e] at hX ⊢
  have hlt : b * 2 ^ (8 * k) < 18446744073709551616 := by
    have : 2 ^ (8 * k) ≤ 2 ^ 56 := Nat.pow_le_pow_right (by omega) (by omega)
    have : b * 2 ^ (8 * k) ≤ 255 * 2 ^ 56 := Nat.mul_le_mul (by omega) this
    omega
  have hX2 : X < 18446744073709551616 := by
    have : 2 ^ (8 * k) ≤ 2 ^ 56 := Nat.pow_le_pow_right (by omega) (by omega)
    omega
  have e2 : ((b : Int) * 2 ^ (8 * k)) = ((b * 2 ^ (8 * k) : Nat) : Int) := by simp
  have e3 : IntKind.u64.wrap ((b : Int) * 2 ^ (8 * k)) = ((b * 2 ^ (8 * k) : Nat) : Int) := by
    rw [e2]
    simp only [IntKind.wrap, IntKind.bits, IntKind.signed]
    simp
    omega
  rw [e3, u64_or_nat X (b * 2 ^ (8 * k)) hX2 hlt]
  congr 1
  rw [Nat.or_comm, ← Nat.shiftLeft_eq, ← Nat.shiftLeft_add_eq_or_of_lt hX, Nat.add_comm]

set_option maxRecDepth 100000 in
theorem load_ok {w : World} {p mb : Nat} {s : St} {rawv allv : Value} (h : StoAt w p s rawv allv mb) (ho : Ok s) (hl : s.all.length ≤ 1000000000) (hr : s.raw.length ≤ 1000000000000) {i : Nat} (hi : i < s.all.length) (hk : I64 (s.all[i].id : Int)) (o wd : Nat)
    (hw : wd = 1 ∨ wd = 2 ∨ wd = 4 ∨ wd = 8) (hfit : o + wd ≤ s.all[i].len) (hm : o % wd = 0) :
    Calls Try.prog 24 #[.pointer (some ⟨p, 0, none⟩), .int .i64 (s.all[i].id : Int), .int .i64 (o : Int), .int .i64 (wd : Int)] w fun e w' =>
      e = .returned (.tuple #[.int .u64 (leN (sl s.raw (s.all[i].at_ + o) wd) : Nat), .int .i64 0]) ∧ Chg [] w w' := by
  have C := Aside.mk (part_ok h ho hl hr hi hk o wd hw hfit hm)
  have hin := ho.lay.inside _ (List.getElem_mem hi)
  have hup := up_ge s.all[i].len
  obtain ⟨A, hA⟩ : ∃ A, A = s.all[i].at_ + o := ⟨_, rfl⟩
  rw [← hA] at C ⊢
  have hb : A + wd ≤ s.raw.length := by omega
  have H := Aside.mk h
  have HB := Aside.mk hb
  have hw8 : wd ≤ 8 := by omega
  clear h ho hl hk hin hup hA hm hw hfit hb
  go_enter Try.func24, Try.ntmps24
  go_wp2_with (go_at_call 66; (with_reducible refine C.out.mono ?_); rintro e w1 ⟨g, m, cap, rfl, rfl, hc⟩)
  have H1 := Aside.mk (H.out.chg hc (by simp))
  go_loop [12, 25] (fun x i => ∃ k : Nat, k ≤ wd ∧ i = .int .i64 (k : Int) ∧ x = .int .u64 (leN (sl s.raw A k) : Nat)) (fun _ i => wd - (intOf i).toNat)
  case atStart => exact ⟨0, Nat.zero_le _, rfl, by simp [sl_zero, leN]⟩
  case round =>
    obtain ⟨k, hk, rfl, rfl⟩ := hrel
    by_cases c : k < wd
    · have hj : A + k < s.raw.length := by have := HB.out; omega
      have b0 := (H1.out.byte hj).1
      obtain ⟨X, hX⟩ : ∃ X, X = leN (sl s.raw A k) := ⟨_, rfl⟩
      obtain ⟨b, hb⟩ : ∃ b, b = s.raw[A + k] := ⟨_, rfl⟩
      rw [← hb] at b0
      rw [← hX]
      have HX := Aside.mk hX
      have Hb := Aside.mk hb
      clear hX hb
      have hb256 : b.toNat < 256 := b.toNat_lt
      go_wp2
      go_roundw
      case rel =>
        refine ⟨k + 1, by omega, by go_num, ?_⟩
        rw [sl_succ hj, leN_snoc, ← HX.out, ← Hb.out, sl_length (by omega)]
        exact congrArg (Value.int .u64) (or_step X b.toNat k (by rw [HX.out]; exact Nat.lt_of_lt_of_le (leN_lt _) (by rw [sl_length (by omega)]; exact Nat.le_refl _)) (by omega) hb256)
      case measure => simp [intOf]; omega
    · go_wp2
      obtain rfl : k = wd := by omega
      go_ret2
      exact ⟨rfl, hc⟩
end Go.Proofs.Ytgimcpnelogadaa.Sto
