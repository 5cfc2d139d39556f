/- Chapter 6: right, for whole numbers, rows and bytes. -/
import Derived.Test.YtgimcpnelogadaaHpG
namespace Go.Proofs.Ytgimcpnelogadaa.Hp
open Go.RowKit Go.Proofs.Ytgimcpnelogadaa.Mem Go.Proofs.Ytgimcpnelogadaa.Sto Go.Proofs.Ytgimcpnelogadaa.Wd
set_option linter.unusedVariables false
set_option linter.unusedSimpArgs false
attribute [local go_sem] Option.isNone_some Option.isNone_none
section
variable {w w' : World} {p units used rp most : Nat} {M : List (Option MC)} {cv : Value} {F : List Nat}
abbrev noText : ByteArray := { data := #[] }
set_option maxHeartbeats 8000000 in
set_option maxRecDepth 100000 in
theorem right_int (i : Int) (h : HeapAt w p units used M cv rp F most) :
    Calls Try.prog 81 #[.pointer (some ⟨p, 0, none⟩), .agg #[.int .i64 2, .bool false, .int .i64 i, .string noText, .slice none 0 0, .slice none 0 0, .int .u64 0, .int .i64 0, .int .i64 0]] w fun e w' => e = .returned (.bool true) ∧ Chg [] w w' := by
  have CW := Mem.Aside.mk (width_calls 2)
  rw [show widthN 2 = 0 from rfl, show ((0 : Nat) : Int) = 0 from rfl] at CW
  clear h
  go_enter Try.func81, Try.ntmps81
  go_wp2_with (go_at_call 80; (with_reducible refine (CW.out _).mono ?_); rintro e w' ⟨rfl, rfl⟩)
  go_ret
  exact ⟨rfl, ((Chg.refl _ _).alloc _).alloc _⟩
set_option maxHeartbeats 8000000 in
set_option maxRecDepth 100000 in
theorem right_row (h : HeapAt w p units used M cv rp F most) {wv : Value} {l : List Nat} (hr : Row w 22 1 wv l.length (u64V l)) (hl : l.length ≤ 1000000000) (hx : ∀ x ∈ l, x < 18446744073709551616) :
    Calls Try.prog 81 #[.pointer (some ⟨p, 0, none⟩), .agg #[.int .i64 9, .bool false, .int .i64 0, .string noText, .slice none 0 0, wv, .int .u64 0, .int .i64 0, .int .i64 0]] w fun e w' => e = .returned (.bool (decide (l.length ≤ 1048576) && l.all (soundB M))) ∧ Chg [] w w' := by
  have CW := Mem.Aside.mk (width_calls 9)
  rw [show widthN 9 = 0 from rfl, show ((0 : Nat) : Int) = 0 from rfl] at CW
  have CC := Mem.Aside.mk (contains_calls (w := (w.alloc (.cells #[.pointer (some ⟨p, 0, none⟩)] 63)).alloc (.cells #[.int .i64 9, .bool false, .int .i64 0, .string noText, .slice none 0 0, wv, .int .u64 0, .int .i64 0, .int .i64 0] 60)) (h.chg (((Chg.refl [] w).alloc _).alloc _) (by simp)) (hb := w.heap.size) (((Blk.newL [_] rfl).alloc _).cellAt (i := 0) rfl) (hr.chg (((Chg.refl [] w).alloc _).alloc _) (by simp)) hl hx)
  obtain ⟨aw, cw, rfl⟩ := Row_form hr
  have hany : (l.any fun x => !soundB M x) = !(l.all (soundB M)) := by rw [List.not_all_eq_any_not]
  rw [hany] at CC
  obtain ⟨S, hS⟩ : ∃ S, S = l.all (soundB M) := ⟨_, rfl⟩
  rw [← hS] at CC ⊢
  clear h hr hx hS hany
  by_cases c : l.length ≤ 1048576
  · have c1 : decide ((l.length : Int) ≤ 1048576) = true := decide_eq_true (by omega)
    have c2 : (l.length : Int) ≤ 1048576 := by omega
    rw [decide_eq_true c]
    clear c
    cases S with
    | true =>
      go_enter Try.func81, Try.ntmps81
      go_wp2_with (first
        | (go_at_call 80; (with_reducible refine (CW.out _).mono ?_); rintro e w' ⟨rfl, rfl⟩)
        | (go_at_call 118; (with_reducible refine CC.out.mono ?_); rintro e w' ⟨rfl, rfl⟩))
      go_ret
      exact ⟨rfl, ((Chg.refl _ _).alloc _).alloc _⟩
    | false =>
      go_enter Try.func81, Try.ntmps81
      go_wp2_with (first
        | (go_at_call 80; (with_reducible refine (CW.out _).mono ?_); rintro e w' ⟨rfl, rfl⟩)
        | (go_at_call 118; (with_reducible refine CC.out.mono ?_); rintro e w' ⟨rfl, rfl⟩))
      go_ret
      exact ⟨rfl, ((Chg.refl _ _).alloc _).alloc _⟩
  · have c1 : decide ((l.length : Int) ≤ 1048576) = false := decide_eq_false (by omega)
    have c2 : ¬ (l.length : Int) ≤ 1048576 := by omega
    rw [decide_eq_false c]
    clear c
    go_enter Try.func81, Try.ntmps81
    go_wp2_with (first
      | (go_at_call 80; (with_reducible refine (CW.out _).mono ?_); rintro e w' ⟨rfl, rfl⟩)
      | (go_at_call 118; (with_reducible refine CC.out.mono ?_); rintro e w' ⟨rfl, rfl⟩))
    go_ret
    exact ⟨rfl, ((Chg.refl _ _).alloc _).alloc _⟩
set_option maxHeartbeats 8000000 in
set_option maxRecDepth 100000 in
theorem right_u8 (w : World) (p : Nat) (a : Option Addr) (n c : Nat) (hn : n ≤ 1000000000) :
    Calls Try.prog 81 #[.pointer (some ⟨p, 0, none⟩), .agg #[.int .i64 8, .bool false, .int .i64 0, .string noText, .slice a n c, .slice none 0 0, .int .u64 0, .int .i64 0, .int .i64 0]] w fun e w' => e = .returned (.bool (decide (n ≤ 8388608))) ∧ Chg [] w w' := by
  have CW := Mem.Aside.mk (width_calls 8)
  rw [show widthN 8 = 1 from rfl, show ((1 : Nat) : Int) = 1 from rfl] at CW
  have e1 : (n : Int).tmod 1 = 0 := by simp
  have e0 : (n : Int) % 1 = 0 := by omega
  by_cases c : n ≤ 8388608
  · have c1 : decide ((n : Int) ≤ 8388608) = true := decide_eq_true (by omega)
    have c2 : (n : Int) ≤ 8388608 := by omega
    rw [decide_eq_true c]
    clear c
    go_enter Try.func81, Try.ntmps81
    go_wp2_with (go_at_call 80; (with_reducible refine (CW.out _).mono ?_); rintro e w' ⟨rfl, rfl⟩)
    go_ret
    exact ⟨rfl, ((Chg.refl _ _).alloc _).alloc _⟩
  · have c1 : decide ((n : Int) ≤ 8388608) = false := decide_eq_false (by omega)
    have c2 : ¬ (n : Int) ≤ 8388608 := by omega
    rw [decide_eq_false c]
    clear c
    go_enter Try.func81, Try.ntmps81
    go_wp2_with (go_at_call 80; (with_reducible refine (CW.out _).mono ?_); rintro e w' ⟨rfl, rfl⟩)
    go_ret
    exact ⟨rfl, ((Chg.refl _ _).alloc _).alloc _⟩
end
end Go.Proofs.Ytgimcpnelogadaa.Hp
