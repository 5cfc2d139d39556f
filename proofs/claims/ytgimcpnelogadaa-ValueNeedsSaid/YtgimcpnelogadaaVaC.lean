/- Chapter 6: texts in a heap; Shape and Plain of cells without bytes. -/
import Derived.Test.YtgimcpnelogadaaHpY
namespace Go.Proofs.Ytgimcpnelogadaa.Hp
open Go.RowKit Go.Proofs.Ytgimcpnelogadaa.Mem Go.Proofs.Ytgimcpnelogadaa.Sto Go.Proofs.Ytgimcpnelogadaa.Wd
set_option linter.unusedVariables false
set_option linter.unusedSimpArgs false
attribute [local go_sem] Option.isNone_some Option.isNone_none
theorem results_tmp4 {fn : Func} {t u v x : Tmp} (h : fn.results = #[.tmp t, .tmp u, .tmp v, .tmp x]) (tmps : Array Value) (P : Program) (w : World) :
    (results fn tmps).run P w = .ok (.tuple #[tmps.getD t undef, tmps.getD u undef, tmps.getD v undef, tmps.getD x undef]) w := by
  simp [results, h]
def textC (s : ByteArray) : Cel := ⟨4, false, 0, s, [], [], 0, 0, 0, 0, 1 + (s.size + 7) / 8⟩
set_option maxHeartbeats 8000000 in
set_option maxRecDepth 100000 in
theorem right_text (s : ByteArray) (hs : s.size ≤ 8388608) (p : Nat) (W : World) :
    Calls Try.prog 81 #[.pointer (some ⟨p, 0, none⟩), .agg #[.int .i64 4, .bool false, .int .i64 0, .string s, .slice none 0 0, .slice none 0 0, .int .u64 0, .int .i64 0, .int .i64 0]] W fun e w' => e = .returned (.bool true) ∧ Chg [] W w' := by
  have CW := Mem.Aside.mk (width_calls 4)
  rw [show widthN 4 = 0 from rfl, show ((0 : Nat) : Int) = 0 from rfl] at CW
  have h1 : (s.size : Int) ≤ 8388608 := by omega
  have h2 : decide ((s.size : Int) ≤ 8388608) = true := decide_eq_true h1
  clear hs
  go_enter Try.func81, Try.ntmps81
  go_wp2_with (go_at_call 80; (with_reducible refine (CW.out _).mono ?_); rintro e w' ⟨rfl, rfl⟩)
  go_ret
  exact ⟨rfl, ((Chg.refl _ _).alloc _).alloc _⟩
section
variable {w W W' W1 : World} {p units : Nat} {M : List (Option MC)}
theorem put_text (h : LawH w p units M W) (hc : Chg [] W W1) (s : ByteArray) (hs : s.size ≤ 8388608) {rv : Value} {rs : List Nat} (hr : Row W1 22 1 rv rs.length (u64V rs)) (hrl : rs.length ≤ 1000000000) (hrx : ∀ x ∈ rs, x < 18446744073709551616) :
    Calls Try.prog 39 #[.pointer (some ⟨p, 0, none⟩), .agg #[.int .i64 4, .bool false, .int .i64 0, .string s, .slice none 0 0, .slice none 0 0, .int .u64 0, .int .i64 0, .int .i64 0], rv] W1 (PutPost w p units M (textC s) rs) :=
  put_law h hc (textC s) ⟨by simp [textC], by simp [textC], by simp [textC], by simp [textC], by simp [textC]⟩ rfl rfl (by show s.size ≤ 1000000000; omega) (Row.nil _ _ _) (fun g hg => by cases hg) rfl rfl rfl hr hrl hrx (fun W2 cv rp F most h2 hc2 => right_text s hs p W2)
end
section
variable {w w' : World} {p units used rp most : Nat} {M : List (Option MC)} {cv : Value} {F : List Nat}
set_option maxHeartbeats 4000000 in
theorem bytes_plain {blk : Nat} {c : Cel} {wv : Value} (hc : Blk w blk 136 (celV c wv)) (hv : c.view = false) (hk : widthN c.kind = 0) :
    Calls Try.prog 123 #[.pointer (some ⟨p, 0, none⟩), .pointer (some ⟨blk, 0, none⟩)] w fun e w' => e = .returned (.tuple #[.slice none 0 0, .bool false]) ∧ w = w' := by
  have CW := Mem.Aside.mk (width_calls c.kind)
  rw [hk, show ((0 : Nat) : Int) = 0 from rfl] at CW
  have k0 := hc.cellAt (i := 0) rfl
  have k1 := hc.cellAt (i := 1) rfl
  rw [hv] at k1
  clear hc hv hk
  go_enter Try.func123, Try.ntmps123
  go_wp2_with (go_at_call 80; (with_reducible refine (CW.out _).mono ?_); rintro e w' ⟨rfl, rfl⟩)
  go_ret2
  exact ⟨rfl, rfl⟩
set_option maxHeartbeats 4000000 in
theorem shape_plain (h : HeapAt w p units used M cv rp F most) {x : Nat} (hx : x < 18446744073709551616) {m : MC} (hm : atM M x = some m) (hv : m.c.view = false) (hk : widthN m.c.kind = 0) :
    Calls Try.prog 99 #[.pointer (some ⟨p, 0, none⟩), .int .u64 (x : Int)] w fun e w' => ∃ n : Int, e = .returned (.tuple #[.int .i64 m.c.kind, .bool false, .int .i64 n, .bool true]) ∧ Chg [] w w' := by
  have CF := Mem.Aside.mk (find_calls h x hx)
  rw [hm] at CF
  have hM := atM_mem hm
  have hc := h.cells m hM
  have CB := Mem.Aside.mk (bytes_plain (p := p) hc hv hk)
  have hw := h.words m hM
  obtain ⟨c, blk, wv⟩ := m
  simp only at CF CB hc hv hk hw ⊢
  obtain ⟨aw, cw, rfl⟩ := Row_form hw
  have k0 := hc.cellAt (i := 0) rfl
  have k1 := hc.cellAt (i := 1) rfl
  have k3 := hc.cellAt (i := 3) rfl
  have k5 := hc.cellAt (i := 5) rfl
  rw [hv] at k1
  obtain ⟨K, hK⟩ : ∃ K, K = c.kind := ⟨_, rfl⟩
  rw [← hK] at k0 ⊢
  clear hc hv hk h hm hM hw hK
  by_cases c9 : K = 9
  · subst c9
    go_enter Try.func99, Try.ntmps99
    go_upto_region 10 with (first
      | (go_at_call 88; (with_reducible refine CF.out.mono ?_); rintro e w' ⟨rfl, rfl⟩)
      | (go_at_call 123; (with_reducible refine CB.out.mono ?_); rintro e w' ⟨rfl, rfl⟩))
    go_quiet (fail)
    go_wp2
    refine bodyPost_ret (results_tmp4 rfl _ _ _) rfl ?_
    exact ⟨_, rfl, (Chg.refl [] _).drewN _⟩
  · have e9 : (K == 9) = false := by simpa using c9
    go_enter Try.func99, Try.ntmps99
    go_upto_region 10 with (first
      | (go_at_call 88; (with_reducible refine CF.out.mono ?_); rintro e w' ⟨rfl, rfl⟩)
      | (go_at_call 123; (with_reducible refine CB.out.mono ?_); rintro e w' ⟨rfl, rfl⟩))
    go_quiet (fail)
    go_wp2
    refine bodyPost_ret (results_tmp4 rfl _ _ _) rfl ?_
    exact ⟨_, rfl, (Chg.refl [] _).drewN _⟩
set_option maxHeartbeats 4000000 in
theorem plain_calls (h : HeapAt w p units used M cv rp F most) {x : Nat} (hx : x < 18446744073709551616) {m : MC} (hm : atM M x = some m) :
    Calls Try.prog 106 #[.pointer (some ⟨p, 0, none⟩), .int .u64 (x : Int)] w fun e w' => e = .returned (.tuple #[.int .i64 m.c.int, .string m.c.text]) ∧ Chg [] w w' := by
  have CF := Mem.Aside.mk (find_calls h x hx)
  rw [hm] at CF
  have hc := h.cells m (atM_mem hm)
  have k2 := hc.cellAt (i := 2) rfl
  have k3 := hc.cellAt (i := 3) rfl
  clear h hm hc
  go_enter Try.func106, Try.ntmps106
  go_upto_region 4 with (go_at_call 88; (with_reducible refine CF.out.mono ?_); rintro e w' ⟨rfl, rfl⟩)
  go_quiet (fail)
  go_wp2
  go_ret2
  exact ⟨rfl, (Chg.refl [] _).drewN _⟩
end
end Go.Proofs.Ytgimcpnelogadaa.Hp
