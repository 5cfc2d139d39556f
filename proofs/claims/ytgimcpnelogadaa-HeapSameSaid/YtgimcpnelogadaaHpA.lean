/- Chapter 6: a heap in memory; width, Need's rounding. -/
import Derived.Test.YtgimcpnelogadaaHpP
import Derived.Test.YtgimcpnelogadaaWdC
import Derived.Test.YtgimcpnelogadaaStY
namespace Go.Proofs.Ytgimcpnelogadaa.Hp
open Go.RowKit Go.Proofs.Ytgimcpnelogadaa.Mem Go.Proofs.Ytgimcpnelogadaa.Sto Go.Proofs.Ytgimcpnelogadaa.Wd
set_option linter.unusedVariables false
set_option linter.unusedSimpArgs false

/-- An element of a row. -/
theorem row_get1 {w : World} {t : TypeId} {n : Nat} {v : Value} {xs : List Value} (h : Row w t 1 v n xs) {i : Nat} {u : Value} (hi : xs[i]? = some u) : ∃ g cap, v = .slice (some ⟨g, 0, none⟩) n cap ∧ w.cell? ⟨g, i, none⟩ = some u := by
  rcases h.cases with ⟨h1, rfl, rfl⟩ | ⟨g, cap, rest, h1, hb, _⟩
  · simp at hi
  · exact ⟨g, cap, h1, hb.cellAt (List.getElem?_append_left_some (b := rest) hi)⟩
/-- How many bytes an element of a buffer has. -/
def widthN (k : Int) : Nat := if k = 5 then 8 else if k = 6 then 4 else if k = 7 then 2 else if k = 8 then 1 else 0
/-- Is a cell a buffer that is no view? -/
def Cel.buf (c : Cel) : Bool := !c.view && decide (0 < widthN c.kind)
/-- A cell in memory: its block; the slice of its words. -/
structure MC where
  c : Cel
  blk : Nat
  wv : Value
def u64V (l : List Nat) : List Value := l.map fun (n : Nat) => Value.int .u64 (n : Int)
def celV (c : Cel) (wv : Value) : List Value := [.int .i64 c.kind, .bool c.view, .int .i64 c.int, .string c.text, .slice none 0 0, wv, .int .u64 (c.base : Int), .int .i64 c.from_, .int .i64 c.len, .int .i64 (c.ext : Int), .int .i64 (c.need : Int)]
def ptrV : Option MC → Value
  | none => .pointer none
  | some m => .pointer (some ⟨m.blk, 0, none⟩)
/-- The extents of the buffers. -/
def bufs (M : List (Option MC)) : List (Nat × List UInt8) := M.filterMap fun o => o.bind fun m => if m.c.buf then some (m.c.ext, m.c.bytes) else none
def blks (M : List (Option MC)) : List Nat := M.filterMap fun o => o.map MC.blk
def owns (M : List (Option MC)) : List Nat := M.filterMap fun o => o.bind fun m => m.wv.ownBlock
def celsOf (M : List (Option MC)) : Cells := M.map fun o => o.map MC.c
def hfoot (p : Nat) (cv : Value) (M : List (Option MC)) (F : List Nat) : List Nat := p :: (cv.ownBlock.toList ++ (blks M ++ (owns M ++ F)))
/-- How many units a cell takes, by its lengths. -/
def needN (view : Bool) (kind : Int) (tl bl wl : Nat) : Nat := if view then 1 else if kind = 2 then 2 else if kind = 4 then 1 + (tl + 7) / 8 else if kind = 9 then 1 + wl else if 0 < widthN kind then 1 + (bl + 7) / 8 else 1
def Cel.needs (c : Cel) : Nat := needN c.view c.kind c.text.size c.bytes.length c.words.length
/-- The cells of an argument: c, with its slices. -/
def argV (c : Cel) (bv wv : Value) : Value := .agg #[.int .i64 c.kind, .bool c.view, .int .i64 c.int, .string c.text, bv, wv, .int .u64 (c.base : Int), .int .i64 c.from_, .int .i64 c.len]

theorem widthN_le (k : Int) : widthN k ≤ 8 := by unfold widthN; repeat (first | omega | split)
theorem width_calls (k : Int) (w : World) : Calls Try.prog 80 #[.int .i64 k] w fun e w' => e = .returned (.int .i64 (widthN k : Nat)) ∧ w = w' := by
  by_cases c5 : k = 5
  · subst c5
    go_enter Try.func80, Try.ntmps80
    go_wp2
    go_ret
    exact ⟨rfl, rfl⟩
  by_cases c6 : k = 6
  · subst c6
    go_enter Try.func80, Try.ntmps80
    go_wp2
    go_ret
    exact ⟨rfl, rfl⟩
  by_cases c7 : k = 7
  · subst c7
    go_enter Try.func80, Try.ntmps80
    go_wp2
    go_ret
    exact ⟨rfl, rfl⟩
  by_cases c8 : k = 8
  · subst c8
    go_enter Try.func80, Try.ntmps80
    go_wp2
    go_ret
    exact ⟨rfl, rfl⟩
  have e5 : (k == 5) = false := by simpa using c5
  have e6 : (k == 6) = false := by simpa using c6
  have e7 : (k == 7) = false := by simpa using c7
  have e8 : (k == 8) = false := by simpa using c8
  have e : widthN k = 0 := by unfold widthN; rw [if_neg c5, if_neg c6, if_neg c7, if_neg c8]
  rw [e]
  clear c5 c6 c7 c8 e
  go_enter Try.func80, Try.ntmps80
  go_wp2
  go_ret
  exact ⟨rfl, rfl⟩
theorem eights_calls (n : Nat) (hn : n ≤ 4611686018427387904) (w : World) : Calls Try.prog 79 #[.int .i64 (n : Int)] w fun e w' => e = .returned (.int .i64 (1 + (n + 7) / 8 : Nat)) ∧ w = w' := by
  have h1 : IntKind.i64.wrap ((n : Int) + 7) = (n : Int) + 7 := IntWalk.i64_in _ (by omega)
  have h2 : IntKind.i64.wrap (((n : Int) + 7) / 8) = ((n : Int) + 7) / 8 := IntWalk.i64_in _ (by omega)
  have h3 : IntKind.i64.wrap (1 + ((n : Int) + 7) / 8) = ((1 + (n + 7) / 8 : Nat) : Int) := by rw [IntWalk.i64_in _ (by omega)]; omega
  go_enter Try.func79, Try.ntmps79
  go_wp2
  go_ret
  exact ⟨by go_num, rfl⟩
set_option maxHeartbeats 4000000 in
theorem need_calls (k : Int) (view : Bool) (i : Int) (tx : ByteArray) (a1 a2 : Option Addr) (n1 c1 n2 c2 : Nat) (b f l : Int) (h0 : tx.size ≤ 4611686018427387904) (h1 : n1 ≤ 4611686018427387904) (h2 : n2 ≤ 4611686018427387904) (w : World) :
    Calls Try.prog 36 #[.agg #[.int .i64 k, .bool view, .int .i64 i, .string tx, .slice a1 n1 c1, .slice a2 n2 c2, .int .u64 b, .int .i64 f, .int .i64 l]] w fun e w' => e = .returned (.int .i64 (needN view k tx.size n1 n2 : Nat)) ∧ Chg [] w w' := by
  have CE := Mem.Aside.mk eights_calls
  have CW := Mem.Aside.mk (width_calls k)
  cases view with
  | true =>
    go_enter Try.func36, Try.ntmps36
    go_wp2
    go_ret
    exact ⟨rfl, (Chg.refl _ _).alloc _⟩
  | false =>
    by_cases k2 : k = 2
    · subst k2
      go_enter Try.func36, Try.ntmps36
      go_wp2
      go_ret
      exact ⟨rfl, (Chg.refl _ _).alloc _⟩
    have e2 : (k == 2) = false := by simpa using k2
    by_cases k4 : k = 4
    · subst k4
      go_enter Try.func36, Try.ntmps36
      go_wp2_with (go_at_call 79; (with_reducible refine (CE.out tx.size h0 _).mono ?_); rintro e w' ⟨rfl, rfl⟩)
      go_ret
      exact ⟨rfl, (Chg.refl _ _).alloc _⟩
    have e4 : (k == 4) = false := by simpa using k4
    by_cases k9 : k = 9
    · subst k9
      have hw : IntKind.i64.wrap (1 + (n2 : Int)) = ((1 + n2 : Nat) : Int) := by rw [IntWalk.i64_in _ (by omega)]; omega
      go_enter Try.func36, Try.ntmps36
      go_wp2
      go_ret
      exact ⟨by go_num, (Chg.refl _ _).alloc _⟩
    have e9 : (k == 9) = false := by simpa using k9
    have he : needN false k tx.size n1 n2 = if 0 < widthN k then 1 + (n1 + 7) / 8 else 1 := by
      unfold needN
      rw [if_neg (by simp), if_neg k2, if_neg k4, if_neg k9]
    rw [he]
    obtain ⟨W, hW⟩ : ∃ W, W = widthN k := ⟨_, rfl⟩
    rw [← hW] at CW ⊢
    clear k2 k4 k9 he hW
    by_cases z : 0 < W
    · have z1 : decide ((0 : Int) < (W : Int)) = true := decide_eq_true (by omega)
      have z2 : (0 : Int) < (W : Int) := by omega
      rw [if_pos z]
      clear z
      go_enter Try.func36, Try.ntmps36
      go_wp2_with (first
        | (go_at_call 80; (with_reducible refine (CW.out _).mono ?_); rintro e w' ⟨rfl, rfl⟩)
        | (go_at_call 79; (with_reducible refine (CE.out n1 h1 _).mono ?_); rintro e w' ⟨rfl, rfl⟩))
      go_ret
      exact ⟨rfl, (Chg.refl _ _).alloc _⟩
    · have z1 : decide ((0 : Int) < (W : Int)) = false := decide_eq_false (by omega)
      have z2 : ¬ (0 : Int) < (W : Int) := by omega
      rw [if_neg z]
      clear z
      go_enter Try.func36, Try.ntmps36
      go_wp2_with (go_at_call 80; (with_reducible refine (CW.out _).mono ?_); rintro e w' ⟨rfl, rfl⟩)
      go_ret
      exact ⟨rfl, (Chg.refl _ _).alloc _⟩

/-- At block p there is a heap. -/
structure HeapAt (w : World) (p units used : Nat) (M : List (Option MC)) (cv : Value) (rp : Nat) (F : List Nat) (most : Nat) : Prop where
  top : Blk w p 130 [.int .i64 (units : Int), .int .i64 (used : Int), cv, .pointer (some ⟨rp, 0, none⟩)]
  row : Row w 134 1 cv M.length (M.map ptrV)
  cells : ∀ m, some m ∈ M → Blk w m.blk 136 (celV m.c m.wv)
  words : ∀ m, some m ∈ M → Row w 22 1 m.wv m.c.words.length (u64V m.c.words)
  raw : Holds w rp F (bufs M) most
  nblk : (blks M).Nodup
  nown : (owns M).Nodup
  apart : ∀ k ∈ F, k ∉ p :: (cv.ownBlock.toList ++ (blks M ++ owns M))
  small : units ≤ 1048576 ∧ used ≤ units ∧ M.length ≤ units ∧ most ≤ 100000000 * 1048576 

end Go.Proofs.Ytgimcpnelogadaa.Hp
