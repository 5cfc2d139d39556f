/- Chapter 8: Byte; a short string's word; a string put into a cell. -/
import Derived.Test.YtgimcpnelogadaaTxD
namespace Go.Proofs.Ytgimcpnelogadaa.Tx
open Go.RowKit Go.Proofs.Ytgimcpnelogadaa.Mem Go.Proofs.Ytgimcpnelogadaa.Sto Go.Proofs.Ytgimcpnelogadaa.Wd Go.Proofs.Ytgimcpnelogadaa.Hp Go.Proofs.Ytgimcpnelogadaa.Va
set_option linter.unusedVariables false
set_option linter.unusedSimpArgs false
/-- What Byte answers of a string. -/
def byteV (s : ByteArray) (i : Int) : Int := if h : 0 ≤ i ∧ i < s.size then (s[i.toNat]'(by omega)).toNat else 0
def byteE (s : ByteArray) (i : Int) : Int := if 0 ≤ i ∧ i < s.size then 0 else 31
section
variable {w W W1 : World} {p units : Nat} {L K : List (Nat × Cel)} {G : List Nat} {ws rs : List Nat} {rv cv : Value} {x y : Nat} {s t : ByteArray}
set_option maxRecDepth 100000 in
theorem byte_k (h : HeapK p units L G W) (hs : Stands L x (.text s)) (hok : s.size ≤ 8388608) (i : Int) :
    Calls Try.prog 60 #[.pointer (some ⟨p, 0, none⟩), .int .u64 (x : Int), .int .i64 i] W fun e w' => e = .returned (.tuple #[.int .u8 (byteV s i), .int .i64 (byteE s i)]) ∧ Chg [] W w' := by
  have CU := Mem.Aside.mk (of_k h hs hok)
  clear h hs
  by_cases c1 : i < 0
  · rw [show byteV s i = 0 by unfold byteV; rw [dif_neg (by omega)], show byteE s i = 31 by unfold byteE; rw [if_neg (by omega)]]
    go_enter Try.func60, Try.ntmps60
    go_wp2_with (go_at_call 56; (with_reducible refine CU.out.mono ?_); rintro e w1 ⟨rfl, hc1⟩; have HC := Mem.Aside.mk hc1; clear hc1)
    go_ret2
    exact ⟨rfl, HC.out⟩
  · obtain ⟨k, rfl⟩ : ∃ k : Nat, i = (k : Int) := ⟨i.toNat, by omega⟩
    by_cases c2 : k < s.size
    · rw [show byteV s k = ((s[k].toNat : Nat) : Int) by unfold byteV; rw [dif_pos (by omega)]; rfl, show byteE s k = 0 by unfold byteE; rw [if_pos (by omega)]]
      have c2' : ¬ (s.size : Int) ≤ (k : Int) := by omega
      go_enter Try.func60, Try.ntmps60
      go_wp2_with (go_at_call 56; (with_reducible refine CU.out.mono ?_); rintro e w1 ⟨rfl, hc1⟩; have HC := Mem.Aside.mk hc1; clear hc1)
      go_ret2
      exact ⟨rfl, HC.out⟩
    · rw [show byteV s k = 0 by unfold byteV; rw [dif_neg (by omega)], show byteE s k = 31 by unfold byteE; rw [if_neg (by omega)]]
      have c2' : (s.size : Int) ≤ (k : Int) := by omega
      go_enter Try.func60, Try.ntmps60
      go_wp2_with (go_at_call 56; (with_reducible refine CU.out.mono ?_); rintro e w1 ⟨rfl, hc1⟩; have HC := Mem.Aside.mk hc1; clear hc1)
      go_ret2
      exact ⟨rfl, HC.out⟩
theorem Three.byte (h : Three w p units L ws rv W) (hs : Stands L x (.text s)) (hok : s.size ≤ 8388608) (i : Int) :
    Calls Try.prog 60 #[.pointer (some ⟨p, 0, none⟩), .int .u64 (x : Int), .int .i64 i] W fun e w' => e = .returned (.tuple #[.int .u8 (byteV s i), .int .i64 (byteE s i)]) ∧ Chg [] W w' := by
  obtain ⟨G, h1, h2⟩ := h.ex
  exact byte_k h1 hs hok i
theorem Three.len (h : Three w p units L ws rv W) (hs : Stands L x (.text s)) (hok : s.size ≤ 8388608) :
    Calls Try.prog 58 #[.pointer (some ⟨p, 0, none⟩), .int .u64 (x : Int)] W fun e w' => e = .returned (.tuple #[.int .i64 (s.size : Int), .int .i64 0]) ∧ Chg [] W w' := by
  obtain ⟨G, h1, h2⟩ := h.ex
  exact len_k h1 hs hok
set_option maxRecDepth 100000 in
theorem box_small (hok : s.size ≤ 5) (W : World) (p : Nat) (cv : Value) :
    Calls Try.prog 53 #[.pointer (some ⟨p, 0, none⟩), .string s, cv] W fun e w' => e = .returned (.tuple #[.int .u64 (textW s : Nat), .bool true]) ∧ Chg [] W w' := by
  have CB := Mem.Aside.mk (box_short p cv W hok)
  unfold valV at CB
  obtain ⟨X, hX⟩ : ∃ X, X = textW s := ⟨_, rfl⟩
  rw [← hX] at CB ⊢
  clear hX
  go_enter Try.func53, Try.ntmps53
  go_wp2_with (go_at_call 46; (with_reducible refine CB.out.mono ?_); rintro e w2 ⟨rfl, hc2⟩; have HC := Mem.Aside.mk hc2; clear hc2)
  go_ret2
  exact ⟨rfl, HC.out⟩
theorem Three.put (h : Three w p units L ws rv W) (hok : s.size ≤ 8388608) (hroom : needL L + (1 + (s.size + 7) / 8) ≤ units) (hr : Row W 22 1 cv rs.length (u64V rs)) (hl : rs.length ≤ 1000000) (hT : Texts L rs) (hR : ∀ z ∈ hwC L, z ∈ rs) :
    Calls Try.prog 39 #[.pointer (some ⟨p, 0, none⟩), .agg #[.int .i64 4, .bool false, .int .i64 0, .string s, .slice none 0 0, .slice none 0 0, .int .u64 0, .int .i64 0, .int .i64 0], cv] W fun e w' => ∃ a : Nat, e = .returned (.tuple #[.int .u64 (a : Int), .int .i64 0]) ∧ Wd.cls a = 6 ∧
      ∃ K, Stands K a (.text s) ∧ Three w p units (L ++ K) ws rv w' ∧ needL (L ++ K) = needL L + (1 + (s.size + 7) / 8) ∧ ∀ z ∈ hwC K, z = a := by
  obtain ⟨G, h1, h2⟩ := h.ex
  obtain ⟨r1, r2⟩ := hT.roots h1
  refine (put_text_k h1 s hok hr (by omega) r1 r2 hR).mono ?_
  rintro e w' ⟨hc, G', hG, ⟨h3, n, h4, h5⟩ | ⟨h3, _⟩⟩
  · have hw1 := h5.word (q := (n, textC s)) (by simp)
    refine ⟨hw n, h4, (cls_hdl hw1.1).2 (by rw [hw1.2]; rfl), [(n, textC s)], .inr ⟨textC s, n, rfl, rfl, by simp⟩, ⟨⟨G', h5, fun k hk => ?_⟩, h.row.chg hc (fun g hg hm => (h2 g hm).2 hg), h.own, h.chg.then hc (fun v hv => .inr (h2 v hv).1)⟩, by rw [needL_append]; simp [needL, textC], by simp [hwC]⟩
    rcases hG k hk with e | e
    · exact h2 k e
    · have := h.chg.size
      exact ⟨by omega, fun e' => by have := h.row.lt e'; omega⟩
  · have : (textC s).need = 1 + (s.size + 7) / 8 := rfl
    omega
end
end Go.Proofs.Ytgimcpnelogadaa.Tx
