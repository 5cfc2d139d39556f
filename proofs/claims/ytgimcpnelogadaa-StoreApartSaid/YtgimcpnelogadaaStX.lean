/- Chapter 5: StoreWidths walks. -/
import Derived.Test.YtgimcpnelogadaaStW
import Derived.Laws.Bits64b
namespace Go.Proofs.Ytgimcpnelogadaa.Sto
open Go.RowKit Go.Proofs.Ytgimcpnelogadaa.Mem
set_option linter.unusedVariables false
set_option linter.unusedSimpArgs false

theorem sl_cons {α : Type} {r : List α} {a m : Nat} (h : a < r.length) : sl r a (m + 1) = r[a] :: sl r (a + 1) m := by
  unfold sl
  rw [List.drop_eq_getElem_cons h, List.take_succ_cons]
/-- The bytes of StoreWidths' extent. -/
def widB (x N T : Nat) : List UInt8 := splice (List.replicate (8 * N) 0) (8 * T) (leB x 8)
theorem widB_length {x N T : Nat} (h : T < N) : (widB x N T).length = 8 * N := by
  unfold widB
  rw [length_splice _ _ _ (by rw [leB_length, List.length_replicate]; omega), List.length_replicate]
theorem widB_get {x N T j : Nat} (h : T < N) (hj : j < (widB x N T).length) : (widB x N T)[j] = if 8 * T ≤ j ∧ j < 8 * T + 8 then UInt8.ofNat (x / 256 ^ (j - 8 * T)) else 0 := by
  have hl := widB_length (x := x) h
  have e := splice_getElem? (List.replicate (8 * N) (0 : UInt8)) (8 * T) (leB x 8) (by rw [leB_length, List.length_replicate]; omega) j
  rw [leB_length] at e
  have e2 : (widB x N T)[j]? = some (widB x N T)[j] := List.getElem?_eq_getElem hj
  unfold widB at e2
  rw [e] at e2
  have hz : (List.replicate (8 * N) (0 : UInt8))[j]? = some 0 := by rw [List.getElem?_replicate, if_pos (by omega)]
  split
  · rename_i c
    rw [if_neg (by omega), if_pos c.2] at e2
    have h2 : j - 8 * T < (leB x 8).length := by rw [leB_length]; omega
    rw [List.getElem?_eq_getElem h2] at e2
    refine (Option.some.inj e2).symm.trans ?_
    simp [leB]
  · rename_i c
    by_cases d : j < 8 * T
    · rw [if_pos d, hz] at e2
      exact (Option.some.inj e2).symm
    · rw [if_neg d, if_neg (by omega), hz] at e2
      exact (Option.some.inj e2).symm

theorem wrap_u64 {n : Nat} (h : n < 18446744073709551616) : IntKind.u64.wrap (n : Int) = (n : Int) := by
  rw [IntKind.wrap_u64]
  omega
theorem wid_next {B : List UInt8} {o i wd V : Nat} (hi : i < wd) (hw : wd ≤ 8) (hb : o + wd ≤ B.length) (hV : V = leN (sl B (o + (i + 1)) (wd - (i + 1)))) (hj : o + i < B.length) :
    leN (sl B (o + i) (wd - i)) = B[o + i].toNat + 256 * V ∧ 256 * V + 255 < 18446744073709551616 := by
  have e : wd - i = (wd - (i + 1)) + 1 := by omega
  refine ⟨by rw [e, sl_cons hj, leN, hV, Nat.add_assoc], ?_⟩
  have h1 := leN_lt (sl B (o + (i + 1)) (wd - (i + 1)))
  rw [sl_length (by omega), ← hV] at h1
  have h2 : 256 ^ (wd - (i + 1)) ≤ 256 ^ 7 := Nat.pow_le_pow_right (by decide) (by omega)
  have h3 : (256 : Nat) ^ 7 = 72057594037927936 := by decide
  omega
theorem wid_out {B : List UInt8} {o i wd V : Nat} (hi : i < wd) (hw : wd ≤ 8) (hb : o + wd ≤ B.length) (hV : V = leN (sl B (o + (i + 1)) (wd - (i + 1)))) (hj : o + i < B.length) (h0 : B[o + i] = 0) :
    IntKind.u64.wrap ((V : Int) * 256) = (leN (sl B (o + i) (wd - i)) : Nat) := by
  obtain ⟨h1, h2⟩ := wid_next hi hw hb hV hj
  rw [h1, h0, show ((V : Int) * 256) = ((256 * V : Nat) : Int) by omega, wrap_u64 (by omega)]
  simp
theorem wid_in {B : List UInt8} {o i wd V X k : Nat} (hi : i < wd) (hw : wd ≤ 8) (hb : o + wd ≤ B.length) (hV : V = leN (sl B (o + (i + 1)) (wd - (i + 1)))) (hj : o + i < B.length) (hX : X < 18446744073709551616) (h0 : B[o + i] = UInt8.ofNat (X / 256 ^ k)) :
    bits .or .u64 (IntKind.u64.wrap ((V : Int) * 256)) (bits .and .u64 ((X : Int) / 2 ^ (8 * k)) 255) = (leN (sl B (o + i) (wd - i)) : Nat) := by
  obtain ⟨h1, h2⟩ := wid_next hi hw hb hV hj
  have e1 : ((X : Int) / 2 ^ (8 * k)) = ((X / 256 ^ k : Nat) : Int) := by
    rw [show (256 : Nat) ^ k = 2 ^ (8 * k) by rw [Nat.pow_mul]]
    simp
  have h4 : X / 256 ^ k < 18446744073709551616 := Nat.lt_of_le_of_lt (Nat.div_le_self _ _) hX
  have e2 : bits .and .u64 ((X / 256 ^ k : Nat) : Int) 255 = ((X / 256 ^ k % 256 : Nat) : Int) := by
    rw [show (255 : Int) = ((255 : Nat) : Int) from rfl, bits_and_u64_nat _ _ h4 (by decide)]
    congr 1
    exact Nat.and_two_pow_sub_one_eq_mod (X / 256 ^ k) 8
  rw [h1, h0, e1, e2, show ((V : Int) * 256) = ((256 * V : Nat) : Int) by omega, wrap_u64 (by omega), bits_or_u64_nat _ _ (by omega) (by omega)]
  have e3 : (UInt8.ofNat (X / 256 ^ k)).toNat = X / 256 ^ k % 256 := by simp
  rw [e3]
  have e4 : 256 * V ||| X / 256 ^ k % 256 = 256 * V + X / 256 ^ k % 256 := (Nat.two_pow_add_eq_or_of_lt (i := 8) (b := X / 256 ^ k % 256) (Nat.mod_lt _ (by decide)) V).symm
  rw [e4, Nat.add_comm]

set_option maxHeartbeats 8000000 in
set_option maxRecDepth 100000 in
theorem widths_walk (x n t : Int) (hx : 0 ≤ x ∧ x < 18446744073709551616) (hn : I64 n) (ht : I64 t) (w : World) :
    Calls Try.prog 3 #[.int .u64 x, .int .i64 n, .int .i64 t] w fun e w' => e = .returned (.bool true) ∧ Below w.heap.size w w' := by
  obtain ⟨n1, n2⟩ := hn
  obtain ⟨t1, t2⟩ := ht
  by_cases c1 : n < 0
  · go_enter Try.func3, Try.ntmps3
    go_wp2
    go_ret
    exact ⟨rfl, Below.refl _ _⟩
  by_cases c2 : 20 < n
  · go_enter Try.func3, Try.ntmps3
    go_wp2
    go_ret
    exact ⟨rfl, Below.refl _ _⟩
  by_cases c3 : t < 0
  · go_enter Try.func3, Try.ntmps3
    go_wp2
    go_ret
    exact ⟨rfl, Below.refl _ _⟩
  by_cases c4 : n ≤ t
  · go_enter Try.func3, Try.ntmps3
    go_wp2
    go_ret
    exact ⟨rfl, Below.refl _ _⟩
  obtain ⟨N, rfl⟩ : ∃ N : Nat, n = N := ⟨n.toNat, by omega⟩
  obtain ⟨T, rfl⟩ : ∃ T : Nat, t = T := ⟨t.toNat, by omega⟩
  obtain ⟨X, rfl⟩ : ∃ X : Nat, x = X := ⟨x.toNat, by omega⟩
  have hX : X < 18446744073709551616 := by omega
  have hNT : T < N := by omega
  have hN : N ≤ 20 := by omega
  have HX := Mem.Aside.mk hX
  clear hx hX n1 n2 t1 t2
  have CN := Mem.Aside.mk (new_holds w)
  have w1 := (IntWalk.i64_in (8 * (N : Int)) (by omega) : IntKind.i64.wrap (8 * (N : Int)) = 8 * (N : Int))
  have w2 := (IntWalk.i64_in (8 * (T : Int)) (by omega) : IntKind.i64.wrap (8 * (T : Int)) = 8 * (T : Int))
  go_enter Try.func3, Try.ntmps3
  go_wp2_with (first
    | (go_at_call 21; (with_reducible refine CN.out.mono ?_); rintro e w1 ⟨p, F, rfl, h1, hc1, hF⟩; have HC1 := Mem.Aside.mk hc1; have HF := Mem.Aside.mk hF; have CT := Mem.Aside.mk (take_holds h1 (8 * N) (by omega) (by decide) (by omega)); rw [show (((8 * N : Nat) : Int)) = 8 * (N : Int) from rfl] at CT; clear h1 hc1 hF)
    | (go_at_call 22; (with_reducible refine CT.out.mono ?_); rintro e w2 ⟨a, F2, rfl, h2, hl2, hn2, hc2, hF2⟩; have HC2 := Mem.Aside.mk (HC1.out.then hc2 (fun x hx => .inr (HF.out x hx))); have HF2 := Mem.Aside.mk (fun x (hx : x ∈ F2) => (hF2 x hx).elim (HF.out x) (fun h => Nat.le_trans HC1.out.size h)); have CT2 := Mem.Aside.mk (take_holds h2 8 (by decide) (by simp) (by omega)); rw [show ((8 : Nat) : Int) = 8 from rfl] at CT2; clear h2 hl2 hn2 hc2 hF2)
    | (go_at_call 22; (with_reducible refine CT2.out.mono ?_); rintro e w3 ⟨b, F3, rfl, h3, hl3, hn3, hc3, hF3⟩; have HC3 := Mem.Aside.mk (HC2.out.then hc3 (fun x hx => .inr (HF2.out x hx))); have HF3 := Mem.Aside.mk (fun x (hx : x ∈ F3) => (hF3 x hx).elim (HF2.out x) (fun h => Nat.le_trans HC2.out.size h)); have CS := Mem.Aside.mk (save_holds (h3.perm (List.Perm.swap _ _ _)) (8 * T) 8 (by decide) (by rw [List.length_replicate]; omega) (by omega) X HX.out); rw [show ((8 : Nat) : Int) = 8 from rfl, show (((8 * T : Nat) : Int)) = 8 * (T : Int) from rfl] at CS; clear h3 hl3 hn3 hc3 hF3)
    | (go_at_call 23; (with_reducible refine CS.out.mono ?_); rintro e w4 ⟨rfl, h4, hc4⟩; have H4 := Mem.Aside.mk h4; have HC4 := Mem.Aside.mk (HC3.out.then hc4 (fun x hx => .inr (HF3.out x hx))); clear h4 hc4))
  obtain ⟨B, hB⟩ : ∃ B, B = widB X N T := ⟨_, rfl⟩
  have H5 : Mem.Aside (Holds (w4.alloc (.cells #[.int .i64 1, .int .i64 2, .int .i64 4, .int .i64 8] 3)) p F3 [(a, B), (b, List.replicate 8 0)] (0 + 8 * N + 7 + 8 + 7)) := ⟨by rw [hB]; exact H4.out.chg ((Chg.refl [] _).alloc _) (by simp)⟩
  have HBl := Mem.Aside.mk hB
  have hBn : B.length = 8 * N := by rw [hB]; exact widB_length hNT
  have HBN := Mem.Aside.mk hBn
  clear hB hBn
  have HC5 := Mem.Aside.mk (HC4.out.alloc (.cells #[.int .i64 1, .int .i64 2, .int .i64 4, .int .i64 8] 3))
  have HW5 : Mem.Aside (Blk (w4.alloc (.cells #[.int .i64 1, .int .i64 2, .int .i64 4, .int .i64 8] 3)) w4.heap.size 3 [.int .i64 1, .int .i64 2, .int .i64 4, .int .i64 8]) := ⟨Blk.newL [.int .i64 1, .int .i64 2, .int .i64 4, .int .i64 8] rfl⟩
  obtain ⟨wb, hwb⟩ : ∃ wb, wb = w4.heap.size := ⟨_, rfl⟩
  rw [← hwb] at HW5 ⊢
  clear hwb H4 HC4
  generalize w4.alloc (.cells #[.int .i64 1, .int .i64 2, .int .i64 4, .int .i64 8] 3) = W5 at H5 HC5 HW5 ⊢
  go_loopw [68] (fun i wr => ∃ k : Nat, i = .int .i64 (k : Int) ∧ k ≤ 4 ∧ Mem.Aside (Holds wr p F3 [(a, B), (b, List.replicate 8 0)] (0 + 8 * N + 7 + 8 + 7)) ∧ Mem.Aside (Blk wr wb 3 [.int .i64 1, .int .i64 2, .int .i64 4, .int .i64 8]) ∧ Mem.Aside (Chg [] w wr))
    (fun i _ => 4 - (intOf i).toNat)
  case atStart => exact ⟨0, rfl, by omega, H5, HW5, HC5⟩
  case round =>
    obtain ⟨k, rfl, hk, HK, HWK, HCK⟩ := hrel
    by_cases c : k < 4
    · obtain ⟨wd, hwd, hkc⟩ : ∃ wd : Nat, (wd = 1 ∨ wd = 2 ∨ wd = 4 ∨ wd = 8) ∧ wr.cell? ⟨wb, k, none⟩ = some (.int .i64 (wd : Int)) := by
        have : k = 0 ∨ k = 1 ∨ k = 2 ∨ k = 3 := by omega
        rcases this with rfl | rfl | rfl | rfl
        · exact ⟨1, by decide, HWK.out.cellAt rfl⟩
        · exact ⟨2, by decide, HWK.out.cellAt rfl⟩
        · exact ⟨4, by decide, HWK.out.cellAt rfl⟩
        · exact ⟨8, by decide, HWK.out.cellAt rfl⟩
      have HWD := Mem.Aside.mk hwd
      have hw8 : 1 ≤ wd ∧ wd ≤ 8 := by omega
      obtain ⟨hw1, hw8⟩ := hw8
      have c' : (k : Int) < 4 := by omega
      have c'' : decide ((k : Int) < 4) = true := decide_eq_true c'
      clear hwd
      go_wp2
      clear hkc
      go_loopw [14] (fun i wr => ∃ o : Nat, i = .int .i64 (o : Int) ∧ o ≤ 8 * N ∧ Mem.Aside (o % wd = 0) ∧ Mem.Aside (Holds wr p F3 [(a, B), (b, List.replicate 8 0)] (0 + 8 * N + 7 + 8 + 7)) ∧ Mem.Aside (Blk wr wb 3 [.int .i64 1, .int .i64 2, .int .i64 4, .int .i64 8]) ∧ Mem.Aside (Chg [] w wr))
        (fun i _ => 8 * N - (intOf i).toNat)
      case atStart => exact ⟨0, rfl, by omega, ⟨Nat.zero_mod _⟩, HK, HWK, HCK⟩
      case round =>
        obtain ⟨o, rfl, ho, HO, H6, HW6, HC6⟩ := hrel
        by_cases d : o < 8 * N
        · have hod : o + wd ≤ 8 * N := by
            have h1 := HO.out
            rcases HWD.out with rfl | rfl | rfl | rfl <;> omega
          have d' : (o : Int) < 8 * (N : Int) := by omega
          have CL := Mem.Aside.mk (load_holds H6.out (id := a) (bs := B) (List.mem_cons_self ..) o wd HWD.out (by rw [HBN.out]; omega) HO.out)
          go_wp2_with (go_at_call 24; (with_reducible refine CL.out.mono ?_); rintro e w7 ⟨rfl, hc7⟩; have HC7 := Mem.Aside.mk hc7; clear hc7)
          obtain ⟨Y, hY⟩ : ∃ Y, Y = leN (sl B o wd) := ⟨_, rfl⟩
          rw [← hY]
          have HY := Mem.Aside.mk hY
          clear hY
          go_loopw [17, 18] (fun want i wr => ∃ j : Nat, j ≤ wd ∧ i = .int .i64 ((j : Int) - 1) ∧ want = .int .u64 (leN (sl B (o + j) (wd - j)) : Nat) ∧ w7 = wr) (fun _ i _ => (intOf i + 1).toNat)
          case atStart => exact ⟨wd, Nat.le_refl _, rfl, by rw [Nat.sub_self, sl_zero]; rfl, rfl⟩
          case round =>
            obtain ⟨j, hj, rfl, rfl, rfl⟩ := hrel
            by_cases e : j = 0
            · subst e
              rw [show ((0 : Nat) : Int) - 1 = -1 from rfl, Nat.add_zero, Nat.sub_zero, ← HY.out]
              have hwo := (IntWalk.i64_in ((o : Int) + (wd : Int)) (by omega) : IntKind.i64.wrap ((o : Int) + (wd : Int)) = ((o + wd : Nat) : Int))
              go_wp2
              go_roundw
              case rel => exact ⟨o + wd, by go_num, by omega, ⟨by rw [Nat.add_mod_right]; exact HO.out⟩, ⟨H6.out.chg HC7.out (by simp)⟩, ⟨HW6.out.chg HC7.out (by simp)⟩, ⟨HC6.out.then HC7.out (by simp)⟩⟩
              case measure => simp [intOf]; omega
            · obtain ⟨i, rfl⟩ : ∃ i, j = i + 1 := ⟨j - 1, by omega⟩
              rw [show ((i + 1 : Nat) : Int) - 1 = (i : Int) by omega]
              obtain ⟨V, hV⟩ : ∃ V, V = leN (sl B (o + (i + 1)) (wd - (i + 1))) := ⟨_, rfl⟩
              rw [← hV]
              have HV := Mem.Aside.mk hV
              clear hV
              by_cases g : 8 * T ≤ o + i ∧ o + i < 8 * T + 8
              · obtain ⟨g1, g2⟩ := g
                have g1' : 8 * (T : Int) ≤ (o : Int) + (i : Int) := by omega
                have g2' : (o : Int) + (i : Int) < 8 * (T : Int) + 8 := by omega
                go_wp2
                have hb := HBN.out
                have hl := wid_in (X := X) (k := o + i - 8 * T) (by omega) hw8 (by omega) HV.out (by omega) HX.out (by
                  have h1 := widB_get (x := X) (j := o + i) hNT (by rw [← HBl.out]; omega)
                  rw [if_pos ⟨g1, g2⟩] at h1
                  rw [← h1]
                  simp only [HBl.out])
                exact ⟨⟨i, by omega, rfl, by rw [hl], trivial⟩, by simp [intOf]⟩
              · have g' : ¬ (8 * (T : Int) ≤ (o : Int) + (i : Int) ∧ (o : Int) + (i : Int) < 8 * (T : Int) + 8) := by omega
                by_cases g1 : 8 * (T : Int) ≤ (o : Int) + (i : Int)
                · have g2 : ¬ ((o : Int) + (i : Int) < 8 * (T : Int) + 8) := by omega
                  go_wp2
                  have hb := HBN.out
                  have hl := wid_out (by omega) hw8 (by omega) HV.out (by omega) (by
                    have h1 := widB_get (x := X) (j := o + i) hNT (by rw [← HBl.out]; omega)
                    rw [if_neg g] at h1
                    rw [← h1]
                    simp only [HBl.out])
                  exact ⟨⟨i, by omega, rfl, by rw [hl], trivial⟩, by simp [intOf]⟩
                · go_wp2
                  have hb := HBN.out
                  have hl := wid_out (by omega) hw8 (by omega) HV.out (by omega) (by
                    have h1 := widB_get (x := X) (j := o + i) hNT (by rw [← HBl.out]; omega)
                    rw [if_neg g] at h1
                    rw [← h1]
                    simp only [HBl.out])
                  exact ⟨⟨i, by omega, rfl, by rw [hl], trivial⟩, by simp [intOf]⟩
        · have d' : ¬ (o : Int) < 8 * (N : Int) := by omega
          go_wp2
          refine ⟨⟨k + 1, by go_num, by omega, H6, HW6, HC6⟩, by simp [intOf]; omega⟩
    · have CLb := Mem.Aside.mk (load_holds HK.out (id := b) (bs := List.replicate 8 0) (by simp) 0 8 (by decide) (by decide) (by decide))
      rw [show leN (sl (List.replicate 8 (0 : UInt8)) 0 8) = 0 by decide, show ((0 : Nat) : Int) = 0 from rfl, show ((8 : Nat) : Int) = 8 from rfl] at CLb
      go_wp2_with (first
        | (go_at_call 24; (with_reducible refine CLb.out.mono ?_); rintro e w8 ⟨rfl, hc8⟩; have HC8 := Mem.Aside.mk (HCK.out.then hc8 (by simp)); clear hc8)
        | (go_at_call 25; (with_reducible refine (awake_calls _).mono ?_); rintro e w9 ⟨rfl, hc9⟩; have HC9 := Mem.Aside.mk (HC8.out.then hc9 (by simp)); clear hc9))
      go_ret
      exact ⟨rfl, HC9.out.below⟩
end Go.Proofs.Ytgimcpnelogadaa.Sto
