/- Chapter 5: same; what the two stores have together. -/
import Derived.Test.YtgimcpnelogadaaPlA
import Derived.Test.YtgimcpnelogadaaStZ
namespace Go.Proofs.Ytgimcpnelogadaa.Sto
open Go.RowKit Go.Proofs.Ytgimcpnelogadaa.Mem
set_option linter.unusedVariables false
set_option linter.unusedSimpArgs false

theorem leN_one (bs : List UInt8) {k : Nat} (h : k < bs.length) : leN (sl bs k 1) = bs[k].toNat := by
  rw [sl_cons' h]
  simp [leN, sl]
set_option maxHeartbeats 8000000 in
theorem same_calls {w : World} {p q most m : Nat} {F : List Nat} {X : List RX} {lv : Value} (hs : Holds w p F (X.map RX.pair) m) (h : RefAt w q X lv most) :
    Calls Try.prog 33 #[.pointer (some ⟨p, 0, none⟩), .pointer (some ⟨q, 0, none⟩)] w fun e w' => e = .returned (.bool true) ∧ Chg [] w w' := by
  have HS := Mem.Aside.mk hs
  have H := Mem.Aside.mk h
  obtain ⟨a, c, rfl⟩ := Row_form h.row
  have hl := h.small.1
  clear h hs
  go_enter Try.func33, Try.ntmps33
  go_wp2
  go_loopw [5] (fun i wr => ∃ k : Nat, i = .int .i64 (k : Int) ∧ k ≤ X.length ∧ Mem.Aside (Chg [] w wr)) (fun i _ => X.length - (intOf i).toNat)
  case atStart => exact ⟨0, rfl, Nat.zero_le _, ⟨Chg.refl _ _⟩⟩
  case round =>
    obtain ⟨k, rfl, hk, HC⟩ := hrel
    have r0 := (H.out.chg HC.out (by simp)).c0
    by_cases d : k < X.length
    · obtain ⟨g, cap, hac, e0, e1⟩ := (H.out.chg HC.out (by simp)).ext d
      cases hac
      have d' : (k : Int) < (X.length : Int) := by omega
      have hwk := (IntWalk.i64_in ((k : Int) + 1) (by omega) : IntKind.i64.wrap ((k : Int) + 1) = ((k + 1 : Nat) : Int))
      have hbl := (H.out.small.2.1 _ (List.getElem_mem d)).2
      have HM := Mem.Aside.mk (List.mem_map_of_mem (f := RX.pair) (List.getElem_mem d))
      have HB := Mem.Aside.mk (H.out.bytes _ (List.getElem_mem d))
      have HE := Mem.Aside.mk (fun (wx : World) (hc : Chg [] w wx) => (H.out.chg hc (by simp)).ext d)
      obtain ⟨⟨id, bs, bk⟩, hx⟩ : ∃ x, x = X[k] := ⟨_, rfl⟩
      rw [← hx] at e0 e1 HM HB HE hbl
      simp only [RX.pair] at HM e0 e1 HB HE hbl
      clear hx e1
      go_wp2
      go_loopw [7] (fun i wr => ∃ j : Nat, i = .int .i64 (j : Int) ∧ j ≤ bs.length ∧ Mem.Aside (Chg [] w wr)) (fun i _ => bs.length - (intOf i).toNat)
      case atStart => exact ⟨0, rfl, Nat.zero_le _, HC⟩
      case round =>
        obtain ⟨j, rfl, hj, HCJ⟩ := hrel
        have r0 := (H.out.chg HCJ.out (by simp)).c0
        obtain ⟨g', cap', hac', _, e1⟩ := HE.out _ HCJ.out
        cases hac'
        by_cases f : j < bs.length
        · have f' : (j : Int) < (bs.length : Int) := by omega
          have hwj := (IntWalk.i64_in ((j : Int) + 1) (by omega) : IntKind.i64.wrap ((j : Int) + 1) = ((j + 1 : Nat) : Int))
          have CL := Mem.Aside.mk (load_holds (HS.out.chg HCJ.out (by simp)) HM.out j 1 (by decide) (by omega) (Nat.mod_one _))
          rw [leN_one bs f, show ((1 : Nat) : Int) = 1 from rfl] at CL
          have HBC := Mem.Aside.mk (fun (wx : World) (hc : Chg [] w wx) => byteCell (HB.out.chg hc (by simp)) f)
          obtain ⟨b, hb⟩ : ∃ b, b = bs[j] := ⟨_, rfl⟩
          rw [← hb] at CL HBC
          clear hb
          have hb256 : b.toNat < 256 := b.toNat_lt
          have hwb : IntKind.u64.wrap (b.toNat : Int) = (b.toNat : Int) := by rw [IntKind.wrap_u64]; omega
          go_wp2_with (go_at_call 24; (with_reducible refine CL.out.mono ?_); rintro e w7 ⟨rfl, hc7⟩; have HC7 := Mem.Aside.mk (HCJ.out.then hc7 (by simp)); have r7 := (H.out.chg HC7.out (by simp)).c0; obtain ⟨g7, cap7, hac7, _, e7⟩ := HE.out _ HC7.out; cases hac7; have b7 := HBC.out _ HC7.out; clear hc7)
          exact ⟨⟨j + 1, by go_num, by omega, HC7⟩, by simp [intOf]; omega⟩
        · have f' : decide ((j : Int) < (bs.length : Int)) = false := decide_eq_false (by omega)
          go_wp2
          exact ⟨⟨k + 1, by go_num, by omega, HCJ⟩, by simp [intOf]; omega⟩
    · have d' : decide ((k : Int) < (X.length : Int)) = false := decide_eq_false (by omega)
      go_wp2
      go_ret
      exact ⟨rfl, HC.out⟩
end Go.Proofs.Ytgimcpnelogadaa.Sto
