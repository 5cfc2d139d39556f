/- Chapter 5, the store, by hand: slices.Delete of one extent. -/
import Derived.Test.YtgimcpnelogadaaStI
import Derived.Test.YtgimcpnelogadaaMemB
namespace Go.Proofs.Ytgimcpnelogadaa.Sto
open Go.RowKit Go.Proofs.Ytgimcpnelogadaa.Mem
set_option linter.unusedVariables false
set_option linter.unusedSimpArgs false

theorem splice_mid {α : Type} (P M S N : List α) (h : M.length = N.length) : splice (P ++ (M ++ S)) P.length N = P ++ (N ++ S) := by
  unfold splice
  rw [List.take_left, List.drop_append, List.drop_eq_nil_of_le (by omega), List.nil_append, ← h, show P.length + M.length - P.length = M.length by omega, List.drop_left]
theorem rowV_append (l m : List Ext) : rowV (l ++ m) = rowV l ++ rowV m := by simp [rowV]
theorem rowV_cons (x : Ext) (l : List Ext) : rowV (x :: l) = extV x ++ rowV l := by simp [rowV]
theorem zeroExt (w : World) : (zeroValue 114).run Try.prog w = .ok (.agg #[.int .i64 0, .int .i64 0, .int .i64 0]) w := by kernel_rfl

def zExt : Value := .agg #[.int .i64 0, .int .i64 0, .int .i64 0]
theorem zExt_one : ∀ v ∈ zExt.cells.toList, v.oneCell' = true := by
  intro v hv
  simp [zExt, Value.cells] at hv
  subst hv; rfl
def zeros3 (n : Nat) : List Value := (Builtin.zeroCells zExt.cells n).toList
theorem zeros3_length (n : Nat) : (zeros3 n).length = n * 3 := zeroCells_length _ _
set_option maxRecDepth 100000 in
theorem delete_calls {w : World} {v : Value} {l : List Ext} (h : Row w 114 3 v l.length (rowV l)) (hl : l.length ≤ 1000000000) {i j : Nat} (hi : i < l.length) (hj : j = i + 1) :
    Calls Try.prog 68 #[v, .int .i64 (i : Int), .int .i64 (j : Int)] w fun e w' => ∃ v', e = .returned v' ∧ Row w' 114 3 v' (l.eraseIdx i).length (rowV (l.eraseIdx i)) ∧
      v'.ownBlock = v.ownBlock ∧ Chg v.ownBlock.toList w w' := by
  obtain ⟨i0, hi0, hz0, hz1, hz2⟩ := info_parts infoExt
  rcases h.cases with ⟨rfl, h2, _⟩ | ⟨g, cap, rest, rfl, hb, hn, hcap, hlen⟩
  · omega
  have H := Aside.mk hb
  have HL := Aside.mk hlen
  have HJ := Aside.mk hj
  have hij : i ≤ j := by omega
  have hij2 : i < j := by omega
  have hij3 : ((i : Int) == (j : Int)) = false := by simp; omega
  have hjl : j ≤ l.length := by omega
  have hic : i ≤ cap := by omega
  have hjc : j ≤ cap := by omega
  have HN := Aside.mk hn
  have HC := Aside.mk hcap
  clear h hb hlen hj hcap
  have hic2 : ¬ cap = i := by omega
  have hic3 : ¬ i = cap := by omega
  have last : j = l.length → Calls Try.prog 68 #[.slice (some ⟨g, 0, none⟩) l.length cap, .int .i64 (i : Int), .int .i64 (j : Int)] w fun e w' => ∃ W1, e = .returned (.slice (some ⟨g, 0, none⟩) i cap) ∧
      Blk W1 g 114 (rowV l ++ rest) ∧ Chg [g] w W1 ∧ w' = W1.setRow g (splice (rowV l ++ rest) (i * 3) (zeros3 (l.length - i))).toArray := by
    intro c
    subst c
    have HF : Aside (i * 3 + (l.length - i) * zExt.cells.size ≤ (rowV l ++ rest).length) := ⟨by have := HL.out; have := HN.out; have := HJ.out; rw [show zExt.cells.size = 3 from rfl]; omega⟩
    have HB1 := Aside.mk H.out.drew
    have HD1 := Aside.mk ((Chg.refl [g] w).drew)
    by_cases d : cap = l.length
    · subst d
      go_enter Try.func68, Try.ntmps68
      go_wp2
      refine region_tail 6 (by kernel_rfl) (by kernel_rfl) ?_
      simp only [List.take_succ_cons, List.take_zero, List.drop_succ_cons, List.drop_zero]
      repeat still_step
      refine wpStill_nil ?_
      refine wpList_builtin2 _ rfl .append _ _ _ rfl (.slice (some ⟨g, 0, none⟩) i l.length) (.slice _ 0 _) rfl rfl _ _ (run_append_zero _ Try.underlying109 hi0 (by omega)) ?_
      generalize w.drew = W1 at HB1 HD1 ⊢
      go_wp2_with (refine wpList_builtin1 _ (by rfl) .clear _ _ (by rfl) (.slice (some ⟨g, i * 3, none⟩) _ _) (by rfl) _ _ (run_clear_blk _ Try.underlying109 zeroExt zExt_one HB1.out HF.out) ?_)
      go_ret
      exact ⟨W1, rfl, HB1.out, HD1.out, rfl⟩
    · have d' : ¬ l.length = cap := fun e => d e.symm
      go_enter Try.func68, Try.ntmps68
      go_wp2
      refine region_tail 6 (by kernel_rfl) (by kernel_rfl) ?_
      simp only [List.take_succ_cons, List.take_zero, List.drop_succ_cons, List.drop_zero]
      repeat still_step
      refine wpStill_nil ?_
      refine wpList_builtin2 _ rfl .append _ _ _ rfl (.slice (some ⟨g, 0, none⟩) i cap) (.slice _ 0 _) rfl rfl _ _ (run_append_zero _ Try.underlying109 hi0 (by omega)) ?_
      generalize w.drew = W1 at HB1 HD1 ⊢
      go_wp2_with (refine wpList_builtin1 _ (by rfl) .clear _ _ (by rfl) (.slice (some ⟨g, i * 3, none⟩) _ _) (by rfl) _ _ (run_clear_blk _ Try.underlying109 zeroExt zExt_one HB1.out HF.out) ?_)
      go_ret
      exact ⟨W1, rfl, HB1.out, HD1.out, rfl⟩
  have mid : j < l.length → Calls Try.prog 68 #[.slice (some ⟨g, 0, none⟩) l.length cap, .int .i64 (i : Int), .int .i64 (j : Int)] w fun e w' => ∃ W1, e = .returned (.slice (some ⟨g, 0, none⟩) (i + (l.length - j)) cap) ∧
      Blk W1 g 114 (splice (rowV l ++ rest) (i * 3) (rowV (l.drop j))) ∧ Chg [g] w W1 ∧ w' = W1.setRow g (splice (splice (rowV l ++ rest) (i * 3) (rowV (l.drop j))) ((i + (l.length - j)) * 3) (zeros3 (l.length - (i + (l.length - j))))).toArray := by
    intro c
    have q1 : ¬ cap = j := by omega
    have q2 : ¬ j = cap := by omega
    have q3 : i + (l.length - j) ≤ l.length := by omega
    have q4 : ¬ cap = i + (l.length - j) := by omega
    have q5 : ¬ i + (l.length - j) = cap := by omega
    have hsl : (splice (rowV l ++ rest) (i * 3) (rowV (l.drop j))).length = (rowV l ++ rest).length := length_splice _ _ _ (by rw [rowV_length, List.length_drop]; have := HL.out; omega)
    have HF : Aside ((i + (l.length - j)) * 3 + (l.length - (i + (l.length - j))) * zExt.cells.size ≤ (splice (rowV l ++ rest) (i * 3) (rowV (l.drop j))).length) := ⟨by have := HL.out; rw [hsl, show zExt.cells.size = 3 from rfl]; omega⟩
    have HB1 := Aside.mk (H.out.drew.setRow (splice (rowV l ++ rest) (i * 3) (rowV (l.drop j))))
    have HD1 := Aside.mk (((Chg.refl [g] w).drew).setRow (g := g) (by simp) (splice (rowV l ++ rest) (i * 3) (rowV (l.drop j))).toArray)
    have HR := fun c => run_append_room_blk (P := Try.prog) (ty := 109) w.drew Try.underlying109 hi0 H.out.drew (ad := ⟨g, j * 3, none⟩) (m := l.length - j) (c := cap - j) (o := 0) (sLen := i) (sCap := cap) (news := rowV (l.drop j))
      (by rw [rowV_length, List.length_drop, hz1]) (H.out.drew.from (fun k u hu => by
        rw [List.getElem?_append_left (by have := (List.getElem?_eq_some_iff.1 hu).1; rw [rowV_length, List.length_drop] at this; rw [rowV_length]; omega)]
        have e : rowV l = rowV (l.take j) ++ rowV (l.drop j) := by rw [← rowV_append, List.take_append_drop]
        rw [e, List.getElem?_append_right (by rw [rowV_length, List.length_take]; omega), rowV_length, List.length_take, Nat.min_eq_left (by omega), show j * 3 + k - j * 3 = k by omega]
        exact hu)) (oneExt _) (by omega) (by rw [hz1, rowV_length, List.length_drop]; have := HL.out; omega) c
    rw [hz1, Nat.zero_add] at HR
    have HR' := Aside.mk HR
    clear hsl HR
    go_enter Try.func68, Try.ntmps68
    go_wp2
    refine region_tail 6 (by kernel_rfl) (by kernel_rfl) ?_
    simp only [List.take_succ_cons, List.take_zero, List.drop_succ_cons, List.drop_zero]
    repeat still_step
    refine wpStill_nil ?_
    refine wpList_builtin2 _ rfl .append _ _ _ rfl (.slice (some ⟨g, 0, none⟩) i cap) (.slice (some ⟨g, j * 3, none⟩) (l.length - j) (cap - j)) rfl rfl _ _ HR'.out ?_
    generalize w.drew.setRow g (splice (rowV l ++ rest) (i * 3) (rowV (l.drop j))).toArray = W1 at HB1 HD1 ⊢
    clear HR'
    go_wp2_with (refine wpList_builtin1 _ (by rfl) .clear _ _ (by rfl) (.slice (some ⟨g, (i + (l.length - j)) * 3, none⟩) _ _) (by rfl) _ _ (run_clear_blk _ Try.underlying109 zeroExt zExt_one HB1.out HF.out) ?_)
    go_ret
    exact ⟨W1, rfl, HB1.out, HD1.out, rfl⟩
  have hown : (Value.slice (some ⟨g, 0, none⟩) l.length cap).ownBlock = some g := rfl
  have hlen3 := HL.out
  have hsplit : l = l.take i ++ l[i] :: l.drop (i + 1) := by rw [← List.drop_eq_getElem_cons hi, List.take_append_drop]
  have hel : l.eraseIdx i = l.take i ++ l.drop (i + 1) := List.eraseIdx_eq_take_drop_succ _ _
  have hrl : rowV l = rowV (l.take i) ++ (extV l[i] ++ rowV (l.drop (i + 1))) := by rw [← rowV_cons, ← rowV_append, ← hsplit]
  have htl : (rowV (l.take i)).length = i * 3 := by rw [rowV_length, List.length_take, Nat.min_eq_left (by omega)]
  have hjj := HJ.out
  have hjj2 := HJ.out
  subst hjj
  by_cases c : i + 1 = l.length
  · refine (last c).mono ?_
    rintro e w' ⟨W1, rfl, hB, hC, rfl⟩
    have hd : l.drop (i + 1) = [] := List.drop_eq_nil_of_le (by omega)
    refine ⟨_, rfl, ?_, rfl, ?_⟩
    · have he : splice (rowV l ++ rest) (i * 3) (zeros3 (l.length - i)) = rowV (l.eraseIdx i) ++ (zeros3 (l.length - i) ++ rest) := by
        rw [hrl, hel, hd]
        simp only [rowV, List.flatMap_nil, List.append_nil, List.append_assoc]
        have := splice_mid (rowV (l.take i)) (extV l[i]) rest (zeros3 (l.length - i)) (by rw [zeros3_length]; simp [extV]; omega)
        rw [htl] at this
        exact this
      rw [he]
      have hle : (l.eraseIdx i).length = i := by rw [List.length_eraseIdx_of_lt hi]; omega
      rw [hle]
      exact Row.mk (hB.setRow _) (by rw [rowV_length, hle]) (by omega) (by have := HC.out; omega) (by rw [List.length_append, List.length_append, rowV_length, zeros3_length, hle]; rw [List.length_append, rowV_length] at hlen3; omega)
    · exact hC.setRow (by simp [Value.ownBlock]) _
  · refine (mid (by omega)).mono ?_
    rintro e w' ⟨W1, rfl, hB, hC, rfl⟩
    obtain ⟨m, hm⟩ : ∃ m, m = l.length - (i + 1) := ⟨_, rfl⟩
    have hdl : (rowV (l.drop (i + 1))).length = m * 3 := by rw [rowV_length, List.length_drop, hm]
    rw [← hm]
    have hz : l.length - (i + m) = 1 := by omega
    rw [hz]
    have h1 : splice (rowV l ++ rest) (i * 3) (rowV (l.drop (i + 1))) = rowV (l.take i) ++ (rowV (l.drop (i + 1)) ++ ((extV l[i] ++ rowV (l.drop (i + 1))).drop (m * 3) ++ rest)) := by
      have := splice_mid (rowV (l.take i)) ((extV l[i] ++ rowV (l.drop (i + 1))).take (m * 3)) ((extV l[i] ++ rowV (l.drop (i + 1))).drop (m * 3) ++ rest) (rowV (l.drop (i + 1))) (by rw [List.length_take, List.length_append, hdl]; simp [extV])
      rw [htl, ← List.append_assoc _ _ rest, List.take_append_drop] at this
      rw [hrl]
      simpa only [List.append_assoc] using this
    have h2 : splice (splice (rowV l ++ rest) (i * 3) (rowV (l.drop (i + 1)))) ((i + m) * 3) (zeros3 1) = rowV (l.eraseIdx i) ++ (zeros3 1 ++ rest) := by
      rw [h1, hel, rowV_append]
      have := splice_mid (rowV (l.take i) ++ rowV (l.drop (i + 1))) ((extV l[i] ++ rowV (l.drop (i + 1))).drop (m * 3)) rest (zeros3 1) (by rw [List.length_drop, List.length_append, hdl, zeros3_length]; simp [extV])
      rw [List.length_append, htl, hdl, ← Nat.add_mul] at this
      simpa only [List.append_assoc] using this
    have hle : (l.eraseIdx i).length = i + m := by rw [List.length_eraseIdx_of_lt hi]; omega
    refine ⟨_, rfl, ?_, rfl, hC.setRow (by simp [Value.ownBlock]) _⟩
    rw [h2, hle]
    exact Row.mk (hB.setRow _) (by rw [rowV_length, hle]) (by omega) (by have := HC.out; omega) (by rw [List.length_append, List.length_append, rowV_length, zeros3_length, hle]; rw [List.length_append, rowV_length] at hlen3; omega)
end Go.Proofs.Ytgimcpnelogadaa.Sto
