/- Chapter 7: ValueBack, walked. -/
import Derived.Test.YtgimcpnelogadaaVaH
import Derived.Deep.CutRange
namespace Go.Proofs.Ytgimcpnelogadaa.Va
open Go.RowKit Go.Proofs.Ytgimcpnelogadaa.Mem Go.Proofs.Ytgimcpnelogadaa.Sto Go.Proofs.Ytgimcpnelogadaa.Wd Go.Proofs.Ytgimcpnelogadaa.Hp
set_option linter.unusedVariables false
set_option linter.unusedSimpArgs false
set_option maxHeartbeats 16000000 in
set_option maxRecDepth 100000 in
theorem back_walk {w : World} (i : Int) (b : Nat) (hb : b < 18446744073709551616) (s : ByteArray) :
    Calls Try.prog 15 #[.int .i64 i, .int .u64 (b : Int), .string s] w fun e w' => e = .returned (.bool true) ∧ Chg [] w w' := by
  by_cases n1 : 3000 < s.size
  · have n1' : (3000 : Int) < (s.size : Int) := by omega
    go_enter Try.func15, Try.ntmps15
    go_wp2
    go_ret
    exact ⟨rfl, Chg.refl _ _⟩
  have n1' : (s.size : Int) ≤ 3000 := by omega
  have n1'' : decide ((3000 : Int) < (s.size : Int)) = false := decide_eq_false (by omega)
  have CN := Mem.Aside.mk (new_k 1000 (by decide) w)
  rw [show ((1000 : Nat) : Int) = 1000 from rfl] at CN
  have HV : Mem.Aside (∀ v ∈ [Val.int i, .float b, .text s], v.ok) := ⟨by simp [Val.ok]; exact ⟨hb, by omega⟩⟩
  clear n1
  go_enter Try.func15, Try.ntmps15
  go_upto_region 6 with (go_at_call 38; (with_reducible refine CN.out.mono ?_); rintro e w1 ⟨p, G, rfl, h1, hc1, hg1⟩; have H1 := Mem.Aside.mk (And.intro h1 (And.intro hc1 hg1)); clear h1 hc1 hg1)
  go_upto_region 7 with fail
  have HW1 : Mem.Aside (Boxed w p 1000 w1.heap.size [Val.int i, .float b, .text s] [] [] [] (.slice none 0 0) (w1.alloc (.cells #[.int .i64 2, .int .i64 i, .int .u64 0, .string { data := #[] }, .int .u64 0, .int .i64 3, .int .i64 0, .int .u64 (b : Int), .string { data := #[] }, .int .u64 0, .int .i64 4, .int .i64 0, .int .u64 0, .string s, .int .u64 0] 83))) :=
    ⟨⟨⟨G, H1.out.1.chg ((Chg.refl [] w1).alloc _) (by simp), fun k hk => ⟨H1.out.2.2 k hk, by have := H1.out.1.lt k hk; omega, by simp [Value.ownBlock]⟩⟩, HV.out, by simp, by simp [hwC], rfl, Row.nil _ _ _, (fun g hg => by cases hg), H1.out.2.1.alloc _, Blk.newL [_, _, _, _, _, _, _, _, _, _, _, _, _, _, _] rfl, H1.out.2.1.size, by simp⟩⟩
  obtain ⟨lb, hlb⟩ : ∃ lb, lb = w1.heap.size := ⟨_, rfl⟩
  rw [← hlb] at HW1 ⊢
  clear hlb CN
  generalize w1.alloc (.cells #[.int .i64 2, .int .i64 i, .int .u64 0, .string { data := #[] }, .int .u64 0, .int .i64 3, .int .i64 0, .int .u64 (b : Int), .string { data := #[] }, .int .u64 0, .int .i64 4, .int .i64 0, .int .u64 0, .string s, .int .u64 0] 83) = W1 at HW1 ⊢
  obtain ⟨l, hl⟩ : ∃ l, l = [Val.int i, .float b, .text s] := ⟨_, rfl⟩
  rw [← hl] at HW1 HV
  have HL := Mem.Aside.mk hl
  have HN : Mem.Aside (l.length = 3 ∧ ∀ k, needs (l.take k) ≤ 400) := ⟨by
    rw [hl]
    refine ⟨rfl, fun k => ?_⟩
    have e1 : (Val.int i).need ≤ 2 := by unfold Val.need Val.cel; by_cases c : Small i <;> simp [c, intC]
    have e2 : (Val.float b).need = 0 := rfl
    have e3 : (Val.text s).need ≤ 380 := by
      unfold Val.need Val.cel
      by_cases c : s.size ≤ 5
      · simp [c]
      · simp only [c, if_false, textC]; omega
    have : k = 0 ∨ k = 1 ∨ k = 2 ∨ 3 ≤ k := by omega
    rcases this with rfl | rfl | rfl | h
    · simp [needs]
    · simp only [needs, List.take_succ_cons, List.take_zero, List.map_cons, List.map_nil, List.sum_cons, List.sum_nil]; omega
    · simp only [needs, List.take_succ_cons, List.take_zero, List.map_cons, List.map_nil, List.sum_cons, List.sum_nil]; omega
    · rw [List.take_of_length_le (by simpa using h)]
      simp only [needs, List.map_cons, List.map_nil, List.sum_cons, List.sum_nil]; omega⟩
  clear hl
  go_upto_region 8 with fail
  go_wp2
  go_loopw [10, 11] (fun rv kk wr => ∃ (ws : List Nat) (L : List (Nat × Cel)), kk = .int .i64 (ws.length : Int) ∧ ws.length ≤ 3 ∧ Mem.Aside (Boxed w p 1000 lb l ws ws L rv wr)) (fun _ kk _ => 3 - (intOf kk).toNat)
  case atStart => exact ⟨[], [], rfl, by decide, HW1⟩
  case round =>
    obtain ⟨ws, L, rfl, hk, HB⟩ := hrel
    by_cases d : ws.length < 3
    · have d' : (ws.length : Int) < 3 := by omega
      go_upto_region 11 with fail
      obtain ⟨v, hv⟩ : ∃ v, l[ws.length]? = some v := ⟨_, List.getElem?_eq_getElem (by have := HN.out.1; omega)⟩
      obtain ⟨q0, q1, q2, q3, q4⟩ := valsV_at l _ v hv
      have hroom : needL L + v.need ≤ 1000 := by
        have e := HN.out.2 (ws.length + 1)
        rw [HB.out.need]
        rw [List.take_add_one, hv] at e
        simp [needs] at e ⊢
        omega
      obtain ⟨cv, W5, hrun, hrow, hch5, hown5⟩ := app64 (w := wr.drew) (W := (wr.alloc (.cells #[] 22)).drew) rfl HB.out.row.drew (by omega)
      have CBX := Mem.Aside.mk (HB.out.box (v := v) ((Chg.refl [] wr).drew.then hch5 (by simp)) hv hroom hrow (by omega))
      have HRUN := Mem.Aside.mk hrun
      have hb0 := HB.out.lst.drew
      have hb1 := (HB.out.lst.alloc (.cells #[] 22)).drew
      have hb2 := HB.out.lst.drew.chg hch5 (by simp)
      have a0 := hb0.cellAt q0
      have a1 := hb0.cellAt q1
      have a2 := hb0.cellAt q2
      have a3 := hb0.cellAt q3
      have a4 := hb0.cellAt q4
      have b0 := hb1.cellAt q0
      have b1 := hb1.cellAt q1
      have b2 := hb1.cellAt q2
      have b3 := hb1.cellAt q3
      have b4 := hb1.cellAt q4
      have c0 := hb2.cellAt q0
      have c1 := hb2.cellAt q1
      have c2 := hb2.cellAt q2
      have c3 := hb2.cellAt q3
      have c4 := hb2.cellAt q4
      clear q0 q1 q2 q3 q4 hb0 hb1 hb2 hrun hrow hch5 hown5 hroom hv
      go_cut [12, 13] from 39 to 67 (fun s12 s13 wx => ∃ (a : Nat) (L' : List (Nat × Cel)), s12 = .int .u64 (a : Int) ∧ s13 = .int .i64 0 ∧ Mem.Aside (a < 18446744073709551616 ∧ Wd.cls a ≠ 7) ∧ Mem.Aside (Boxed w p 1000 lb l ws (ws ++ [a]) L' u10 wx))
      case first =>
        go_region_law (first
          | (refine step_builtin2 _ rfl .append _ _ _ rfl _ _ rfl rfl _ _ (HRUN.out _) ?_)
          | (go_simp; go_at_call 46; (with_reducible refine CBX.out.mono ?_); rintro e w6 ⟨a, L', rfl, h6, h7, h8⟩; have HA := Mem.Aside.mk (And.intro h6 h7); have HX := Mem.Aside.mk h8; clear h6 h7 h8))
        all_goals go_wp2_with fail
        all_goals go_meet
        all_goals exact ⟨a, L', rfl, rfl, HA, HX⟩
      case rest =>
        obtain ⟨a, L', rfl, rfl, HA, HX⟩ := hcut
        have CCL := Mem.Aside.mk (rclass_calls a HA.out.1)
        obtain ⟨C, hC⟩ : ∃ C, C = Wd.cls a := ⟨_, rfl⟩
        rw [← hC] at CCL
        have e7 : ((C : Int) == 7) = false := by simpa using (by have := HA.out.2; rw [← hC] at this; omega : ¬ (C : Int) = 7)
        clear hC
        go_upto_region 14 with (go_at_call 47; (with_reducible refine (CCL.out _).mono ?_); rintro e w7 ⟨rfl, hc7⟩; have HY := Mem.Aside.mk (HX.out.same hc7); clear hc7)
        obtain ⟨x1, w8, hr1, hrow1, hc1, ho1⟩ := app1 (w := w7) (W := w7.alloc (.cells #[.int .u64 (a : Int)] 22)) (p := a) rfl HY.out.row (by omega)
        have HZ := Mem.Aside.mk (HY.out.push hc1 hrow1 ho1)
        have HR1 := Mem.Aside.mk hr1
        clear hr1 hrow1 hc1 ho1
        go_wp2_with (at_builtin; refine wpList_builtin2 _ (by rfl) .append _ _ _ (by rfl) _ _ (by rfl) (by rfl) _ _ (HR1.out _) ?_)
        exact ⟨⟨ws ++ [a], L', by simp, by simp; omega, HZ⟩, by simp [intOf]; omega⟩
    · have d' : decide ((ws.length : Int) < 3) = false := decide_eq_false (by omega)
      go_upto_region 15 with fail
      go_wp2_with fail
      have hd3 : ws.length = 3 := by omega
      obtain ⟨gr, capr, hur, _⟩ := row_get1 HB.out.row (i := 0) (u := .int .u64 ((ws[0] : Nat) : Int)) (by simp [u64V, List.getElem?_eq_getElem (show 0 < ws.length by omega)])
      subst hur
      have HD3 := Mem.Aside.mk hd3
      simp only [hd3, show ((3 : Nat) : Int) = 3 from rfl] at HB ⊢
      clear hd3
      have HNB : Mem.Aside (∀ v ∈ l, v.b < 18446744073709551616 ∧ ∀ c, v ≠ .bool c) := ⟨by
        rw [HL.out]
        intro v hv
        simp only [List.mem_cons, List.not_mem_nil, or_false] at hv
        rcases hv with rfl | rfl | rfl
        · exact ⟨by show (0 : Nat) < _; decide, fun c e => by cases e⟩
        · exact ⟨hb, fun c e => by cases e⟩
        · exact ⟨by show (0 : Nat) < _; decide, fun c e => by cases e⟩⟩
      go_loopw [14] (fun kk wr2 => ∃ j : Nat, kk = .int .i64 (j : Int) ∧ j ≤ 3 ∧ Mem.Aside (Boxed w p 1000 lb l ws ws L (.slice (some ⟨gr, 0, none⟩) 3 capr) wr2)) (fun kk _ => 3 - (intOf kk).toNat)
      case atStart => exact ⟨0, rfl, by decide, HB⟩
      case round =>
        obtain ⟨j, rfl, hj, HC⟩ := hrel
        by_cases dj : j < 3
        · have dj' : (j : Int) < 3 := by omega
          have hjl : j < ws.length := by have := HD3.out; omega
          obtain ⟨v, hv⟩ : ∃ v, l[j]? = some v := ⟨_, List.getElem?_eq_getElem (by have := HN.out.1; omega)⟩
          obtain ⟨q0, q1, q2, q3, q4⟩ := valsV_at l _ v hv
          obtain ⟨x, hx⟩ : ∃ x, ws[j]? = some x := ⟨_, List.getElem?_eq_getElem hjl⟩
          obtain ⟨g', cap', e', hcx⟩ := row_get1 HC.out.row (i := j) (u := .int .u64 (x : Int)) (by simp [u64V, hx])
          have eg : gr = g' := by have := congrArg Value.ownBlock e'; simpa [Value.ownBlock] using this
          subst eg
          have CU : Mem.Aside (Calls Try.prog 48 #[.pointer (some ⟨p, 0, none⟩), .int .u64 (x : Int)] wr fun e w' => e = .returned (.tuple #[.agg #[.int .i64 v.k, .int .i64 v.i, .int .u64 (floatW v.b : Nat), .string v.t, .int .u64 0], .int .i64 0]) ∧ Chg [] wr w') := ⟨by
            obtain ⟨G3, h3, _⟩ := HC.out.ex
            obtain ⟨v', hv', hs⟩ := HC.out.st j x hx
            rw [hv] at hv'
            cases hv'
            have := unbox_k h3 hs (HV.out v (List.mem_of_getElem? hv)) (HNB.out v (List.mem_of_getElem? hv)).2
            rw [Val.u_eq] at this
            exact this⟩
          have CF := Mem.Aside.mk (rfloat_calls (HNB.out v (List.mem_of_getElem? hv)).1)
          have HQ := Mem.Aside.mk (And.intro q0 (And.intro q1 (And.intro q2 (And.intro q3 q4))))
          clear q0 q1 q2 q3 q4 hx hv hjl e'
          obtain ⟨F, hF⟩ : ∃ F, F = floatW v.b := ⟨_, rfl⟩
          rw [← hF] at CU CF
          clear hF
          go_upto_region 19 with (go_at_call 48; (with_reducible refine CU.out.mono ?_); rintro e w9 ⟨rfl, hc9⟩; have HC9 := Mem.Aside.mk (HC.out.same hc9); clear hc9)
          have hl1 := HC9.out.lst.alloc (.cells #[.int .i64 v.k, .int .i64 v.i, .int .u64 (F : Int), .string v.t, .int .u64 0] 83)
          have HC10 := Mem.Aside.mk (HC9.out.same (((Chg.refl [] w9).alloc (.cells #[.int .i64 v.k, .int .i64 v.i, .int .u64 (F : Int), .string v.t, .int .u64 0] 83)).alloc (.cells #[.int .i64 v.k, .int .i64 v.i, .int .u64 (F : Int), .string v.t, .int .u64 0] 83)))
          obtain ⟨q0, q1, q2, q3, q4⟩ := HQ.out
          have a0 := hl1.cellAt q0
          have a1 := hl1.cellAt q1
          have a2 := hl1.cellAt q2
          have a3 := hl1.cellAt q3
          have a4 := hl1.cellAt q4
          clear q0 q1 q2 q3 q4 hl1
          go_wp2_with (go_at_call 49; (with_reducible refine (CF.out _).mono ?_); rintro e w' ⟨rfl, rfl⟩)
          exact ⟨⟨j + 1, by go_num, by omega, HC10⟩, by simp [intOf]; omega⟩
        · have dj' : decide ((j : Int) < 3) = false := decide_eq_false (by omega)
          obtain ⟨N, hN⟩ : ∃ N, N = needL L := ⟨_, rfl⟩
          have CRE : Mem.Aside (Calls Try.prog 40 #[.pointer (some ⟨p, 0, none⟩), .slice (some ⟨gr, 0, none⟩) 3 capr] wr fun e w' => e = .returned (.int .i64 (N : Int)) ∧ Chg [] wr w') := ⟨by
            obtain ⟨G3, h3, _⟩ := HC.out.ex
            obtain ⟨r1, r2⟩ := HC.out.roots
            rw [hN]
            exact reach_k h3 HC.out.row (by have := HD3.out; omega) r1 r2 HC.out.words⟩
          have hneed : N = (Val.int i).need + (Val.text s).need := by
            rw [hN, HC.out.need, HD3.out, HL.out]
            have e2 : (Val.float b).need = 0 := rfl
            simp only [needs, List.take_succ_cons, List.take_zero, List.map_cons, List.map_nil, List.sum_cons, List.sum_nil]
            omega
          have HFIN := Mem.Aside.mk HC.out.chg
          have CA := Mem.Aside.mk awake7_calls
          clear hN
          by_cases c1 : Small i
          · have e1 : (Val.int i).need = 0 := by unfold Val.need Val.cel; simp [c1]
            obtain ⟨f1, f2⟩ := c1
            by_cases c2 : s.size ≤ 5
            · have e2 : (Val.text s).need = 0 := by unfold Val.need Val.cel; simp [c2]
              have hz : (N : Int) = 0 := by omega
              have c2' : decide ((5 : Int) < (s.size : Int)) = false := decide_eq_false (by omega)
              clear hneed e1 e2
              go_wp2_with (first
                | (go_at_call 40; (with_reducible refine CRE.out.mono ?_); rintro e w9 ⟨rfl, hc9⟩; have HF9 := Mem.Aside.mk (HFIN.out.then hc9 (by simp)); clear hc9)
                | (go_at_call 50; (with_reducible refine (CA.out _).mono ?_); rintro e w10 ⟨rfl, hc10⟩; have HF10 := Mem.Aside.mk (HF9.out.then hc10 (by simp)); clear hc10))
              go_ret
              exact ⟨rfl, HF10.out⟩
            · have e2 : (Val.text s).need = 1 + (s.size + 7) / 8 := by unfold Val.need Val.cel; simp [c2, textC]
              have hz : (1 : Int) + ((s.size : Int) + 7) / 8 = (N : Int) := by omega
              have c2' : (5 : Int) < (s.size : Int) := by omega
              clear hneed e1 e2
              go_wp2_with (first
                | (go_at_call 40; (with_reducible refine CRE.out.mono ?_); rintro e w9 ⟨rfl, hc9⟩; have HF9 := Mem.Aside.mk (HFIN.out.then hc9 (by simp)); clear hc9)
                | (go_at_call 50; (with_reducible refine (CA.out _).mono ?_); rintro e w10 ⟨rfl, hc10⟩; have HF10 := Mem.Aside.mk (HF9.out.then hc10 (by simp)); clear hc10))
              go_ret
              exact ⟨rfl, HF10.out⟩
          · have e1 : (Val.int i).need = 2 := by unfold Val.need Val.cel; simp [c1, intC]
            by_cases f1 : i < -140737488355328
            · clear c1
              by_cases c2 : s.size ≤ 5
              · have e2 : (Val.text s).need = 0 := by unfold Val.need Val.cel; simp [c2]
                have hz : (N : Int) = 2 := by omega
                have c2' : decide ((5 : Int) < (s.size : Int)) = false := decide_eq_false (by omega)
                clear hneed e1 e2
                go_wp2_with (first
                  | (go_at_call 40; (with_reducible refine CRE.out.mono ?_); rintro e w9 ⟨rfl, hc9⟩; have HF9 := Mem.Aside.mk (HFIN.out.then hc9 (by simp)); clear hc9)
                  | (go_at_call 50; (with_reducible refine (CA.out _).mono ?_); rintro e w10 ⟨rfl, hc10⟩; have HF10 := Mem.Aside.mk (HF9.out.then hc10 (by simp)); clear hc10))
                go_ret
                exact ⟨rfl, HF10.out⟩
              · have e2 : (Val.text s).need = 1 + (s.size + 7) / 8 := by unfold Val.need Val.cel; simp [c2, textC]
                have hz : (2 : Int) + (1 + ((s.size : Int) + 7) / 8) = (N : Int) := by omega
                have c2' : (5 : Int) < (s.size : Int) := by omega
                clear hneed e1 e2
                go_wp2_with (first
                  | (go_at_call 40; (with_reducible refine CRE.out.mono ?_); rintro e w9 ⟨rfl, hc9⟩; have HF9 := Mem.Aside.mk (HFIN.out.then hc9 (by simp)); clear hc9)
                  | (go_at_call 50; (with_reducible refine (CA.out _).mono ?_); rintro e w10 ⟨rfl, hc10⟩; have HF10 := Mem.Aside.mk (HF9.out.then hc10 (by simp)); clear hc10))
                go_ret
                exact ⟨rfl, HF10.out⟩
            · have f2 : 140737488355328 ≤ i := by
                unfold Small at c1
                omega
              clear c1
              by_cases c2 : s.size ≤ 5
              · have e2 : (Val.text s).need = 0 := by unfold Val.need Val.cel; simp [c2]
                have hz : (N : Int) = 2 := by omega
                have c2' : decide ((5 : Int) < (s.size : Int)) = false := decide_eq_false (by omega)
                clear hneed e1 e2
                go_wp2_with (first
                  | (go_at_call 40; (with_reducible refine CRE.out.mono ?_); rintro e w9 ⟨rfl, hc9⟩; have HF9 := Mem.Aside.mk (HFIN.out.then hc9 (by simp)); clear hc9)
                  | (go_at_call 50; (with_reducible refine (CA.out _).mono ?_); rintro e w10 ⟨rfl, hc10⟩; have HF10 := Mem.Aside.mk (HF9.out.then hc10 (by simp)); clear hc10))
                go_ret
                exact ⟨rfl, HF10.out⟩
              · have e2 : (Val.text s).need = 1 + (s.size + 7) / 8 := by unfold Val.need Val.cel; simp [c2, textC]
                have hz : (2 : Int) + (1 + ((s.size : Int) + 7) / 8) = (N : Int) := by omega
                have c2' : (5 : Int) < (s.size : Int) := by omega
                clear hneed e1 e2
                go_wp2_with (first
                  | (go_at_call 40; (with_reducible refine CRE.out.mono ?_); rintro e w9 ⟨rfl, hc9⟩; have HF9 := Mem.Aside.mk (HFIN.out.then hc9 (by simp)); clear hc9)
                  | (go_at_call 50; (with_reducible refine (CA.out _).mono ?_); rintro e w10 ⟨rfl, hc10⟩; have HF10 := Mem.Aside.mk (HF9.out.then hc10 (by simp)); clear hc10))
                go_ret
                exact ⟨rfl, HF10.out⟩
end Go.Proofs.Ytgimcpnelogadaa.Va
