/- Chapter 5: StoreFills walks. -/
import Derived.Test.YtgimcpnelogadaaFillsP
namespace Go.Proofs.Ytgimcpnelogadaa.Sto
open Go.RowKit Go.Proofs.Ytgimcpnelogadaa.Mem
set_option linter.unusedVariables false
set_option linter.unusedSimpArgs false

set_option maxHeartbeats 8000000 in
set_option maxRecDepth 100000 in
theorem fills_walk {w : World} {B C : Option Addr} {c d : Nat} {zs gs : List Int} (hB : Ints w B c zs) (hC : Ints w C d gs) :
    Calls Try.prog 4 #[.slice B zs.length c, .slice C gs.length d] w fun e w' => e = .returned (.bool true) ∧ Below w.heap.size w w' := by
  by_cases c1 : 60 < zs.length
  · have c1' : (60 : Int) < (zs.length : Int) := by omega
    go_enter Try.func4, Try.ntmps4
    go_wp2
    go_ret
    exact ⟨rfl, Below.refl _ _⟩
  have c1' : (zs.length : Int) ≤ 60 := by omega
  by_cases c2 : 60 < gs.length
  · have c2' : (60 : Int) < (gs.length : Int) := by omega
    go_enter Try.func4, Try.ntmps4
    go_wp2
    go_ret
    exact ⟨rfl, Below.refl _ _⟩
  have c2' : (gs.length : Int) ≤ 60 := by omega
  have c1'' : decide ((60 : Int) < (zs.length : Int)) = false := decide_eq_false (by omega)
  have c2'' : decide ((60 : Int) < (gs.length : Int)) = false := decide_eq_false (by omega)
  have HB := Mem.Aside.mk hB
  have HC := Mem.Aside.mk hC
  clear hB hC
  have CN := Mem.Aside.mk (new_holds w)
  go_enter Try.func4, Try.ntmps4
  go_wp2_with (go_at_call 21; (with_reducible refine CN.out.mono ?_); rintro e w1 ⟨p, F, rfl, h1, hc1, hF⟩; have H1 := Mem.Aside.mk h1; have HC1 := Mem.Aside.mk hc1; have HF := Mem.Aside.mk hF; clear h1 hc1 hF)
  go_loopw [6, 7] (fun nv i wr => ∃ (k : Nat) (F : List Nat), i = .int .i64 (k : Int) ∧ k ≤ zs.length ∧ Mem.Aside (Fill w zs p k F nv wr)) (fun _ i _ => zs.length - (intOf i).toNat)
  case atStart => exact ⟨0, F, rfl, Nat.zero_le _, ⟨⟨H1.out, Row.nil _ _ _, HC1.out, HF.out, (by intro g hg; cases hg), (by intro j hj; omega)⟩⟩⟩
  case round =>
    obtain ⟨k, Fk, rfl, hk, HK⟩ := hrel
    by_cases c : k < zs.length
    · obtain ⟨ab, rfl, hz⟩ := HB.out.get k c
      have hz' : wr.cell? (ab.add k) = some (.int .i64 zs[k]) := cell_chg HK.out.chg hz (by simp)
      obtain ⟨Z, hZ⟩ : ∃ Z, Z = zs[k] := ⟨_, rfl⟩
      rw [← hZ] at hz'
      have HZ := Mem.Aside.mk hZ
      clear hz hZ
      have c' : (k : Int) < (zs.length : Int) := by omega
      by_cases z1 : Z < 0
      · go_wp2
        go_ret
        exact ⟨rfl, HK.out.chg.below⟩
      · by_cases z2 : 300 < Z
        · go_wp2
          go_ret
          exact ⟨rfl, HK.out.chg.below⟩
        · obtain ⟨z, rfl⟩ : ∃ z : Nat, Z = z := ⟨Z.toNat, by omega⟩
          have hz3 : z ≤ 300 := by omega
          have hk60 : zs.length ≤ 60 := by omega
          have CT := Mem.Aside.mk (take_holds HK.out.holds z (by omega) (by rw [fillL_length]; omega) (by omega))
          go_wp2_with (first
            | (go_at_call 22; (with_reducible refine CT.out.mono ?_); rintro e w2 ⟨id, F2, rfl, h2, hl2, hn2, hc2, hF2⟩; obtain rfl : k = id := (fill_id hl2 hn2).symm; have H2 := Mem.Aside.mk h2; have HC2 := Mem.Aside.mk hc2; have HF2 := Mem.Aside.mk hF2; have HC02 := Mem.Aside.mk (HK.out.chg.then hc2 (fun x hx => .inr (HK.out.new x hx))); have hz2 : w2.cell? (ab.add k) = some (.int .i64 (z : Int)) := (by { rw [HZ.out]; exact cell_chg HC02.out ((HB.out.get k c).elim fun a h => by { obtain ⟨e, h⟩ := h; cases e; exact h }) (by simp) }); obtain ⟨nv', w4, hr4, hR4, hC4, hO4⟩ := ((HK.out.row.chg HC2.out (fun g hg hm => (HK.out.own g hg).2 hm)).alloc (.cells #[.int .i64 (z : Int)] 3)).append (c := 1) Try.underlying29 elemInt (m := 1) (news := [.int .i64 (z : Int)]) (ad := ⟨w2.heap.size, 0, none⟩) rfl ((Blk.newL [.int .i64 (z : Int)] rfl).from (fun j u hu => by rw [Nat.zero_add]; exact hu)) (by simp [Value.oneCell']) (by omega) (by omega); have HRUN := Mem.Aside.mk hr4; have HR4 := Mem.Aside.mk hR4; have HC4 := Mem.Aside.mk hC4; have HO4 := Mem.Aside.mk hO4; clear h2 hl2 hn2 hc2 hF2 hz' hr4 hR4 hC4 hO4)
            | (refine wpList_builtin2 _ (by rfl) .append _ _ _ (by rfl) u6 (.slice (some ⟨w2.heap.size, 0, none⟩) 1 1) (by rfl) (by rfl) _ _ (HRUN.out _) ?_))
          have hown : ∀ g, u6.ownBlock = some g → g ∉ F2 := fun g hg hm => by
            have h1 := HK.out.row.lt hg
            rcases HF2.out g hm with h | h
            · exact (HK.out.own g hg).2 h
            · omega
          have H4 : Mem.Aside (Holds w4 p F2 ((k, halfL z 0 (UInt8.ofNat (k + 1))) :: fillL zs k) (320 * k + z + 7)) := ⟨by
            rw [halfL_zero]
            exact (H2.out.chg ((Chg.refl [] _).alloc _) (by simp)).chg HC4.out (fun x hx hm => hown x (Option.mem_toList.1 hm) hx)⟩
          have HC04 : Mem.Aside (Chg [] w w4) := ⟨(HC02.out.alloc _).then HC4.out (fun x hx => .inr (HK.out.own x (Option.mem_toList.1 hx)).1)⟩
          have HN4 : Mem.Aside (∀ g, nv'.ownBlock = some g → w.heap.size ≤ g ∧ g ∉ F2) := ⟨fun g hg => by
            rcases HO4.out with e | e
            · rw [e] at hg
              exact ⟨(HK.out.own g hg).1, hown g hg⟩
            · rw [e] at hg
              have h1 := Option.some.inj hg
              have h2 := HC02.out.size
              have h3 : (w2.alloc (.cells #[.int .i64 (z : Int)] 3)).heap.size = w2.heap.size + 1 := by simp
              exact ⟨by omega, fun hm => by have := H2.out.lt g hm; omega⟩⟩
          clear HRUN HC2 hz2 hown
          have hcv : (k : Int) + 1 < 100 := by omega
          go_loopw [10] (fun i wr2 => ∃ j : Nat, i = .int .i64 (j : Int) ∧ j ≤ z ∧ Mem.Aside (Holds wr2 p F2 ((k, halfL z j (UInt8.ofNat (k + 1))) :: fillL zs k) (320 * k + z + 7)) ∧ Mem.Aside (Row wr2 3 1 nv' (k + 1) (intsV (List.take k zs) ++ [.int .i64 (z : Int)])) ∧ Mem.Aside (Chg [] w wr2))
            (fun i _ => z - (intOf i).toNat)
          case atStart => exact ⟨0, rfl, Nat.zero_le _, H4, HR4, HC04⟩
          case round =>
            obtain ⟨j, rfl, hj, HJ, HRJ, HCJ⟩ := hrel
            have hzj : wr.cell? (ab.add k) = some (.int .i64 (z : Int)) := by
              rw [HZ.out]
              exact cell_chg HCJ.out ((HB.out.get k c).elim fun a h => by obtain ⟨e, h⟩ := h; cases e; exact h) (by simp)
            by_cases d : j < z
            · have hlj : (halfL z j (UInt8.ofNat (k + 1))).length = z := halfL_length (by omega) _
              have CL := Mem.Aside.mk (load_holds HJ.out (List.mem_cons_self ..) j 1 (by decide) (by rw [hlj]; omega) (Nat.mod_one _))
              rw [halfL_get d, show ((0 : Nat) : Int) = 0 from rfl, show ((1 : Nat) : Int) = 1 from rfl] at CL
              have CS := Mem.Aside.mk (fun (w7 : World) (h7 : Holds w7 p F2 ((k, halfL z j (UInt8.ofNat (k + 1))) :: fillL zs k) (320 * k + z + 7)) => save_holds h7 j 1 (by decide) (by rw [hlj]; omega) (Nat.mod_one _) (k + 1) (by omega))
              have d' : (j : Int) < (z : Int) := by omega
              have hwk := (IntWalk.i64_in ((k : Int) + 1) (by omega) : IntKind.i64.wrap ((k : Int) + 1) = ((k + 1 : Nat) : Int))
              have hwu : IntKind.u64.wrap ((k : Int) + 1) = ((k + 1 : Nat) : Int) := wrap_u64 (n := k + 1) (by omega)
              have hwj := (IntWalk.i64_in ((j : Int) + 1) (by omega) : IntKind.i64.wrap ((j : Int) + 1) = ((j + 1 : Nat) : Int))
              clear hlj
              go_wp2_with (first
                | (go_at_call 24; (with_reducible refine CL.out.mono ?_); rintro e w7 ⟨rfl, hc7⟩; have HC7 := Mem.Aside.mk hc7; have H7 := Mem.Aside.mk (HJ.out.chg hc7 (by simp)); clear hc7)
                | (go_at_call 23; have CSx := CS.out _ H7.out; rw [show ((1 : Nat) : Int) = 1 from rfl, show ((k + 1 : Nat) : Int) = (k : Int) + 1 from rfl] at CSx; (with_reducible refine CSx.mono ?_); clear CSx; rintro e w8 ⟨rfl, h8, hc8⟩; have HC8 := Mem.Aside.mk hc8; have H8 := Mem.Aside.mk h8; clear h8 hc8))
              have hle : leB (k + 1) 1 = [UInt8.ofNat (k + 1)] := by simp [leB]
              exact ⟨⟨j + 1, by go_num, by omega, ⟨by have := H8.out; rw [hle, halfL_set d] at this; exact this⟩, ⟨(HRJ.out.chg HC7.out (by simp)).chg HC8.out (fun g hg => (HN4.out g hg).2)⟩, ⟨(HCJ.out.then HC7.out (by simp)).then HC8.out (fun x hx => (HF2.out x hx).elim (fun h => .inr (HK.out.new x h)) (fun h => .inr (Nat.le_trans HK.out.chg.size h)))⟩⟩, by simp [intOf]; omega⟩
            · have hjz : j = z := by omega
              have d' : (z : Int) ≤ (j : Int) := by omega
              have hwk := (IntWalk.i64_in ((k : Int) + 1) (by omega) : IntKind.i64.wrap ((k : Int) + 1) = ((k + 1 : Nat) : Int))
              go_wp2
              subst hjz
              have hz9 : zs.getD k 0 = (j : Int) := by rw [List.getD_eq_getElem?_getD, List.getElem?_eq_getElem c, Option.getD_some]; exact HZ.out.symm
              refine ⟨⟨k + 1, F2, by go_num, by omega, ⟨⟨?_, ?_, HCJ.out, fun x hx => (HF2.out x hx).elim (HK.out.new x) (fun h => Nat.le_trans HK.out.chg.size h), HN4.out, fun i hi => ?_⟩⟩⟩, by simp [intOf]; omega⟩
              · have h1 := HJ.out
                rw [halfL_all] at h1
                have e : fillL zs (k + 1) = (k, List.replicate j (UInt8.ofNat (k + 1))) :: fillL zs k := by rw [fillL, hz9]; rfl
                rw [e]
                obtain ⟨⟨s, a1, a2, a3, a4⟩, a5, a6, a7⟩ := h1
                exact ⟨⟨s, a1, a2, a3, by omega⟩, a5, a6, by omega⟩
              · have e : intsV (zs.take (k + 1)) = intsV (zs.take k) ++ [.int .i64 (j : Int)] := by
                  rw [List.take_succ_eq_append_getElem c, ← HZ.out]
                  simp [intsV]
                rw [e]
                exact HRJ.out
              · by_cases e : i = k
                · rw [e, hz9]; omega
                · exact HK.out.fit i (by omega)
    · obtain rfl : k = zs.length := by omega
      have HL : Mem.Aside (Live w zs p Fk u6 zs wr) := ⟨⟨rfl, by rw [liveL_fill (fun j _ => rfl) (fun j hj => (HK.out.fit j hj).1)]; exact HK.out.holds, by have := HK.out.row; rwa [List.take_length] at this, HK.out.chg, fun j hj => by have := HK.out.fit j hj; omega⟩⟩
      have HNW := Mem.Aside.mk HK.out.new
      have HOW := Mem.Aside.mk HK.out.own
      clear HK
      have hk60 : zs.length ≤ 60 := by omega
      go_wp2
      go_loopw [13] (fun i wr3 => ∃ (m : Nat) (ns : List Int), i = .int .i64 (m : Int) ∧ m ≤ gs.length ∧ Mem.Aside (Live w zs p Fk u6 ns wr3)) (fun i _ => gs.length - (intOf i).toNat)
      case atStart => exact ⟨0, zs, rfl, Nat.zero_le _, HL⟩
      case round =>
        obtain ⟨m, ns, rfl, hm, HM⟩ := hrel
        by_cases c : m < gs.length
        · obtain ⟨ac, rfl, hz⟩ := HC.out.get m c
          have hz' := cell_chg HM.out.chg hz (by simp)
          have hGI : I64 gs[m] := HC.out.fit _ (List.getElem_mem c)
          obtain ⟨G, hG⟩ : ∃ G, G = gs[m] := ⟨_, rfl⟩
          rw [← hG] at hz' hGI
          clear hz hG
          have c' : (m : Int) < (gs.length : Int) := by omega
          have hwm := (IntWalk.i64_in ((m : Int) + 1) (by omega) : IntKind.i64.wrap ((m : Int) + 1) = ((m + 1 : Nat) : Int))
          by_cases g1 : G < 0
          · have CG := Mem.Aside.mk (give_absent HM.out.holds G hGI (fun q hq e => by have := (liveL_mem.1 hq).1; omega))
            clear hGI
            go_wp2_with (go_at_call 26; (with_reducible refine CG.out.mono ?_); rintro e w2 ⟨rfl, rfl⟩)
            exact ⟨⟨m + 1, ns, by go_num, by omega, HM⟩, by simp [intOf]; omega⟩
          · obtain ⟨a6, cap6, hu6⟩ := HM.out.form
            obtain ⟨k, rfl⟩ : ∃ k : Nat, G = k := ⟨G.toNat, by omega⟩
            by_cases g2 : zs.length ≤ k
            · have g2' : (zs.length : Int) ≤ (k : Int) := by omega
              have CG := Mem.Aside.mk (give_absent HM.out.holds (k : Int) hGI (fun q hq e => by have := (liveL_mem.1 hq).1; omega))
              clear hGI
              subst hu6
              go_wp2_with (go_at_call 26; (with_reducible refine CG.out.mono ?_); rintro e w2 ⟨rfl, rfl⟩)
              exact ⟨⟨m + 1, ns, by go_num, by omega, HM⟩, by simp [intOf]; omega⟩
            · have g2' : (k : Int) < (zs.length : Int) := by omega
              clear hu6
              obtain ⟨gb, cap6, rest6, rfl, HBK, hcl, hfz⟩ := HM.out.cell (k := k) (by omega)
              have HBK' := Mem.Aside.mk HBK
              clear HBK
              have hfit := HM.out.fit k (by omega)
              by_cases g3 : ns.getD k 0 < 0
              · have CG := Mem.Aside.mk (give_absent HM.out.holds (k : Int) hGI (fun q hq e => by obtain ⟨q1, q2, q3⟩ := liveL_mem.1 hq; have : q.1 = k := (by omega); rw [this] at q2; omega))
                obtain ⟨Z, hZ⟩ : ∃ Z, Z = ns.getD k 0 := ⟨_, rfl⟩
                rw [← hZ] at g3 hcl
                clear hGI hZ hfit
                go_wp2_with (go_at_call 26; (with_reducible refine CG.out.mono ?_); rintro e w2 ⟨rfl, rfl⟩)
                exact ⟨⟨m + 1, ns, by go_num, by omega, HM⟩, by simp [intOf]; omega⟩
              · have CG := Mem.Aside.mk (give_holds (HM.out.holds.perm (liveL_give (k := k) (by omega) (by rw [HM.out.len]; omega) (by omega))))
                obtain ⟨Z, hZ⟩ : ∃ Z, Z = ns.getD k 0 := ⟨_, rfl⟩
                rw [← hZ] at g3 hcl hfit
                clear hGI hZ
                have hO := HOW.out gb rfl
                have HOG := Mem.Aside.mk hO
                clear hO
                go_wp2_with (first
                  | (go_at_call 26; (with_reducible refine CG.out.mono ?_); rintro e w2 ⟨rfl, h2, hc2⟩; have HC2 := Mem.Aside.mk hc2; have H2 := Mem.Aside.mk h2; have hcl2 := cell_chg hc2 hcl HOG.out.2; have hfz2 := (HBK'.out.chg hc2 HOG.out.2).frozen k; have HM2 := Mem.Aside.mk (HM.out.gave HOG.out HNW.out (by omega) h2 hc2); clear hcl hfz h2 hc2)
                  | (go_at_call 27; (with_reducible refine (pack_holds HM2.out.holds).mono ?_); rintro e w3 ⟨rfl, h3, _, hc3⟩; have HM3 := Mem.Aside.mk (HM2.out.turn HOW.out HNW.out h3 hc3); clear h3 hc3))
                · exact ⟨⟨m + 1, _, by go_num, by omega, HM3⟩, by simp [intOf]; omega⟩
                · exact ⟨⟨m + 1, _, by go_num, by omega, HM2⟩, by simp [intOf]; omega⟩
        · obtain rfl : m = gs.length := by omega
          clear hm c
          obtain ⟨a6, cap6, hu6⟩ := HM.out.form
          subst hu6
          go_wp2
          go_loopw [16, 17] (fun us i wr4 => ∃ m : Nat, us = .int .i64 (totalL (liveL ns m) : Nat) ∧ i = .int .i64 (m : Int) ∧ m ≤ zs.length ∧ Mem.Aside (Live w zs p Fk (.slice a6 zs.length cap6) ns wr4)) (fun _ i _ => zs.length - (intOf i).toNat)
          case atStart => exact ⟨0, rfl, rfl, Nat.zero_le _, HM⟩
          case round =>
            obtain ⟨k, rfl, rfl, hk, HK⟩ := hrel
            by_cases c : k < zs.length
            · have c' : (k : Int) < (zs.length : Int) := by omega
              have hwk := (IntWalk.i64_in ((k : Int) + 1) (by omega) : IntKind.i64.wrap ((k : Int) + 1) = ((k + 1 : Nat) : Int))
              obtain ⟨gb, cap7, rest6, he, HBK, hcl, hfz⟩ := HK.out.cell (k := k) c
              cases he
              have HBK' := Mem.Aside.mk HBK
              clear HBK hfz
              have hfit := HK.out.fit k c
              have hLs : liveL ns (k + 1) = if ns.getD k 0 < 0 then liveL ns k else (k, List.replicate (ns.getD k 0).toNat (UInt8.ofNat (k + 1))) :: liveL ns k := rfl
              by_cases g3 : ns.getD k 0 < 0
              · have CG := Mem.Aside.mk (len_absent HK.out.holds (k : Int) ⟨by omega, by omega⟩ (fun q hq e => by obtain ⟨q1, q2, q3⟩ := liveL_mem.1 hq; have : q.1 = k := (by omega); rw [this] at q2; omega))
                rw [if_pos g3] at hLs
                have HLs := Mem.Aside.mk hLs
                obtain ⟨Z, hZ⟩ : ∃ Z, Z = ns.getD k 0 := ⟨_, rfl⟩
                rw [← hZ] at g3 hcl
                obtain ⟨T, hT⟩ : ∃ T, T = totalL (liveL ns k) := ⟨_, rfl⟩
                rw [← hT]
                have HT := Mem.Aside.mk hT
                clear hZ hfit hLs hT
                go_wp2_with (go_at_call 28; (with_reducible refine CG.out.mono ?_); rintro e w2 ⟨rfl, rfl⟩)
                exact ⟨⟨k + 1, by rw [HLs.out, ← HT.out], by go_num, by omega, HK⟩, by simp [intOf]; omega⟩
              · rw [if_neg g3] at hLs
                obtain ⟨N, hN⟩ : ∃ N : Nat, ns.getD k 0 = N := ⟨(ns.getD k 0).toNat, by omega⟩
                rw [hN] at g3 hcl hfit hLs
                have hmem : (k, List.replicate N (UInt8.ofNat (k + 1))) ∈ liveL ns zs.length := liveL_mem.2 ⟨c, by rw [hN]; omega, by rw [hN]; rfl⟩
                have HN := Mem.Aside.mk hN
                have HMEM := Mem.Aside.mk hmem
                obtain ⟨T, hT⟩ : ∃ T, T = totalL (liveL ns k) := ⟨_, rfl⟩
                have hTle : T ≤ 307 * k := by rw [hT]; exact liveL_total (fun j hj => HK.out.fit j (by omega))
                have hT2 : totalL (liveL ns (k + 1)) = T + up N := by rw [hLs, hT]; simp [totalL]; omega
                have HT2 := Mem.Aside.mk hT2
                rw [← hT]
                have HT := Mem.Aside.mk hT
                clear hN hmem hLs hT hT2
                have hN3 : N ≤ 300 := by omega
                have hw7 := (IntWalk.i64_in ((N : Int) + 7) (by omega) : IntKind.i64.wrap ((N : Int) + 7) = ((N + 7 : Nat) : Int))
                have hup : up N ≤ 307 := by have := up_le N; omega
                go_wp2
                have hsum : (T : Int) + ((N : Int) + 7) / 8 * 8 = ((T + up N : Nat) : Int) := by unfold up; omega
                rw [hsum]
                obtain ⟨S, hS⟩ : ∃ S, S = T + up N := ⟨_, rfl⟩
                rw [← hS]
                have HS := Mem.Aside.mk hS
                clear hS hsum hw7 hup hTle hcl
                go_loopw [20] (fun i wr5 => ∃ j : Nat, i = .int .i64 (j : Int) ∧ j ≤ N ∧ Mem.Aside (Live w zs p Fk (.slice (some ⟨gb, 0, none⟩) zs.length cap6) ns wr5)) (fun i _ => N - (intOf i).toNat)
                case atStart => exact ⟨0, rfl, Nat.zero_le _, HK⟩
                case round =>
                  obtain ⟨j, rfl, hj, HJ⟩ := hrel
                  obtain ⟨gb', cap', rest', he, _, hcl, _⟩ := HJ.out.cell (k := k) c
                  cases he
                  rw [HN.out] at hcl
                  by_cases d : j < N
                  · have CL := Mem.Aside.mk (load_holds HJ.out.holds HMEM.out j 1 (by decide) (by rw [List.length_replicate]; omega) (Nat.mod_one _))
                    have hget : leN (sl (List.replicate N (UInt8.ofNat (k + 1))) j 1) = k + 1 := by
                      have : sl (List.replicate N (UInt8.ofNat (k + 1))) j 1 = [UInt8.ofNat (k + 1)] := by
                        unfold sl
                        rw [List.drop_replicate, List.take_replicate, show min 1 (N - j) = 1 by omega]
                        rfl
                      rw [this]
                      simp [leN]; omega
                    rw [hget, show ((1 : Nat) : Int) = 1 from rfl] at CL
                    clear hget
                    have d' : (j : Int) < (N : Int) := by omega
                    have hwu : IntKind.u64.wrap ((k : Int) + 1) = ((k + 1 : Nat) : Int) := wrap_u64 (n := k + 1) (by omega)
                    have hm256 : ((k : Int) + 1) % 256 = (k : Int) + 1 := by omega
                    have hwj := (IntWalk.i64_in ((j : Int) + 1) (by omega) : IntKind.i64.wrap ((j : Int) + 1) = ((j + 1 : Nat) : Int))
                    go_wp2_with (go_at_call 24; (with_reducible refine CL.out.mono ?_); rintro e w7 ⟨rfl, hc7⟩; have H7 := Mem.Aside.mk (HJ.out.turn HOW.out HNW.out (HJ.out.holds.chg hc7 (by simp)) (hc7.mono (by simp))); clear hc7)
                    exact ⟨⟨j + 1, by go_num, by omega, H7⟩, by simp [intOf]; omega⟩
                  · have hjz : j = N := by omega
                    have d' : (N : Int) ≤ (j : Int) := by omega
                    go_wp2
                    refine ⟨⟨k + 1, by rw [HT2.out, ← HS.out], by go_num, by omega, HJ⟩, by simp [intOf]; omega⟩
            · obtain rfl : k = zs.length := by omega
              have CU := Mem.Aside.mk (used_holds HK.out.holds)
              obtain ⟨T, hT⟩ : ∃ T, T = totalL (liveL ns zs.length) := ⟨_, rfl⟩
              rw [← hT] at CU ⊢
              have CT := Mem.Aside.mk (take_holds HK.out.holds 9 (by decide) (by have := liveL_length ns zs.length; omega) (by omega))
              rw [show ((9 : Nat) : Int) = 9 from rfl] at CT
              go_wp2_with (first
                | (go_at_call 29; (with_reducible refine CU.out.mono ?_); rintro e w5 ⟨rfl, rfl⟩)
                | (go_at_call 22; (with_reducible refine CT.out.mono ?_); rintro e w5 ⟨id, F5, rfl, h5, _, _, hc5, _⟩; have HC5 := Mem.Aside.mk (HK.out.chg.then hc5 (fun x hx => .inr (HNW.out x hx))); have CL := Mem.Aside.mk (load_holds h5 (List.mem_cons_self ..) 8 1 (by decide) (by decide) (by decide)); rw [show leN (sl (List.replicate 9 (0 : UInt8)) 8 1) = 0 by decide, show ((8 : Nat) : Int) = 8 from rfl, show ((1 : Nat) : Int) = 1 from rfl, show ((0 : Nat) : Int) = 0 from rfl] at CL; clear h5 hc5)
                | (go_at_call 24; (with_reducible refine CL.out.mono ?_); rintro e w6 ⟨rfl, hc6⟩; have HC6 := Mem.Aside.mk (HC5.out.then hc6 (by simp)); clear hc6)
                | (go_at_call 25; (with_reducible refine (awake_calls _).mono ?_); rintro e w9 ⟨rfl, hc9⟩; have HC9 := Mem.Aside.mk (HC6.out.then hc9 (by simp)); clear hc9))
              go_ret
              exact ⟨rfl, HC9.out.below⟩
end Go.Proofs.Ytgimcpnelogadaa.Sto
