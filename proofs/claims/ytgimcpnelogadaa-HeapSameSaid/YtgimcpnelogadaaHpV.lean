/- Chapter 6: HeapSame, walked. -/
import Derived.Test.YtgimcpnelogadaaHpU
import Derived.Deep.CutRange
namespace Go.Proofs.Ytgimcpnelogadaa.Hp
open Go.RowKit Go.Proofs.Ytgimcpnelogadaa.Mem Go.Proofs.Ytgimcpnelogadaa.Sto Go.Proofs.Ytgimcpnelogadaa.Wd
set_option linter.unusedVariables false
set_option linter.unusedSimpArgs false
/-- A []int that came in. -/
structure RowI (w : World) (B : Option Addr) (c : Nat) (l : List Int) : Prop where
  len : l.length ≤ c
  cap : c ≤ 9223372036854775807
  cell : ∀ i, i < l.length → ∃ a, B = some a ∧ w.cell? (a.add i) = some (.int .i64 (l.getD i 0))
  bnd : ∀ x ∈ l, -9223372036854775808 ≤ x ∧ x ≤ 9223372036854775807
/-- A []bool that came in. -/
structure RowB (w : World) (B : Option Addr) (c : Nat) (l : List Bool) : Prop where
  len : l.length ≤ c
  cap : c ≤ 9223372036854775807
  cell : ∀ i, i < l.length → ∃ a, B = some a ∧ w.cell? (a.add i) = some (.bool (l.getD i false))
theorem u64V_zero (n : Nat) : u64V (List.replicate n 0) = List.replicate n (.int .u64 0) := by simp [u64V]
set_option maxHeartbeats 16000000 in
set_option maxRecDepth 100000 in
theorem same_walk {w : World} {u : Int} (hu : -9223372036854775808 ≤ u ∧ u ≤ 9223372036854775807) {BS BK : Option Addr} {cS cK : Nat} {S : List Int} {K : List Bool} (hS : RowI w BS cS S) (hK : RowB w BK cK K) :
    Calls Try.prog 11 #[.int .i64 u, .slice BS S.length cS, .slice BK K.length cK] w fun e w' => e = .returned (.bool true) ∧ Below w.heap.size w w' := by
  by_cases n1 : u < 0
  · go_enter Try.func11, Try.ntmps11
    go_wp2
    go_ret
    exact ⟨rfl, Below.refl _ _⟩
  by_cases n2 : 500 < u
  · go_enter Try.func11, Try.ntmps11
    go_wp2
    go_ret
    exact ⟨rfl, Below.refl _ _⟩
  by_cases n3 : 80 < S.length
  · have n3' : (80 : Int) < (S.length : Int) := by omega
    go_enter Try.func11, Try.ntmps11
    go_wp2
    go_ret
    exact ⟨rfl, Below.refl _ _⟩
  have n3' : (S.length : Int) ≤ 80 := by omega
  have n3'' : decide ((80 : Int) < (S.length : Int)) = false := decide_eq_false (by omega)
  obtain ⟨k, rfl⟩ : ∃ k : Nat, u = (k : Int) := ⟨u.toNat, by omega⟩
  have CN := Mem.Aside.mk (new_g k (by omega) w)
  have HS := Mem.Aside.mk hS
  have HKP := Mem.Aside.mk hK
  have hk5 : Mem.Aside (k ≤ 500) := ⟨by omega⟩
  clear hS hK
  go_enter Try.func11, Try.ntmps11
  go_upto_region 4 with (go_at_call 38; (with_reducible refine CN.out.mono ?_); rintro e w1 ⟨pa, Ga, rfl, h1, hc1, hg1⟩; have H1 := Mem.Aside.mk (And.intro h1 (And.intro hc1 hg1)); have CN2 := Mem.Aside.mk (new_g k (Nat.le_trans hk5.out (by decide)) w1); clear h1 hc1 hg1)
  go_wp2_with (go_at_call 38; (with_reducible refine CN2.out.mono ?_); rintro e w2 ⟨pb, Gb, rfl, h2, hc2, hg2⟩; have HT : Mem.Aside (Two w pa pb k w2 (.slice none 0 0) (.slice none 0 0) [] [] [] []) := ⟨⟨⟨[], [], Ga, Gb, H1.out.1.chg hc2 (by simp), h2, kept_nil, kept_nil, kept_nil, kept_nil, fun j hj => ⟨fun hm => by have := H1.out.1.lt j hj; have := hg2 j hm; omega, (fun e => by cases e), (fun e => by cases e), H1.out.2.2 j hj⟩, fun j hj => ⟨(fun e => by cases e), (fun e => by cases e), by have := hg2 j hj; have := H1.out.2.1.size; omega⟩⟩, Row.nil _ _ _, Row.nil _ _ _, (fun j hj => by cases hj), (fun j hj => by cases hj), H1.out.2.1.then hc2 (by simp)⟩⟩; clear h2 hc2 hg2)
  go_loopw [11, 12, 13] (fun x y i wr => ∃ (j : Nat) (La Lb : List (Nat × Nat)), i = .int .i64 (j : Int) ∧ j ≤ S.length ∧ Mem.Aside (La.map Prod.snd = Lb.map Prod.snd ∧ La.length ≤ j ∧ Lb.length ≤ j) ∧ Mem.Aside (Two w pa pb k wr x y La Lb La Lb)) (fun _ _ i _ => S.length - (intOf i).toNat)
  case atStart => exact ⟨0, [], [], rfl, Nat.zero_le _, ⟨⟨rfl, by simp, by simp⟩⟩, HT⟩
  case round =>
    obtain ⟨j, La, Lb, rfl, hj, HL, H⟩ := hrel
    by_cases d : j < S.length
    · have d' : (j : Int) < (S.length : Int) := by omega
      have hwj := (IntWalk.i64_in ((j : Int) + 1) (by omega) : IntKind.i64.wrap ((j : Int) + 1) = ((j + 1 : Nat) : Int))
      obtain ⟨a, ha, hc0⟩ := HS.out.cell j d
      have hcell : wr.cell? (a.add j) = some (.int .i64 (S.getD j 0)) := cell_chg H.out.chg hc0 (by simp)
      subst ha
      obtain ⟨s, hs⟩ : ∃ s, s = S.getD j 0 := ⟨_, rfl⟩
      rw [← hs] at hcell
      have HC0 := Mem.Aside.mk hc0
      rw [← hs] at HC0
      clear hc0 hs
      by_cases s1 : s < 0
      · go_wp2
        go_ret
        exact ⟨rfl, H.out.chg.below⟩
      by_cases s2 : 100 < s
      · go_wp2
        go_ret
        exact ⟨rfl, H.out.chg.below⟩
      obtain ⟨m, rfl⟩ : ∃ m : Nat, s = (m : Int) := ⟨s.toNat, by omega⟩
      have hm1 : Mem.Aside (m ≤ 100) := ⟨by omega⟩
      go_upto_region 14 with (at_make; refine wpList_make1 (z := .int .u64 0) rfl _ _ rfl Try.underlying58 elemU64 rfl m rfl rfl (by have := hm1.out; omega) (by have := hm1.out; omega) ?_; intro w3 hb3 hc3 hs3; have H3 := Mem.Aside.mk (And.intro hb3 (And.intro hc3 hs3)); clear hb3 hc3 hs3)
      generalize hW4 : w3.alloc _ = W4
      have hm100 := hm1.out
      have hc4 : Chg [] wr W4 := by rw [← hW4]; exact H3.out.2.1.alloc _
      have hc4d : Chg [] wr W4.drew := hc4.then (Chg.of_below (F := []) (Below.drew (Below.refl _ _))) (by simp)
      have hT4 := H.out.same hc4d
      obtain ⟨rv, W5, hrun, hrow, hch5, hown5⟩ := app64 (w := W4.drew) (W := (W4.alloc (.cells #[] 22)).drew) rfl hT4.rx (by have := HL.out.2.1; simp [hwL]; omega)
      have hwz : Row W4 22 1 (.slice (some ⟨wr.heap.size, 0, none⟩) m m) m (u64V (List.replicate m 0)) := by
        rw [u64V_zero, ← hW4]
        exact (Row.mk (rest := []) (by rw [List.append_nil]; exact H3.out.1) (by simp) (Nat.le_refl _) (by omega) (by simp) : Row w3 22 1 (.slice (some ⟨wr.heap.size, 0, none⟩) m m) m (List.replicate m (.int .u64 0))).alloc _
      have CPA := Mem.Aside.mk (Two.put_a (k := m) H.out (hc4d.then hch5 (by simp)) (by omega) ((hwz.chg (Chg.of_below (F := []) (Below.drew (Below.refl _ _))) (by simp)).chg hch5 (by simp)) (fun g hg => by cases hg; exact Nat.le_refl _) hrow (by have := HL.out.2.1; omega))
      have HRUN := Mem.Aside.mk hrun
      obtain ⟨b, hb⟩ : ∃ b, b = w3.heap.size := ⟨_, rfl⟩
      have hB4 : Blk W4 b 60 [.int .i64 9, .bool false, .int .i64 0, .string { data := #[] }, .slice none 0 0, .slice (some ⟨wr.heap.size, 0, none⟩) m m, .int .u64 0, .int .i64 0, .int .i64 0] := by rw [hb, ← hW4]; exact Blk.newL [.int .i64 9, .bool false, .int .i64 0, .string { data := #[] }, .slice none 0 0, .slice (some ⟨wr.heap.size, 0, none⟩) m m, .int .u64 0, .int .i64 0, .int .i64 0] rfl
      have hB4a : Blk (W4.alloc (.cells #[] 22)) b 60 [.int .i64 9, .bool false, .int .i64 0, .string { data := #[] }, .slice none 0 0, .slice (some ⟨wr.heap.size, 0, none⟩) m m, .int .u64 0, .int .i64 0, .int .i64 0] := hB4.alloc _
      have hB5 : Blk W5 b 60 [.int .i64 9, .bool false, .int .i64 0, .string { data := #[] }, .slice none 0 0, .slice (some ⟨wr.heap.size, 0, none⟩) m m, .int .u64 0, .int .i64 0, .int .i64 0] := (hB4.chg (w' := W4.drew) (Chg.of_below (F := []) (Below.drew (Below.refl _ _))) (by simp)).chg hch5 (by simp)
      have b40 := hB4.cellAt (i := 0) rfl
      have b41 := hB4.cellAt (i := 1) rfl
      have b42 := hB4.cellAt (i := 2) rfl
      have b43 := hB4.cellAt (i := 3) rfl
      have b44 := hB4.cellAt (i := 4) rfl
      have b45 := hB4.cellAt (i := 5) rfl
      have b46 := hB4.cellAt (i := 6) rfl
      have b47 := hB4.cellAt (i := 7) rfl
      have b48 := hB4.cellAt (i := 8) rfl
      have a40 := hB4a.cellAt (i := 0) rfl
      have a41 := hB4a.cellAt (i := 1) rfl
      have a42 := hB4a.cellAt (i := 2) rfl
      have a43 := hB4a.cellAt (i := 3) rfl
      have a44 := hB4a.cellAt (i := 4) rfl
      have a45 := hB4a.cellAt (i := 5) rfl
      have a46 := hB4a.cellAt (i := 6) rfl
      have a47 := hB4a.cellAt (i := 7) rfl
      have a48 := hB4a.cellAt (i := 8) rfl
      have b50 := hB5.cellAt (i := 0) rfl
      have b51 := hB5.cellAt (i := 1) rfl
      have b52 := hB5.cellAt (i := 2) rfl
      have b53 := hB5.cellAt (i := 3) rfl
      have b54 := hB5.cellAt (i := 4) rfl
      have b55 := hB5.cellAt (i := 5) rfl
      have b56 := hB5.cellAt (i := 6) rfl
      have b57 := hB5.cellAt (i := 7) rfl
      have b58 := hB5.cellAt (i := 8) rfl
      rw [← hb]
      have HB5 := Mem.Aside.mk hB5
      have HC5 := Mem.Aside.mk hch5
      have HC4 := Mem.Aside.mk hc4d
      have HBB := Mem.Aside.mk hb
      clear hrun hrow hch5 hown5 hwz hT4 hc4 hc4d hB4 hB4a hB5 hW4 hb hm100
      go_cut [15, 16] from 54 to 137 (fun s15 s16 wx => ∃ (ha : Nat) (er : Int), s15 = .int .u64 (ha : Int) ∧ s16 = .int .i64 er ∧ Mem.Aside ((er = 0 ∧ sumL La + (1 + m) ≤ k ∧ ∃ n, ha = hw n ∧ Two w pa pb k wx u11 u12 La Lb (La ++ [(n, m)]) Lb) ∨ (er = 40 ∧ ha = 0 ∧ k < sumL La + (1 + m) ∧ Two w pa pb k wx u11 u12 La Lb La Lb)))
      case first =>
        go_region_law (first
          | (refine step_builtin2 _ rfl .append _ _ _ rfl _ _ rfl rfl _ _ (HRUN.out _) ?_)
          | (go_simp; go_at_call 39; (with_reducible refine CPA.out.mono ?_); intro e w6 hp; obtain ⟨ha, er, rfl, hpa⟩ : ∃ (ha : Nat) (er : Int), e = .returned (.tuple #[.int .u64 (ha : Int), .int .i64 er]) ∧ Mem.Aside ((er = 0 ∧ sumL La + (1 + m) ≤ k ∧ ∃ n, ha = hw n ∧ Two w pa pb k w6 u11 u12 La Lb (La ++ [(n, m)]) Lb) ∨ (er = 40 ∧ ha = 0 ∧ k < sumL La + (1 + m) ∧ Two w pa pb k w6 u11 u12 La Lb La Lb)) := (by
              rcases hp with ⟨h1, n, h2, h3⟩ | ⟨h1, h2, h3⟩
              · exact ⟨hw n, 0, h2, ⟨.inl ⟨rfl, h1, n, rfl, h3⟩⟩⟩
              · exact ⟨0, 40, h2, ⟨.inr ⟨rfl, rfl, h1, h3⟩⟩⟩); clear hp))
        all_goals go_wp2_with fail
        all_goals go_meet
        all_goals exact ⟨ha, er, rfl, rfl, hpa⟩
      case rest =>
        obtain ⟨ha, er, rfl, rfl, hpa⟩ := hcut
        obtain ⟨Xa, HX, HXA⟩ : ∃ Xa, Mem.Aside (Two w pa pb k wc u11 u12 La Lb Xa Lb) ∧ Mem.Aside ((er = 0 ∧ sumL La + (1 + m) ≤ k ∧ ∃ n, ha = hw n ∧ Xa = La ++ [(n, m)]) ∨ (er = 40 ∧ k < sumL La + (1 + m) ∧ Xa = La)) := by
          rcases hpa.out with ⟨e1, e2, n, e3, h⟩ | ⟨e1, _, e2, h⟩
          · exact ⟨_, ⟨h⟩, ⟨.inl ⟨e1, e2, n, e3, rfl⟩⟩⟩
          · exact ⟨_, ⟨h⟩, ⟨.inr ⟨e1, e2, rfl⟩⟩⟩
        have hcell2 : wc.cell? (a.add j) = some (.int .i64 (m : Int)) := cell_chg HX.out.chg HC0.out (by simp)
        have J0 : Mem.Aside (Mades wc wc.drew m (hwL Lb) none none none) := ⟨Mades.start (Chg.refl [] wc).drew⟩
        go_upto_region 15 with fail
        go_cut [17, 18] from 54 to 137 (fun s17 s18 wx => ∃ (hb : Nat) (er2 : Int), s17 = .int .u64 (hb : Int) ∧ s18 = .int .i64 er2 ∧ Mem.Aside ((er2 = 0 ∧ sumL Lb + (1 + m) ≤ k ∧ ∃ n, hb = hw n ∧ Two w pa pb k wx u11 u12 La Lb Xa (Lb ++ [(n, m)])) ∨ (er2 = 40 ∧ hb = 0 ∧ k < sumL Lb + (1 + m) ∧ Two w pa pb k wx u11 u12 La Lb Xa Lb)))
        case first =>
          refine wp_region_any (by kernel_rfl) ?_
          change wpAny _ _ _ _ _ _ _ (World.drew _)
          have J := J0
          clear J0
          generalize wc.drew = W0 at J ⊢
          refine wpAny_take (i := 0) (v := .pointer (some ⟨pb, 0, none⟩)) rfl (by kernel_rfl) (by kernel_rfl) (by kernel_rfl) (fun _ _ _ h => h) (Or.inl ⟨by rfl, ?_⟩) ?_
          · intro w; go_simp
          refine wpAny_take (i := 1) (v := .slice (some a) S.length cS) rfl (by kernel_rfl) (by kernel_rfl) (by kernel_rfl) (fun _ _ _ h => h) (Or.inl ⟨by rfl, ?_⟩) ?_
          · intro w; go_simp
          refine wpAny_take (i := 2) (v := .int .i64 (j : Int)) rfl (by kernel_rfl) (by kernel_rfl) (by kernel_rfl) (fun _ _ _ h => h) (Or.inl ⟨by rfl, ?_⟩) ?_
          · intro w; go_simp
          refine wpAny_take (i := 8) (v := u12) rfl (by kernel_rfl) (by kernel_rfl) (by kernel_rfl) (fun _ _ _ h => h) (Or.inl ⟨by rfl, ?_⟩) ?_
          · intro w; go_simp
          refine wpAny_take (i := 3) (v := .pointer (some (a.add j))) rfl (by kernel_rfl) (by kernel_rfl) (by kernel_rfl) (fun _ _ _ h => h) (Or.inl ⟨by rfl, ?_⟩) ?_
          · intro w; go_simp
          refine wpAny_ready (rs := [4, 7]) (by kernel_rfl) (by simp) ?_
          refine (AllReady.cons rfl (fun K hK => ?_) (AllReady.cons rfl (fun K hK => ?_) AllReady.nil))
          · have hq := cell_chg J.out.chg hcell2 (by simp)
            go_simp
            refine hK _ _ ?_
            clear hK K hq
            refine wpAny_ready (rs := [5, 7]) (by kernel_rfl) (by simp) ?_
            refine (AllReady.cons rfl (fun K hK => ?_) (AllReady.cons rfl (fun K hK => ?_) AllReady.nil))
            · refine step_make1g (z := .int .u64 0) rfl _ _ rfl Try.underlying58 elemU64 rfl m rfl rfl (by have := hm1.out; omega) (by have := hm1.out; omega) ?_
              intro w3 gm hg3 hb3 hc3
              replace J := Mem.Aside.mk (J.out.make hg3 hb3 hc3)
              refine hK _ _ ?_
              clear hK K hg3 hb3 hc3
              refine wpAny_take (i := 6) (v := .agg #[.int .i64 9, .bool false, .int .i64 0, .string { data := #[] }, .slice none 0 0, .slice (some ⟨gm, 0, none⟩) m m, .int .u64 0, .int .i64 0, .int .i64 0]) rfl (by kernel_rfl) (by kernel_rfl) (by kernel_rfl) (fun _ _ _ h => h) (Or.inl ⟨by rfl, ?_⟩) ?_
              · intro w; go_simp
              refine wpAny_ready (rs := [7]) (by kernel_rfl) (by simp) ?_
              refine (AllReady.cons rfl (fun K hK => ?_) AllReady.nil)
              · go_simp
                refine hK _ _ ?_
                clear hK K
                replace J := Mem.Aside.mk J.out.lit
                refine wpAny_ready (rs := [9]) (by kernel_rfl) (by simp) ?_
                refine (AllReady.cons rfl (fun K hK => ?_) AllReady.nil)
                · obtain ⟨rv, w4, hrun, hJ⟩ := J.out.copy HX.out.ry (by have := HL.out.2.2; simp [hwL]; omega)
                  replace J := Mem.Aside.mk hJ
                  refine step_builtin2 _ rfl .append _ _ _ rfl _ _ rfl rfl _ _ (hrun _) ?_
                  refine hK _ _ ?_
                  clear hK K hrun hJ
                  refine wpAny_ready (rs := [10]) (by kernel_rfl) (by simp) ?_
                  refine AllReady.cons rfl (fun K hK => ?_) AllReady.nil
                  have CPB := Mem.Aside.mk (Two.put_b HX.out J.out hm1.out (by have := HL.out.2.2; omega))
                  go_simp
                  go_at_call 39
                  (with_reducible refine CPB.out.mono ?_)
                  intro e w6 hp
                  clear CPB
                  obtain ⟨hb, er2, rfl, hpb⟩ := put_cases hp
                  refine hK _ _ ?_
                  clear hK K hp
                  refine wpAny_take (i := 11) (v := .tuple #[.int .u64 (hb : Int), .int .i64 er2]) rfl (by kernel_rfl) (by kernel_rfl) (by kernel_rfl) (fun _ _ _ h => h) (Or.inl ⟨by rfl, ?_⟩) ?_
                  · intro w; go_simp
                  refine wpAny_take (i := 12) (v := .int .u64 (hb : Int)) rfl (by kernel_rfl) (by kernel_rfl) (by kernel_rfl) (fun _ _ _ h => h) (Or.inl ⟨by rfl, ?_⟩) ?_
                  · intro w; go_simp
                  refine wpAny_take (i := 13) (v := .int .i64 er2) rfl (by kernel_rfl) (by kernel_rfl) (by kernel_rfl) (fun _ _ _ h => h) (Or.inl ⟨by rfl, ?_⟩) ?_
                  · intro w; go_simp
                  refine wpAny_take (i := 14) (v := .int .u64 (hb : Int)) rfl (by kernel_rfl) (by kernel_rfl) (by kernel_rfl) (fun _ _ _ h => h) (Or.inl ⟨by rfl, ?_⟩) ?_
                  · intro w; go_simp
                  refine wpAny_take (i := 15) (v := .int .i64 er2) rfl (by kernel_rfl) (by kernel_rfl) (by kernel_rfl) (fun _ _ _ h => h) (Or.inl ⟨by rfl, ?_⟩) ?_
                  · intro w; go_simp
                  refine wpAny_done (by kernel_rfl) ?_ _
                  go_wp2_with fail
                  go_meet
                  exact ⟨hb, er2, rfl, rfl, hpb⟩
            · go_simp
              refine hK _ _ ?_
              clear hK K
              replace J := Mem.Aside.mk J.out.lit
              refine wpAny_ready (rs := [5, 9]) (by kernel_rfl) (by simp) ?_
              refine (AllReady.cons rfl (fun K hK => ?_) (AllReady.cons rfl (fun K hK => ?_) AllReady.nil))
              · refine step_make1g (z := .int .u64 0) rfl _ _ rfl Try.underlying58 elemU64 rfl m rfl rfl (by have := hm1.out; omega) (by have := hm1.out; omega) ?_
                intro w3 gm hg3 hb3 hc3
                replace J := Mem.Aside.mk (J.out.make hg3 hb3 hc3)
                refine hK _ _ ?_
                clear hK K hg3 hb3 hc3
                refine wpAny_take (i := 6) (v := .agg #[.int .i64 9, .bool false, .int .i64 0, .string { data := #[] }, .slice none 0 0, .slice (some ⟨gm, 0, none⟩) m m, .int .u64 0, .int .i64 0, .int .i64 0]) rfl (by kernel_rfl) (by kernel_rfl) (by kernel_rfl) (fun _ _ _ h => h) (Or.inl ⟨by rfl, ?_⟩) ?_
                · intro w; go_simp
                refine wpAny_ready (rs := [9]) (by kernel_rfl) (by simp) ?_
                refine (AllReady.cons rfl (fun K hK => ?_) AllReady.nil)
                · obtain ⟨rv, w4, hrun, hJ⟩ := J.out.copy HX.out.ry (by have := HL.out.2.2; simp [hwL]; omega)
                  replace J := Mem.Aside.mk hJ
                  refine step_builtin2 _ rfl .append _ _ _ rfl _ _ rfl rfl _ _ (hrun _) ?_
                  refine hK _ _ ?_
                  clear hK K hrun hJ
                  refine wpAny_ready (rs := [10]) (by kernel_rfl) (by simp) ?_
                  refine AllReady.cons rfl (fun K hK => ?_) AllReady.nil
                  have CPB := Mem.Aside.mk (Two.put_b HX.out J.out hm1.out (by have := HL.out.2.2; omega))
                  go_simp
                  go_at_call 39
                  (with_reducible refine CPB.out.mono ?_)
                  intro e w6 hp
                  clear CPB
                  obtain ⟨hb, er2, rfl, hpb⟩ := put_cases hp
                  refine hK _ _ ?_
                  clear hK K hp
                  refine wpAny_take (i := 11) (v := .tuple #[.int .u64 (hb : Int), .int .i64 er2]) rfl (by kernel_rfl) (by kernel_rfl) (by kernel_rfl) (fun _ _ _ h => h) (Or.inl ⟨by rfl, ?_⟩) ?_
                  · intro w; go_simp
                  refine wpAny_take (i := 12) (v := .int .u64 (hb : Int)) rfl (by kernel_rfl) (by kernel_rfl) (by kernel_rfl) (fun _ _ _ h => h) (Or.inl ⟨by rfl, ?_⟩) ?_
                  · intro w; go_simp
                  refine wpAny_take (i := 13) (v := .int .i64 er2) rfl (by kernel_rfl) (by kernel_rfl) (by kernel_rfl) (fun _ _ _ h => h) (Or.inl ⟨by rfl, ?_⟩) ?_
                  · intro w; go_simp
                  refine wpAny_take (i := 14) (v := .int .u64 (hb : Int)) rfl (by kernel_rfl) (by kernel_rfl) (by kernel_rfl) (fun _ _ _ h => h) (Or.inl ⟨by rfl, ?_⟩) ?_
                  · intro w; go_simp
                  refine wpAny_take (i := 15) (v := .int .i64 er2) rfl (by kernel_rfl) (by kernel_rfl) (by kernel_rfl) (fun _ _ _ h => h) (Or.inl ⟨by rfl, ?_⟩) ?_
                  · intro w; go_simp
                  refine wpAny_done (by kernel_rfl) ?_ _
                  go_wp2_with fail
                  go_meet
                  exact ⟨hb, er2, rfl, rfl, hpb⟩
              · obtain ⟨rv, w4, hrun, hJ⟩ := J.out.copy HX.out.ry (by have := HL.out.2.2; simp [hwL]; omega)
                replace J := Mem.Aside.mk hJ
                refine step_builtin2 _ rfl .append _ _ _ rfl _ _ rfl rfl _ _ (hrun _) ?_
                refine hK _ _ ?_
                clear hK K hrun hJ
                refine wpAny_ready (rs := [5]) (by kernel_rfl) (by simp) ?_
                refine (AllReady.cons rfl (fun K hK => ?_) AllReady.nil)
                · refine step_make1g (z := .int .u64 0) rfl _ _ rfl Try.underlying58 elemU64 rfl m rfl rfl (by have := hm1.out; omega) (by have := hm1.out; omega) ?_
                  intro w3 gm hg3 hb3 hc3
                  replace J := Mem.Aside.mk (J.out.make hg3 hb3 hc3)
                  refine hK _ _ ?_
                  clear hK K hg3 hb3 hc3
                  refine wpAny_take (i := 6) (v := .agg #[.int .i64 9, .bool false, .int .i64 0, .string { data := #[] }, .slice none 0 0, .slice (some ⟨gm, 0, none⟩) m m, .int .u64 0, .int .i64 0, .int .i64 0]) rfl (by kernel_rfl) (by kernel_rfl) (by kernel_rfl) (fun _ _ _ h => h) (Or.inl ⟨by rfl, ?_⟩) ?_
                  · intro w; go_simp
                  refine wpAny_ready (rs := [10]) (by kernel_rfl) (by simp) ?_
                  refine AllReady.cons rfl (fun K hK => ?_) AllReady.nil
                  have CPB := Mem.Aside.mk (Two.put_b HX.out J.out hm1.out (by have := HL.out.2.2; omega))
                  go_simp
                  go_at_call 39
                  (with_reducible refine CPB.out.mono ?_)
                  intro e w6 hp
                  clear CPB
                  obtain ⟨hb, er2, rfl, hpb⟩ := put_cases hp
                  refine hK _ _ ?_
                  clear hK K hp
                  refine wpAny_take (i := 11) (v := .tuple #[.int .u64 (hb : Int), .int .i64 er2]) rfl (by kernel_rfl) (by kernel_rfl) (by kernel_rfl) (fun _ _ _ h => h) (Or.inl ⟨by rfl, ?_⟩) ?_
                  · intro w; go_simp
                  refine wpAny_take (i := 12) (v := .int .u64 (hb : Int)) rfl (by kernel_rfl) (by kernel_rfl) (by kernel_rfl) (fun _ _ _ h => h) (Or.inl ⟨by rfl, ?_⟩) ?_
                  · intro w; go_simp
                  refine wpAny_take (i := 13) (v := .int .i64 er2) rfl (by kernel_rfl) (by kernel_rfl) (by kernel_rfl) (fun _ _ _ h => h) (Or.inl ⟨by rfl, ?_⟩) ?_
                  · intro w; go_simp
                  refine wpAny_take (i := 14) (v := .int .u64 (hb : Int)) rfl (by kernel_rfl) (by kernel_rfl) (by kernel_rfl) (fun _ _ _ h => h) (Or.inl ⟨by rfl, ?_⟩) ?_
                  · intro w; go_simp
                  refine wpAny_take (i := 15) (v := .int .i64 er2) rfl (by kernel_rfl) (by kernel_rfl) (by kernel_rfl) (fun _ _ _ h => h) (Or.inl ⟨by rfl, ?_⟩) ?_
                  · intro w; go_simp
                  refine wpAny_done (by kernel_rfl) ?_ _
                  go_wp2_with fail
                  go_meet
                  exact ⟨hb, er2, rfl, rfl, hpb⟩
          · go_simp
            refine hK _ _ ?_
            clear hK K
            replace J := Mem.Aside.mk J.out.lit
            refine wpAny_ready (rs := [4, 9]) (by kernel_rfl) (by simp) ?_
            refine (AllReady.cons rfl (fun K hK => ?_) (AllReady.cons rfl (fun K hK => ?_) AllReady.nil))
            · have hq := cell_chg J.out.chg hcell2 (by simp)
              go_simp
              refine hK _ _ ?_
              clear hK K hq
              refine wpAny_ready (rs := [5, 9]) (by kernel_rfl) (by simp) ?_
              refine (AllReady.cons rfl (fun K hK => ?_) (AllReady.cons rfl (fun K hK => ?_) AllReady.nil))
              · refine step_make1g (z := .int .u64 0) rfl _ _ rfl Try.underlying58 elemU64 rfl m rfl rfl (by have := hm1.out; omega) (by have := hm1.out; omega) ?_
                intro w3 gm hg3 hb3 hc3
                replace J := Mem.Aside.mk (J.out.make hg3 hb3 hc3)
                refine hK _ _ ?_
                clear hK K hg3 hb3 hc3
                refine wpAny_take (i := 6) (v := .agg #[.int .i64 9, .bool false, .int .i64 0, .string { data := #[] }, .slice none 0 0, .slice (some ⟨gm, 0, none⟩) m m, .int .u64 0, .int .i64 0, .int .i64 0]) rfl (by kernel_rfl) (by kernel_rfl) (by kernel_rfl) (fun _ _ _ h => h) (Or.inl ⟨by rfl, ?_⟩) ?_
                · intro w; go_simp
                refine wpAny_ready (rs := [9]) (by kernel_rfl) (by simp) ?_
                refine (AllReady.cons rfl (fun K hK => ?_) AllReady.nil)
                · obtain ⟨rv, w4, hrun, hJ⟩ := J.out.copy HX.out.ry (by have := HL.out.2.2; simp [hwL]; omega)
                  replace J := Mem.Aside.mk hJ
                  refine step_builtin2 _ rfl .append _ _ _ rfl _ _ rfl rfl _ _ (hrun _) ?_
                  refine hK _ _ ?_
                  clear hK K hrun hJ
                  refine wpAny_ready (rs := [10]) (by kernel_rfl) (by simp) ?_
                  refine AllReady.cons rfl (fun K hK => ?_) AllReady.nil
                  have CPB := Mem.Aside.mk (Two.put_b HX.out J.out hm1.out (by have := HL.out.2.2; omega))
                  go_simp
                  go_at_call 39
                  (with_reducible refine CPB.out.mono ?_)
                  intro e w6 hp
                  clear CPB
                  obtain ⟨hb, er2, rfl, hpb⟩ := put_cases hp
                  refine hK _ _ ?_
                  clear hK K hp
                  refine wpAny_take (i := 11) (v := .tuple #[.int .u64 (hb : Int), .int .i64 er2]) rfl (by kernel_rfl) (by kernel_rfl) (by kernel_rfl) (fun _ _ _ h => h) (Or.inl ⟨by rfl, ?_⟩) ?_
                  · intro w; go_simp
                  refine wpAny_take (i := 12) (v := .int .u64 (hb : Int)) rfl (by kernel_rfl) (by kernel_rfl) (by kernel_rfl) (fun _ _ _ h => h) (Or.inl ⟨by rfl, ?_⟩) ?_
                  · intro w; go_simp
                  refine wpAny_take (i := 13) (v := .int .i64 er2) rfl (by kernel_rfl) (by kernel_rfl) (by kernel_rfl) (fun _ _ _ h => h) (Or.inl ⟨by rfl, ?_⟩) ?_
                  · intro w; go_simp
                  refine wpAny_take (i := 14) (v := .int .u64 (hb : Int)) rfl (by kernel_rfl) (by kernel_rfl) (by kernel_rfl) (fun _ _ _ h => h) (Or.inl ⟨by rfl, ?_⟩) ?_
                  · intro w; go_simp
                  refine wpAny_take (i := 15) (v := .int .i64 er2) rfl (by kernel_rfl) (by kernel_rfl) (by kernel_rfl) (fun _ _ _ h => h) (Or.inl ⟨by rfl, ?_⟩) ?_
                  · intro w; go_simp
                  refine wpAny_done (by kernel_rfl) ?_ _
                  go_wp2_with fail
                  go_meet
                  exact ⟨hb, er2, rfl, rfl, hpb⟩
              · obtain ⟨rv, w4, hrun, hJ⟩ := J.out.copy HX.out.ry (by have := HL.out.2.2; simp [hwL]; omega)
                replace J := Mem.Aside.mk hJ
                refine step_builtin2 _ rfl .append _ _ _ rfl _ _ rfl rfl _ _ (hrun _) ?_
                refine hK _ _ ?_
                clear hK K hrun hJ
                refine wpAny_ready (rs := [5]) (by kernel_rfl) (by simp) ?_
                refine (AllReady.cons rfl (fun K hK => ?_) AllReady.nil)
                · refine step_make1g (z := .int .u64 0) rfl _ _ rfl Try.underlying58 elemU64 rfl m rfl rfl (by have := hm1.out; omega) (by have := hm1.out; omega) ?_
                  intro w3 gm hg3 hb3 hc3
                  replace J := Mem.Aside.mk (J.out.make hg3 hb3 hc3)
                  refine hK _ _ ?_
                  clear hK K hg3 hb3 hc3
                  refine wpAny_take (i := 6) (v := .agg #[.int .i64 9, .bool false, .int .i64 0, .string { data := #[] }, .slice none 0 0, .slice (some ⟨gm, 0, none⟩) m m, .int .u64 0, .int .i64 0, .int .i64 0]) rfl (by kernel_rfl) (by kernel_rfl) (by kernel_rfl) (fun _ _ _ h => h) (Or.inl ⟨by rfl, ?_⟩) ?_
                  · intro w; go_simp
                  refine wpAny_ready (rs := [10]) (by kernel_rfl) (by simp) ?_
                  refine AllReady.cons rfl (fun K hK => ?_) AllReady.nil
                  have CPB := Mem.Aside.mk (Two.put_b HX.out J.out hm1.out (by have := HL.out.2.2; omega))
                  go_simp
                  go_at_call 39
                  (with_reducible refine CPB.out.mono ?_)
                  intro e w6 hp
                  clear CPB
                  obtain ⟨hb, er2, rfl, hpb⟩ := put_cases hp
                  refine hK _ _ ?_
                  clear hK K hp
                  refine wpAny_take (i := 11) (v := .tuple #[.int .u64 (hb : Int), .int .i64 er2]) rfl (by kernel_rfl) (by kernel_rfl) (by kernel_rfl) (fun _ _ _ h => h) (Or.inl ⟨by rfl, ?_⟩) ?_
                  · intro w; go_simp
                  refine wpAny_take (i := 12) (v := .int .u64 (hb : Int)) rfl (by kernel_rfl) (by kernel_rfl) (by kernel_rfl) (fun _ _ _ h => h) (Or.inl ⟨by rfl, ?_⟩) ?_
                  · intro w; go_simp
                  refine wpAny_take (i := 13) (v := .int .i64 er2) rfl (by kernel_rfl) (by kernel_rfl) (by kernel_rfl) (fun _ _ _ h => h) (Or.inl ⟨by rfl, ?_⟩) ?_
                  · intro w; go_simp
                  refine wpAny_take (i := 14) (v := .int .u64 (hb : Int)) rfl (by kernel_rfl) (by kernel_rfl) (by kernel_rfl) (fun _ _ _ h => h) (Or.inl ⟨by rfl, ?_⟩) ?_
                  · intro w; go_simp
                  refine wpAny_take (i := 15) (v := .int .i64 er2) rfl (by kernel_rfl) (by kernel_rfl) (by kernel_rfl) (fun _ _ _ h => h) (Or.inl ⟨by rfl, ?_⟩) ?_
                  · intro w; go_simp
                  refine wpAny_done (by kernel_rfl) ?_ _
                  go_wp2_with fail
                  go_meet
                  exact ⟨hb, er2, rfl, rfl, hpb⟩
            · obtain ⟨rv, w4, hrun, hJ⟩ := J.out.copy HX.out.ry (by have := HL.out.2.2; simp [hwL]; omega)
              replace J := Mem.Aside.mk hJ
              refine step_builtin2 _ rfl .append _ _ _ rfl _ _ rfl rfl _ _ (hrun _) ?_
              refine hK _ _ ?_
              clear hK K hrun hJ
              refine wpAny_ready (rs := [4]) (by kernel_rfl) (by simp) ?_
              refine (AllReady.cons rfl (fun K hK => ?_) AllReady.nil)
              · have hq := cell_chg J.out.chg hcell2 (by simp)
                go_simp
                refine hK _ _ ?_
                clear hK K hq
                refine wpAny_ready (rs := [5]) (by kernel_rfl) (by simp) ?_
                refine (AllReady.cons rfl (fun K hK => ?_) AllReady.nil)
                · refine step_make1g (z := .int .u64 0) rfl _ _ rfl Try.underlying58 elemU64 rfl m rfl rfl (by have := hm1.out; omega) (by have := hm1.out; omega) ?_
                  intro w3 gm hg3 hb3 hc3
                  replace J := Mem.Aside.mk (J.out.make hg3 hb3 hc3)
                  refine hK _ _ ?_
                  clear hK K hg3 hb3 hc3
                  refine wpAny_take (i := 6) (v := .agg #[.int .i64 9, .bool false, .int .i64 0, .string { data := #[] }, .slice none 0 0, .slice (some ⟨gm, 0, none⟩) m m, .int .u64 0, .int .i64 0, .int .i64 0]) rfl (by kernel_rfl) (by kernel_rfl) (by kernel_rfl) (fun _ _ _ h => h) (Or.inl ⟨by rfl, ?_⟩) ?_
                  · intro w; go_simp
                  refine wpAny_ready (rs := [10]) (by kernel_rfl) (by simp) ?_
                  refine AllReady.cons rfl (fun K hK => ?_) AllReady.nil
                  have CPB := Mem.Aside.mk (Two.put_b HX.out J.out hm1.out (by have := HL.out.2.2; omega))
                  go_simp
                  go_at_call 39
                  (with_reducible refine CPB.out.mono ?_)
                  intro e w6 hp
                  clear CPB
                  obtain ⟨hb, er2, rfl, hpb⟩ := put_cases hp
                  refine hK _ _ ?_
                  clear hK K hp
                  refine wpAny_take (i := 11) (v := .tuple #[.int .u64 (hb : Int), .int .i64 er2]) rfl (by kernel_rfl) (by kernel_rfl) (by kernel_rfl) (fun _ _ _ h => h) (Or.inl ⟨by rfl, ?_⟩) ?_
                  · intro w; go_simp
                  refine wpAny_take (i := 12) (v := .int .u64 (hb : Int)) rfl (by kernel_rfl) (by kernel_rfl) (by kernel_rfl) (fun _ _ _ h => h) (Or.inl ⟨by rfl, ?_⟩) ?_
                  · intro w; go_simp
                  refine wpAny_take (i := 13) (v := .int .i64 er2) rfl (by kernel_rfl) (by kernel_rfl) (by kernel_rfl) (fun _ _ _ h => h) (Or.inl ⟨by rfl, ?_⟩) ?_
                  · intro w; go_simp
                  refine wpAny_take (i := 14) (v := .int .u64 (hb : Int)) rfl (by kernel_rfl) (by kernel_rfl) (by kernel_rfl) (fun _ _ _ h => h) (Or.inl ⟨by rfl, ?_⟩) ?_
                  · intro w; go_simp
                  refine wpAny_take (i := 15) (v := .int .i64 er2) rfl (by kernel_rfl) (by kernel_rfl) (by kernel_rfl) (fun _ _ _ h => h) (Or.inl ⟨by rfl, ?_⟩) ?_
                  · intro w; go_simp
                  refine wpAny_done (by kernel_rfl) ?_ _
                  go_wp2_with fail
                  go_meet
                  exact ⟨hb, er2, rfl, rfl, hpb⟩
        case rest =>
          obtain ⟨hb, er2, rfl, rfl, hpb⟩ := hcut
          have HS1 := Mem.Aside.mk (sumL_eq HL.out.1)
          obtain rfl : er = er2 := by
            have := HS1.out
            rcases HXA.out with ⟨e1, e2, _⟩ | ⟨e1, e2, _⟩ <;> rcases hpb.out with ⟨f1, f2, _⟩ | ⟨f1, _, f2, _⟩ <;> omega
          have HOUT : Mem.Aside ((er = 0 ∧ ∃ n n', ha = hw n ∧ hb = hw n' ∧ Two w pa pb k wc u11 u12 La Lb (La ++ [(n, m)]) (Lb ++ [(n', m)])) ∨ (er = 40 ∧ Two w pa pb k wc u11 u12 La Lb La Lb)) := ⟨by
            have := HS1.out
            rcases HXA.out with ⟨e1, e2, n, e3, e4⟩ | ⟨e1, e2, e4⟩ <;> rcases hpb.out with ⟨f1, f2, n', f3, f4⟩ | ⟨f1, f3, f2, f4⟩
            · exact .inl ⟨e1, n, n', e3, f3, e4 ▸ f4⟩
            · omega
            · omega
            · exact .inr ⟨e1, e4 ▸ f4⟩⟩
          clear hpb hpa HX HXA
          go_upto_region 18 with fail
          go_cut [117] from 54 to 137 (fun s117 wx => ∃ bb : Bool, s117 = .bool bb ∧ wx = wc ∧ (bb = true → er = 0))
          case first =>
            rcases HOUT.out with ⟨rfl, n, n', rfl, rfl, HT2⟩ | ⟨rfl, HT2⟩
            · by_cases ck : j < K.length
              · have ck' : (j : Int) < (K.length : Int) := by omega
                obtain ⟨ak, rfl, hck0⟩ := HKP.out.cell j ck
                have hck := cell_chg HT2.chg hck0 (by simp)
                obtain ⟨kb, hkb⟩ : ∃ kb, kb = K.getD j false := ⟨_, rfl⟩
                rw [← hkb] at hck
                clear hkb hck0 HT2 HOUT
                go_wp2_with fail
                go_meet
                exact ⟨kb, rfl, rfl, fun _ => trivial⟩
              · have ck' : ¬ (j : Int) < (K.length : Int) := by omega
                have ck2 : decide ((j : Int) < (K.length : Int)) = false := decide_eq_false ck'
                clear HT2 HOUT
                go_wp2_with fail
                go_meet
                exact ⟨false, rfl, rfl, fun _ => trivial⟩
            · clear HT2 HOUT
              go_wp2_with fail
              go_meet
              exact ⟨false, rfl, rfl, fun h => by cases h⟩
          case rest =>
          obtain ⟨bb, rfl, rfl, hbb⟩ := hcut
          have HBB := Mem.Aside.mk hbb
          clear hbb
          go_upto_if 117 with fail
          go_cut [11, 12] from 54 to 137 (fun x y wx => ∃ La' Lb', Mem.Aside (La'.map Prod.snd = Lb'.map Prod.snd ∧ La'.length ≤ j + 1 ∧ Lb'.length ≤ j + 1) ∧ Mem.Aside (Two w pa pb k wx x y La' Lb' La' Lb'))
          case first =>
            cases bb with
            | false =>
              obtain ⟨HT3⟩ : Nonempty (Mem.Aside (Two w pa pb k wc u11 u12 La Lb La Lb)) := ⟨⟨by
                rcases HOUT.out with ⟨_, n, n', _, _, HT2⟩ | ⟨_, HT2⟩
                · exact HT2.less.swap.less.swap
                · exact HT2⟩⟩
              clear HOUT
              go_wp2_with fail
              go_meet
              exact ⟨La, Lb, ⟨HL.out.1, by have := HL.out.2.1; omega, by have := HL.out.2.2; omega⟩, HT3⟩
            | true =>
              have her := HBB.out rfl
              subst her
              obtain ⟨n, n', rfl, rfl, HT2⟩ : ∃ n n', ha = hw n ∧ hb = hw n' ∧ Two w pa pb k wc u11 u12 La Lb (La ++ [(n, m)]) (Lb ++ [(n', m)]) := by
                rcases HOUT.out with ⟨_, h⟩ | ⟨h, _⟩
                · exact h
                · cases h
              have hxl := HL.out.2.1
              have hyl := HL.out.2.2
              obtain ⟨x1, w5, hr1, hrow1, hc1, ho1⟩ := app1 (w := wc) (W := wc.alloc (.cells #[.int .u64 (hw n : Nat)] 22)) rfl HT2.rx (by simp [hwL]; omega)
              have HT4 := HT2.keep_a hc1 hrow1 ho1
              obtain ⟨y1, w6, hr2, hrow2, hc2, ho2⟩ := app1 (w := w5) (W := w5.alloc (.cells #[.int .u64 (hw n' : Nat)] 22)) rfl HT4.ry (by simp [hwL]; omega)
              have HT5 := Mem.Aside.mk (HT4.swap.keep_a hc2 hrow2 ho2).swap
              have HR1 := Mem.Aside.mk hr1
              have HR2 := Mem.Aside.mk hr2
              clear HT2 HOUT hr1 hrow1 hc1 ho1 HT4 hr2 hrow2 hc2 ho2 hxl hyl
              go_wp2_with (first
                | (at_builtin; refine wpList_builtin2 _ (by rfl) .append _ _ _ (by rfl) _ _ (by rfl) (by rfl) _ _ (HR1.out _) ?_)
                | (at_builtin; refine wpList_builtin2 _ (by rfl) .append _ _ _ (by rfl) _ _ (by rfl) (by rfl) _ _ (HR2.out _) ?_))
              go_meet
              exact ⟨La ++ [(n, m)], Lb ++ [(n', m)], ⟨by simp [HL.out.1], by have := HL.out.2.1; simp; omega, by have := HL.out.2.2; simp; omega⟩, HT5⟩
          case rest =>
            obtain ⟨La', Lb', HL', HT3⟩ := hcut
            obtain ⟨rv2, W6, hrun6, hrow6, hch6, hown6⟩ := app64 (w := wc) (W := wc.alloc (.cells #[] 22)) rfl HT3.out.ry (by have := HL'.out.2.2; simp [hwL]; omega)
            have CCO := Mem.Aside.mk (HT3.out.swap.collect_a hch6 hrow6 (by have := HL'.out.2.2; omega))
            have HRUN6 := Mem.Aside.mk hrun6
            clear hrun6 hrow6 hch6 hown6
            go_upto_region 21 with (first
              | (at_builtin; refine wpList_builtin2 _ (by rfl) .append _ _ _ (by rfl) _ _ (by rfl) (by rfl) _ _ (HRUN6.out _) ?_)
              | (go_at_call 42; (with_reducible refine CCO.out.mono ?_); rintro e w7 ⟨rfl, hT7⟩; have HT7 := Mem.Aside.mk hT7.swap; clear hT7))
            have hla := HL'.out.2.1
            have hlb := HL'.out.2.2
            have CRA := Mem.Aside.mk (HT7.out.reach_a (by omega))
            have CRB := Mem.Aside.mk (fun (W8 : World) (hc : Chg [] w7 W8) => (HT7.out.same hc).swap.reach_a (by omega))
            rw [← sumL_eq HL'.out.1] at CRB
            clear hla hlb
            go_upto_region 10 with (go_at_call 40; first
              | ((with_reducible refine CRA.out.mono ?_); rintro e w8 ⟨rfl, hc8⟩; have HC8 := Mem.Aside.mk hc8; clear hc8)
              | ((with_reducible refine (CRB.out _ HC8.out).mono ?_); rintro e w9 ⟨rfl, hc9⟩; have HC9 := Mem.Aside.mk (HC8.out.then hc9 (by simp)); clear hc9))
            have HT9 := Mem.Aside.mk (HT7.out.same HC9.out)
            clear CRA CRB HRUN6 CCO
            go_wp2_with fail
            exact ⟨⟨j + 1, La', Lb', rfl, by omega, HL', HT9⟩, by simp [intOf]; omega⟩
    · have d' : decide ((j : Int) < (S.length : Int)) = false := decide_eq_false (by omega)
      go_wp2_with (go_at_call 37; (with_reducible refine (awake6_calls _).mono ?_); rintro e w11 ⟨rfl, hc11⟩; have HC11 := Mem.Aside.mk (H.out.chg.then hc11 (by simp)); clear hc11)
      go_ret
      exact ⟨rfl, HC11.out.below⟩
end Go.Proofs.Ytgimcpnelogadaa.Hp
