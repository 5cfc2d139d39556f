/- Chapter 5: StorePacks walks. -/
import Derived.Test.YtgimcpnelogadaaFillsP
import Derived.Test.YtgimcpnelogadaaPkA
import Derived.Test.YtgimcpnelogadaaMemF
import Derived.Test.YtgimcpnelogadaaStM
namespace Go.Proofs.Ytgimcpnelogadaa.Sto
open Go.RowKit Go.Proofs.Ytgimcpnelogadaa.Mem
set_option linter.unusedVariables false
set_option linter.unusedSimpArgs false
attribute [local go_sem] Oper.semAt_some

/-- What StorePacks keeps from round to round: q is what the store holds and the map tells. -/
structure Pk (w : World) (p mb k : Nat) (F : List Nat) (q : List (Nat × Nat)) (wr : World) : Prop where
  holds : Holds wr p F (packL q) (300 * k)
  map : ∃ f, IMap Try.prog 3 wr mb k f ∧ Tells f q
  nodup : (q.map Prod.fst).Nodup
  count : q.length ≤ k
  small : ∀ x ∈ q, x.1 < 60 ∧ x.2 ≤ 200
  chg : Chg [] w wr
  new : ∀ x ∈ F, w.heap.size ≤ x
  own : w.heap.size ≤ mb ∧ mb ∉ F

theorem Pk.keep {w wr w' : World} {p mb k : Nat} {F G : List Nat} {q : List (Nat × Nat)} (h : Pk w p mb k F q wr) (hc : Chg G wr w') (hG : ∀ x ∈ F, x ∉ G) (hmb : mb ∉ G) (hn : ∀ x ∈ G, w.heap.size ≤ x) : Pk w p mb k F q w' :=
  ⟨h.holds.chg hc hG, h.map.elim fun f hf => ⟨f, hf.1.chg hc hmb, hf.2⟩, h.nodup, h.count, h.small, h.chg.then hc (fun x hx => .inr (hn x hx)), h.new, h.own⟩
theorem Pk.turn {w wr w' : World} {p mb k : Nat} {F : List Nat} {q : List (Nat × Nat)} (h : Pk w p mb k F q wr) (hh : Holds w' p F (packL q) (300 * k)) (hc : Chg F wr w') : Pk w p mb k F q w' :=
  ⟨hh, h.map.elim fun f hf => ⟨f, hf.1.chg hc h.own.2, hf.2⟩, h.nodup, h.count, h.small, h.chg.then hc (fun x hx => .inr (h.new x hx)), h.new, h.own⟩

set_option maxHeartbeats 8000000 in
set_option maxRecDepth 100000 in
theorem packs_walk {w : World} {B C : Option Addr} {c d : Nat} {zs gs : List Int} (hB : Ints w B c zs) (hC : Ints w C d gs) :
    Calls Try.prog 7 #[.slice B zs.length c, .slice C gs.length d] w fun e w' => e = .returned (.bool true) ∧ Below w.heap.size w w' := by
  by_cases c1 : 60 < zs.length
  · have c1' : (60 : Int) < (zs.length : Int) := by omega
    go_enter Try.func7, Try.ntmps7
    go_wp2
    go_ret
    exact ⟨rfl, Below.refl _ _⟩
  have c1' : (zs.length : Int) ≤ 60 := by omega
  by_cases c2 : 60 < gs.length
  · have c2' : (60 : Int) < (gs.length : Int) := by omega
    go_enter Try.func7, Try.ntmps7
    go_wp2
    go_ret
    exact ⟨rfl, Below.refl _ _⟩
  have c2' : (gs.length : Int) ≤ 60 := by omega
  have c1'' : decide ((60 : Int) < (zs.length : Int)) = false := decide_eq_false (by omega)
  have c2'' : decide ((60 : Int) < (gs.length : Int)) = false := decide_eq_false (by omega)
  have HB := Mem.Aside.mk hB
  have HC := Mem.Aside.mk hC
  clear hB hC
  have CN := Mem.Aside.mk (new_holds w)
  have hmm := @run_makeMap Try.prog
  refine (callsIn_wide (n := 9)).1 ?_
  refine callsIn_of_wp_marks Try.func7 rfl trivial ?_ rfl
  refine wpIn_wide.2 ?_
  simp only [Try.ntmps7, List.size_toArray, List.length_cons, List.length_nil, Nat.reduceAdd, Nat.reduceSub, Array.replicate_succ, Array.replicate_zero, List.push_toArray, List.append_toArray, List.nil_append, List.cons_append]
  go_wp2_with (go_at_call 21; (with_reducible refine CN.out.mono ?_); rintro e w1 ⟨p, F, rfl, h1, hc1, hF⟩; have H1 := Mem.Aside.mk h1; have HC1 := Mem.Aside.mk hc1; have HF := Mem.Aside.mk hF; clear h1 hc1 hF)
  go_loopw [7] (fun i wr => ∃ (k : Nat) (F : List Nat) (q : List (Nat × Nat)), i = .int .i64 (k : Int) ∧ k ≤ zs.length ∧ Mem.Aside (Pk w p w1.heap.size k F q wr)) (fun i _ => zs.length - (intOf i).toNat)
  case atStart =>
    refine ⟨0, F, [], rfl, Nat.zero_le _, ⟨⟨H1.out.chg ((Chg.refl [] _).alloc _) (by simp), ⟨_, IMap.made _ _ _, Tells.nil⟩, .nil, Nat.le_refl _, by simp, HC1.out.alloc _, HF.out, HC1.out.size, fun hm => by have := H1.out.lt _ hm; omega⟩⟩⟩
  case round =>
    obtain ⟨k, Fk, q, rfl, hk, HK⟩ := hrel
    obtain ⟨mb, hmb⟩ : ∃ mb, mb = w1.heap.size := ⟨_, rfl⟩
    rw [← hmb] at HK ⊢
    clear hmb
    by_cases c : k < zs.length
    · obtain ⟨ab, rfl, hz⟩ := HB.out.get k c
      have hz' : wr.cell? (ab.add k) = some (.int .i64 zs[k]) := cell_chg HK.out.chg hz (by simp)
      obtain ⟨Z, hZ⟩ : ∃ Z, Z = zs[k] := ⟨_, rfl⟩
      rw [← hZ] at hz' hz
      have HZ := Mem.Aside.mk hz
      clear hz hZ
      have c' : (k : Int) < (zs.length : Int) := by omega
      by_cases z1 : Z < 0
      · go_wp2
        refine ret_marks0 (results_tmp rfl _ _ _) ?_
        exact ⟨rfl, HK.out.chg.below⟩
      · by_cases z2 : 200 < Z
        · go_wp2
          refine ret_marks0 (results_tmp rfl _ _ _) ?_
          exact ⟨rfl, HK.out.chg.below⟩
        · obtain ⟨z, rfl⟩ : ∃ z : Nat, Z = z := ⟨Z.toNat, by omega⟩
          have hz3 : z ≤ 200 := by omega
          have hk60 : zs.length ≤ 60 := by omega
          have CT := Mem.Aside.mk (take_holds HK.out.holds z (by omega) (by rw [packL_length]; have := HK.out.count; omega) (by omega))
          obtain ⟨f, hf, hT⟩ := HK.out.map
          have HM := Mem.Aside.mk hf
          have HT := Mem.Aside.mk hT
          clear hf hT
          go_upto_region 16 with (first
            | (go_at_call 22; (with_reducible refine CT.out.mono ?_); rintro e w2 ⟨id, F2, rfl, h2, hl2, hn2, hc2, hF2⟩; have H2 := Mem.Aside.mk h2; have HC2 := Mem.Aside.mk hc2; have HF2 := Mem.Aside.mk hF2; have HN2 := Mem.Aside.mk hn2; have hid : id ≤ k := (by { have h1 := least_le hl2; rw [List.length_map, packL_length] at h1; exact Nat.le_trans h1 HK.out.count }); have hmw : mb < wr.heap.size := HM.out.lt; have hm2 : mb ∉ F2 := (fun hm => (hF2 mb hm).elim HK.out.own.2 (fun h => by omega)); have HM2 := Mem.Aside.mk hm2; have hz2 := cell_chg (HK.out.chg.then hc2 (fun x hx => .inr (HK.out.new x hx))) HZ.out (by simp); obtain ⟨w3, hr3, hi3, hc3⟩ := (HM.out.chg hc2 HK.out.own.2).store Try.underlying52 Try.underlying3 (by omega) (id : Int) (z : Int) (I64.wf ⟨by omega, by omega⟩) (I64.wf ⟨by omega, by omega⟩); have HRUN := Mem.Aside.mk hr3; have HM3 := Mem.Aside.mk hi3; have HC3 := Mem.Aside.mk hc3; have hz3' := cell_chg ((HK.out.chg.then hc2 (fun x hx => .inr (HK.out.new x hx))).then hc3 (fun x hx => by { simp at hx; subst hx; exact .inr HK.out.own.1 })) HZ.out (by simp); clear h2 hl2 hn2 hc2 hF2 hz' hr3 hi3 hc3 hm2 hmw)
            | (at_mapUpdate; refine wpList_mapUpdate (by rfl) _ _ _ _ (by rfl) _ _ _ (by rfl) (by rfl) (by rfl) _ HRUN.out ?_))
          have HP : Mem.Aside (∀ (F : List Nat) (wx : World), Holds wx p F ((id, packB id z) :: packL q) (300 * k + z + 7) → IMap Try.prog 3 wx mb (k + 1) (fun x => if x = (id : Int) then some (z : Int) else f x) → Chg [] w wx → (∀ x ∈ F, w.heap.size ≤ x) → mb ∉ F → Pk w p mb (k + 1) F ((id, z) :: q) wx) := ⟨fun F wx hh hm hc hn ho =>
            ⟨hh.more (by omega) (by omega), ⟨_, hm, HT.out.add (by have := HN2.out; rwa [packL_ids] at this)⟩, List.nodup_cons.2 ⟨by have := HN2.out; rwa [packL_ids] at this, HK.out.nodup⟩, by have := HK.out.count; simp; omega,
              fun x hx => by rcases List.mem_cons.1 hx with rfl | hx; exact ⟨by simp only; omega, hz3⟩; exact HK.out.small x hx, hc, hn, HK.out.own.1, ho⟩⟩
          have H3 := Mem.Aside.mk (H2.out.chg HC3.out (fun x hx hm => by simp at hm; exact HM2.out (hm ▸ hx)))
          have HC03 : Mem.Aside (Chg [] w w3) := ⟨(HK.out.chg.then HC2.out (fun x hx => .inr (HK.out.new x hx))).then HC3.out (fun x hx => by simp at hx; subst hx; exact .inr HK.out.own.1)⟩
          have HNF : Mem.Aside (∀ x ∈ F2, w.heap.size ≤ x) := ⟨fun x hx => (HF2.out x hx).elim (HK.out.new x) (fun h => Nat.le_trans HK.out.chg.size h)⟩
          go_frame
          go_cut [85] from 67 to 111 (fun s wx => s = .bool false ∧ Mem.Aside (Pk w p mb (k + 1) F2 ((id, z) :: q) wx))
          case first =>
            by_cases zz : z = 0
            · subst zz
              have e : packB id 0 = List.replicate 0 0 := by simp [packB]
              go_wp2
              go_meet
              case rel => exact ⟨rfl, ⟨HP.out F2 _ (by rw [e]; exact H3.out) HM3.out HC03.out HNF.out HM2.out⟩⟩
            · have zz' : (0 : Int) < (z : Int) := by omega
              have CS := Mem.Aside.mk (save_holds H3.out (z - 1) 1 (by decide) (by rw [List.length_replicate]; omega) (Nat.mod_one _) (id + 7) (by omega))
              rw [packB_set (by omega), show ((z - 1 : Nat) : Int) = (z : Int) - 1 by omega, show ((1 : Nat) : Int) = 1 from rfl, show ((id + 7 : Nat) : Int) = (id : Int) + 7 by omega] at CS
              have hwz := (IntWalk.i64_in ((z : Int) - 1) (by omega) : IntKind.i64.wrap ((z : Int) - 1) = (z : Int) - 1)
              have hwi := (IntWalk.i64_in ((id : Int) + 7) (by omega) : IntKind.i64.wrap ((id : Int) + 7) = (id : Int) + 7)
              have hwu : IntKind.u64.wrap ((id : Int) + 7) = (id : Int) + 7 := by rw [show (id : Int) + 7 = ((id + 7 : Nat) : Int) by omega]; exact wrap_u64' (by omega)
              go_wp2_with (go_at_call 23; (with_reducible refine CS.out.mono ?_); rintro e w4 ⟨rfl, h4, hc4⟩; have H4 := Mem.Aside.mk h4; have HC4 := Mem.Aside.mk hc4; clear h4 hc4)
              go_meet
              case rel => exact ⟨rfl, ⟨HP.out F2 _ H4.out (HM3.out.chg HC4.out HM2.out) (HC03.out.then HC4.out (fun x hx => .inr (HNF.out x hx))) HNF.out HM2.out⟩⟩
          case rest =>
            obtain ⟨rfl, HQ⟩ := hcut
            clear HP H3 HC03 HRUN HM3 HC3 H2 HC2 HT HM CT HK hz2 hz3' HZ HN2
            have hwk := (IntWalk.i64_in ((k : Int) + 1) (by omega) : IntKind.i64.wrap ((k : Int) + 1) = ((k + 1 : Nat) : Int))
            by_cases e : k < gs.length
            · have e' : (k : Int) < (gs.length : Int) := by omega
              obtain ⟨ac, rfl, hg⟩ := HC.out.get k e
              have hg' := cell_chg HQ.out.chg hg (by simp)
              have hGI : I64 gs[k] := HC.out.fit _ (List.getElem_mem e)
              obtain ⟨G, hG⟩ : ∃ G, G = gs[k] := ⟨_, rfl⟩
              rw [← hG] at hg' hGI hg
              have HG := Mem.Aside.mk hg
              clear hG hg
              obtain ⟨f, hf, hT⟩ := HQ.out.map
              have hl := hf.look Try.underlying52 Try.underlying3 (zeroInt wc) G hGI.wf
              have HM := Mem.Aside.mk hf
              have HT := Mem.Aside.mk hT
              clear hf hT
              rcases hfg : f G with _ | v
              · rw [hfg] at hl
                clear hfg
                go_wp2
                exact ⟨⟨k + 1, F2, _, by go_num, by omega, HQ⟩, by simp [intOf]; omega⟩
              · obtain ⟨i, n, rfl, rfl, hmem⟩ := (HT.out G v).1 hfg
                rw [hfg] at hl
                have hper := List.perm_cons_erase hmem
                obtain ⟨r, hr⟩ : ∃ r, r = ((id, z) :: q).erase (i, n) := ⟨_, rfl⟩
                rw [← hr] at hper
                have HPer := Mem.Aside.mk hper
                have hper2 : (packL ((id, z) :: q)).Perm ((i, packB i n) :: packL r) := hper.map _
                have hnd := (hper.map Prod.fst).nodup_iff.1 HQ.out.nodup
                have CG := Mem.Aside.mk (give_holds (HQ.out.holds.perm hper2))
                have HND := Mem.Aside.mk (List.nodup_cons.1 hnd)
                clear hper hr hper2 hnd hmem hfg
                go_wp2_with (first
                  | (go_at_call 26; (with_reducible refine CG.out.mono ?_); rintro e w5 ⟨rfl, h5, hc5⟩; have H5 := Mem.Aside.mk h5; have HC5 := Mem.Aside.mk (HQ.out.chg.then hc5 (fun x hx => .inr (HQ.out.new x hx))); have hg5 := cell_chg HC5.out HG.out (by simp); obtain ⟨w6, hr6, hm6, hc6⟩ := (HM.out.chg hc5 HQ.out.own.2).drops Try.underlying52 Try.underlying3 (i : Int) hGI.wf; have HRUN := Mem.Aside.mk hr6; have HM6 := Mem.Aside.mk hm6; have HC6 := Mem.Aside.mk hc6; clear h5 hc5 hr6 hm6 hc6 hl hg')
                  | (at_delete; refine wpList_builtin2 _ (by rfl) .delete _ _ _ (by rfl) _ _ (by rfl) (by rfl) _ _ (HRUN.out _) ?_))
                refine ⟨⟨k + 1, F2, r, by go_num, by omega, ⟨⟨H5.out.chg HC6.out (fun x hx hm => by simp at hm; exact HQ.out.own.2 (hm ▸ hx)), ⟨_, HM6.out, (HT.out.perm HPer.out).del HND.out.1⟩, HND.out.2, ?_, fun x hx => HQ.out.small x (HPer.out.mem_iff.2 (List.mem_cons_of_mem _ hx)),
                  HC5.out.then HC6.out (fun x hx => by simp at hx; subst hx; exact .inr HQ.out.own.1), HQ.out.new, HQ.out.own⟩⟩⟩, by simp [intOf]; omega⟩
                have h1 := HPer.out.length_eq
                have h2 := HQ.out.count
                simp only [List.length_cons] at h1 h2
                omega
            · have e' : (gs.length : Int) ≤ (k : Int) := by omega
              go_wp2
              exact ⟨⟨k + 1, F2, _, by go_num, by omega, HQ⟩, by simp [intOf]; omega⟩
    · obtain rfl : k = zs.length := by omega
      clear hk c
      have hk60 : zs.length ≤ 60 := by omega
      go_wp2_with (first
        | (go_at_call 27; (with_reducible refine (pack_holds HK.out.holds).mono ?_); rintro e w2 ⟨rfl, h2, hs2, hc2⟩; have H2 := Mem.Aside.mk (HK.out.turn h2 hc2); have HS2 := Mem.Aside.mk hs2; obtain ⟨f, hf, hT⟩ := H2.out.map; have HM := Mem.Aside.mk hf; have HT := Mem.Aside.mk hT; clear h2 hs2 hc2 hf hT)
        | (at_range; refine wpList_range_imap rfl _ _ rfl Try.underlying52 Try.underlying3 rfl HM.out ?_; intro w3 cnt hr3 hc3; have HR3 := Mem.Aside.mk hr3; have HC3 := Mem.Aside.mk hc3; clear hr3 hc3))
      go_frame
      obtain ⟨r, hr⟩ : ∃ r, r = w2.heap.size := ⟨_, rfl⟩
      rw [← hr] at HR3 ⊢
      have hrF : Mem.Aside (r ∉ Fk ∧ r ≠ mb ∧ w.heap.size ≤ r) := ⟨by rw [hr]; exact ⟨fun hm => by have := H2.out.holds.lt _ hm; omega, fun e => by have := HM.out.lt; omega, H2.out.chg.size⟩⟩
      clear hr
      go_loopw [12] (fun us wr => ∃ left cnt, us = .int .i64 (doneL left q : Nat) ∧ Mem.Aside (IRng Try.prog 3 wr mb r f left cnt) ∧ Mem.Aside (Pk w p mb zs.length Fk q wr) ∧ Mem.Aside (∃ s, Sto wr p s Fk ∧ s.raw.length = totalL (packL q))) (fun _ wr => wr.rangeLeft mb r)
      case atStart =>
        refine ⟨_, _, ?_, HR3, ⟨H2.out.keep HC3.out (by simp) (by simp) (by simp)⟩, ⟨HS2.out.elim fun s h => ⟨s, h.1.chg HC3.out (by simp), h.2⟩⟩⟩
        rw [doneL_none (fun x hx => (HT.out.some _).2 (List.mem_map.2 ⟨x, hx, rfl⟩))]
        rfl
      case round =>
        obtain ⟨left, cnt, rfl, HR, HK, HS⟩ := hrel
        go_wp2_with (at_next; refine wpList_next_irng rfl _ rfl Try.underlying3 rfl HR.out ?_ ?_)
        · intro hall
          rw [doneL_all (fun x hx => hall _ (I64.wf ⟨by omega, by have := (HK.out.small x hx).1; omega⟩))]
          clear hall
          go_wp2_with (go_at_call 34; (with_reducible refine (extents_calls p _).mono ?_); rintro e w' ⟨rfl, rfl⟩)
          obtain ⟨⟨s', hS, hOk, hPe, _⟩, _⟩ := HK.out.holds
          obtain ⟨rawv, allv, mbs, hA, hFk⟩ := hS
          have hql : s'.all.length = q.length := by rw [← pairs_length, hPe.length_eq, packL_length]
          have hqc := HK.out.count
          obtain ⟨cb, hcb⟩ : ∃ cb, cb = wr.heap.size := ⟨_, rfl⟩
          obtain ⟨W0, hW0⟩ : ∃ W0, W0 = (wr.alloc (.cells #[.int .i64 0] 3)).alloc (.cells #[.pointer (some ⟨p, 0, none⟩)] 23) := ⟨_, rfl⟩
          have hn0 : Blk W0 cb 3 [.int .i64 ((0 : Nat) : Int)] := by rw [hW0, hcb]; exact (Blk.newL _ rfl).alloc _
          have hb0 : Blk W0 (cb + 1) 23 [.pointer (some ⟨p, 0, none⟩)] := by rw [hW0, hcb]; exact Blk.newL _ (by simp)
          have hc0 : Chg [] wr W0 := by rw [hW0]; exact ((Chg.refl _ _).alloc _).alloc _
          have hs0 : cb + 1 < W0.heap.size := by rw [hW0, hcb]; simp
          have hA0 := hA.chg hc0 (by simp)
          have HC0 := Mem.Aside.mk hc0
          rw [← hW0, ← hcb]
          have hcb' : wr.heap.size ≤ cb := by omega
          clear hW0 hA hOk hPe hFk hc0 hcb
          refine (wpIn_wide (n := 9)).1 ?_
          generalize hACT : ({ tmps := _, defers := [] } : Act) = A0
          have HACT := Mem.Aside.mk hACT
          have hT8 : A0.eval (.tmp 161) = .func (.func 77) #[] #[.pointer (some ⟨cb + 1, 0, none⟩)] := by rw [← hACT]; rfl
          clear hACT
          refine wpIn_rangeFunc_ownH (α := Ext) rfl (by omega) (gf := 77) (lb := #[.pointer (some ⟨cb + 1, 0, none⟩)]) hT8 trivial (enters_of Try.func77 (by kernel_rfl) rfl)
            (ext_stops (fun x => x) s'.all (9 - 1) (by omega) W0.heap.size (cb + 1) p (by simp) W0 (Nat.le_refl _) (hb0.cellAt rfl) hA0.c1 hA0.all (by omega)) KpE.trans (fun W l o o' _ h1 h2 _ => KpE.put W l o o' h1 h2) (Below.refl _ _) (fun _ => rfl)
            (fun (pre : List Ext) W => Blk W cb 3 [.int .i64 (pre.length : Int)] ∧ Chg [] wr W)
            (fun c (pre : List Ext) W => False)
            ?ownI (fun c => ?ownX) ⟨hn0, HC0.out⟩
            (fun (x : Ext) a' W => a' = { tmps := A0.tmps.setIfInBounds 162 (.agg #[.int .i64 (x.id : Int), .int .i64 (x.at_ : Int), .int .i64 (x.len : Int)]), defers := [] })
            (fun x a' => ?ownA) ?assign ?body ?done ?stop
          case ownI =>
            intro pre X Y row ⟨h1, h5⟩ hg hr
            exact ⟨blk_own (fun (_ : Unit) => _) (fun _ => _) (fun _ => _) () X Y row h1 hg (fun r e => (hr r e).2), chg_own [] wr (B := W0.heap.size) (by omega) () X Y row h5 hg hr⟩
          case ownX =>
            intro pre X Y row h hg hr
            exact h.elim
          case ownA =>
            intro _ X Y row h hg hr
            exact h
          case assign =>
            rintro l pre x W K hI hK
            gi_wp2
            exact hK _ _ (KeepsFrom.refl _ _) (fun _ _ _ h => h) hI (by simp [encE])
          case body =>
            rintro l pre x a' W hl0 ⟨r, hr0⟩ ⟨h1, h5⟩ rfl hlt
            have e0 := h1.cellAt (i := 0) rfl
            have f0 := h1.frozen 0
            have hlc : pre.length < 61 := by omega
            have hwp := (IntWalk.i64_in ((pre.length : Int) + 1) (by omega) : IntKind.i64.wrap ((pre.length : Int) + 1) = ((pre.length + 1 : Nat) : Int))
            rw [← HACT.out]
            simp only [List.setIfInBounds_toArray, List.set_cons_succ, List.set_cons_zero]
            gi_wp2
            refine ⟨(KeepsOthers.setCell _ _ _).from _, ?_, ?_, ?_⟩
            · intro k cs hk hb
              refine hb.far (p := ⟨cb, 0, none⟩) ?_ _
              show k ≠ cb
              omega
            · have := h1.set 0 (.int .i64 ((pre.length : Int) + 1))
              simpa using this
            · exact h5.setCell (p := ⟨cb, 0, none⟩) (.inr (by show wr.heap.size ≤ cb; omega)) _
          case stop =>
            intro D c pre W hD hpre h hK
            exact h.elim
          case done =>
            rintro D ys W hD rfl ⟨h1, h5⟩ hK
            rw [← HACT.out]
            rw [hql] at h1
            have e0 := h1.cellAt (i := 0) rfl
            obtain ⟨s, hs1, hs2⟩ := HS.out
            have CU := Mem.Aside.mk (used_holds (HK.out.holds.chg h5 (by simp)))
            have CSp := Mem.Aside.mk (span_calls (hs1.chg h5 (by simp)))
            rw [hs2] at CSp
            obtain ⟨nD, hIM⟩ := HR.out.map
            obtain ⟨DD, hD1, hD2⟩ := (hIM.chg h5 (by simp)).len Try.underlying52 Try.underlying3 (q.map fun x => (x.1 : Int)) (by
              have := HK.out.nodup
              rw [show (q.map fun x => (x.1 : Int)) = (q.map Prod.fst).map (fun i : Nat => (i : Int)) by rw [List.map_map]; rfl]
              exact List.pairwise_map.2 (this.imp fun hab e => hab (by omega))) (fun k hk => HT.out.some k) (fun k hk => by
              obtain ⟨x, hx, rfl⟩ := List.mem_map.1 hk
              have := (HK.out.small x hx).1
              exact I64.wf ⟨by omega, by omega⟩)
            rw [List.length_map] at hD2
            have hlen := hD1.len Try.underlying52 3
            rw [hD2] at hlen
            have HW := Mem.Aside.mk (HK.out.chg.then h5 (by simp))
            clear hs1 hs2 hIM hD1 hD2 h1 hA0 hb0 hn0 hT8
            obtain ⟨T, hT⟩ : ∃ T, T = totalL (packL q) := ⟨_, rfl⟩
            rw [← hT] at CU CSp ⊢
            clear hT
            go_wp2_with (first
              | (go_at_call 29; (with_reducible refine CU.out.mono ?_); rintro e w5 ⟨rfl, rfl⟩)
              | (go_at_call 35; (with_reducible refine CSp.out.mono ?_); rintro e w5 ⟨rfl, rfl⟩)
              | (go_at_call 25; (with_reducible refine (awake_calls _).mono ?_); rintro e w9 ⟨rfl, hc9⟩; have HC9 := Mem.Aside.mk (HW.out.then hc9 (by simp)); have hK9 := hc9.obj hK (by simp); clear hc9))
            refine ret_marks1 hK9 (fun w' => results_tmp rfl _ _ _) (fun w' hw' => ?_)
            exact ⟨rfl, (HC9.out.then hw' (fun x hx => by simp at hx; subst hx; have := HW.out.size; have := HK.out.chg.size; exact .inr (by omega))).below⟩
        · intro kk vv w4 cnt4 hwf hlf hfv hr4 hlt hc4 hen
          obtain ⟨id, n, rfl, rfl, hmem⟩ := (HT.out kk vv).1 hfv
          obtain ⟨hi60, hn200⟩ := HK.out.small _ hmem
          simp only at hi60 hn200
          have hdl := doneL_le left q (fun x hx => (HK.out.small x hx).2)
          have hql := HK.out.count
          have hd1 := doneL_step HK.out.nodup hmem hlf
          have HR4 := Mem.Aside.mk hr4
          have HK4 := Mem.Aside.mk (HK.out.keep hc4 (fun x hx hm => by simp at hm; exact hrF.out.1 (hm ▸ hx)) (fun hm => by simp at hm; exact hrF.out.2.1 hm.symm) (fun x hx => by simp at hx; subst hx; exact hrF.out.2.2))
          have HS4 : Mem.Aside (∃ s, Sto w4 p s Fk ∧ s.raw.length = totalL (packL q)) := ⟨HS.out.elim fun s h => ⟨s, h.1.chg hc4 (fun x hx hm => by simp at hm; exact hrF.out.1 (hm ▸ hx)), h.2⟩⟩
          have CL2 := Mem.Aside.mk (fun (w5 : World) (h : Pk w p mb zs.length Fk q w5) => len_holds h.holds (packL_mem hmem))
          rw [packB_length] at CL2
          have HLT := Mem.Aside.mk hlt
          have HD := Mem.Aside.mk hd1
          obtain ⟨T, hT⟩ : ∃ T, T = doneL left q := ⟨_, rfl⟩
          rw [← hT] at HD hdl ⊢
          clear hT hlf hfv hwf hr4 hc4 hlt hd1
          have hw7 := (IntWalk.i64_in ((n : Int) + 7) (by omega) : IntKind.i64.wrap ((n : Int) + 7) = ((n + 7 : Nat) : Int))
          have hup : up n ≤ 207 := by have := up_le n; omega
          have hsum : (T : Int) + ((n : Int) + 7) / 8 * 8 = ((T + up n : Nat) : Int) := by unfold up; omega
          by_cases zz : n = 0
          · subst zz
            clear hmem
            go_wp2_with (go_at_call 28; (with_reducible refine (CL2.out _ HK4.out).mono ?_); rintro e w6 ⟨rfl, hc6⟩; have HC6 := Mem.Aside.mk hc6; clear hc6)
            exact ⟨⟨_, _, by rw [HD.out]; rfl, ⟨HR4.out.chg HC6.out (by simp) (by simp)⟩, ⟨HK4.out.keep HC6.out (by simp) (by simp) (by simp)⟩, ⟨HS4.out.elim fun s h => ⟨s, h.1.chg HC6.out (by simp), h.2⟩⟩⟩, by rw [(HR4.out.chg HC6.out (by simp) (by simp)).left_eq, HR.out.left_eq]; exact HLT.out⟩
          · have zz' : (0 : Int) < (n : Int) := by omega
            have CL := Mem.Aside.mk (load_holds HK4.out.holds (packL_mem hmem) (n - 1) 1 (by decide) (by rw [packB_length]; omega) (Nat.mod_one _))
            rw [packB_get (by omega) (by omega), show ((n - 1 : Nat) : Int) = (n : Int) - 1 by omega, show ((1 : Nat) : Int) = 1 from rfl, show (id + 7) % 256 = id + 7 by omega] at CL
            clear hmem
            have hwz := (IntWalk.i64_in ((n : Int) - 1) (by omega) : IntKind.i64.wrap ((n : Int) - 1) = (n : Int) - 1)
            have hwi := (IntWalk.i64_in ((id : Int) + 7) (by omega) : IntKind.i64.wrap ((id : Int) + 7) = (id : Int) + 7)
            have hwu : IntKind.u64.wrap ((id : Int) + 7) = ((id + 7 : Nat) : Int) := by rw [show (id : Int) + 7 = ((id + 7 : Nat) : Int) by omega]; exact wrap_u64' (by omega)
            have hm256 : ((id : Int) + 7) % 256 = (id : Int) + 7 := by omega
            go_wp2_with (first
              | (go_at_call 24; (with_reducible refine CL.out.mono ?_); rintro e w5 ⟨rfl, hc5⟩; have HC5 := Mem.Aside.mk hc5; have HK5 := Mem.Aside.mk (HK4.out.keep hc5 (by simp) (by simp) (by simp)); clear hc5)
              | (go_at_call 28; (with_reducible refine (CL2.out _ HK5.out).mono ?_); rintro e w6 ⟨rfl, hc6⟩; have HC6 := Mem.Aside.mk hc6; clear hc6))
            exact ⟨⟨_, _, by rw [HD.out]; simp, ⟨(HR4.out.chg HC5.out (by simp) (by simp)).chg HC6.out (by simp) (by simp)⟩, ⟨HK5.out.keep HC6.out (by simp) (by simp) (by simp)⟩, ⟨HS4.out.elim fun s h => ⟨s, (h.1.chg HC5.out (by simp)).chg HC6.out (by simp), h.2⟩⟩⟩, by rw [((HR4.out.chg HC5.out (by simp) (by simp)).chg HC6.out (by simp) (by simp)).left_eq, HR.out.left_eq]; exact HLT.out⟩
end Go.Proofs.Ytgimcpnelogadaa.Sto
