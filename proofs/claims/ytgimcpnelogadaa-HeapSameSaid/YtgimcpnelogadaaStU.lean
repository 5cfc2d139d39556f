/- Chapter 5, the store, by hand: Take. -/
import Derived.Test.YtgimcpnelogadaaStT
import Derived.Deep.DeepCutAuto
namespace Go.Proofs.Ytgimcpnelogadaa.Sto
open Go.RowKit Go.Proofs.Ytgimcpnelogadaa.Mem
set_option linter.unusedVariables false
set_option linter.unusedSimpArgs false

theorem take_neg (w : World) (p : Nat) (n : Int) (hn : n < 0) (hi : I64 n) :
    Calls Try.prog 22 #[.pointer (some ⟨p, 0, none⟩), .int .i64 n] w fun e w' => e = .returned (.tuple #[.int .i64 0, .int .i64 13]) ∧ w = w' := by
  obtain ⟨h1, h2⟩ := hi
  go_enter Try.func22, Try.ntmps22
  go_wp2
  go_ret2
  exact ⟨rfl, rfl⟩
theorem take_long (w : World) (p : Nat) (n : Int) (hn : 8388608 < n) (hi : I64 n) :
    Calls Try.prog 22 #[.pointer (some ⟨p, 0, none⟩), .int .i64 n] w fun e w' => e = .returned (.tuple #[.int .i64 0, .int .i64 2]) ∧ w = w' := by
  obtain ⟨h1, h2⟩ := hi
  have h3 : ¬ n < 0 := by omega
  go_enter Try.func22, Try.ntmps22
  go_wp2
  go_ret2
  exact ⟨rfl, rfl⟩

/-- The count of Ids that are taken bounds the least that is free. -/
theorem least_le {l : List Nat} {k : Nat} (h : ∀ j < k, j ∈ l) : k ≤ l.length := by
  have := nodup_le (List.range k) l List.nodup_range (fun x hx => h x (List.mem_range.1 hx))
  simpa using this
/-- A Boolean as a number. -/
def b2n : Value → Nat
  | .bool true => 1
  | _ => 0
theorem atOf_isSome_iff {l : List Ext} {k : Nat} : (atOf l (k : Int)).isSome = decide (k ∈ l.map Ext.id) := by
  rw [Bool.eq_iff_iff, decide_eq_true_iff]
  constructor
  · intro h
    obtain ⟨x, hx, e⟩ := atOf_isSome h
    exact List.mem_map.2 ⟨x, hx, by omega⟩
  · intro h
    obtain ⟨x, hx, rfl⟩ := List.mem_map.1 h
    cases c : atOf l (x.id : Int) with
    | some _ => rfl
    | none =>
      unfold atOf at c
      rw [Option.map_eq_none_iff, List.find?_eq_none] at c
      exact absurd (c x hx) (by simp)

theorem elemU8 : Elem Try.prog 5 1 1 (.int .u8 0) := Elem.of (by kernel_rfl) rfl (by intro v hv; simp [Value.cells] at hv; subst hv; rfl) (by decide)
theorem zeroU8 (w : World) : (zeroValue 5).run Try.prog w = .ok (.int .u8 0) w := by kernel_rfl
theorem zerosU8 (k : Nat) : (Builtin.zeroCells (Value.int .u8 0).cells k).toList = u8V (List.replicate k 0) := by
  have e : ∀ i : Nat, (#[Value.int .u8 0] : Array Value)[i % 1]! = .int .u8 0 := fun i => by rw [Nat.mod_one]; rfl
  apply List.ext_getElem
  · simp [Builtin.zeroCells, Value.cells, u8V]
  · intro i h1 h2
    simp only [Builtin.zeroCells, Value.cells, Array.toList_map, List.getElem_map, Array.getElem_toList, Array.getElem_range, u8V, List.getElem_replicate]
    exact e _

set_option maxHeartbeats 8000000 in
set_option maxRecDepth 100000 in
theorem take_ok {w : World} {p mb : Nat} {s : St} {rawv allv : Value} (h : StoAt w p s rawv allv mb) (ho : Ok s) (hl : s.all.length ≤ 100000000) (hr : s.most ≤ 100000000000) (hI : ∀ x ∈ s.all, I64 (x.id : Int)) (n : Nat) (hn : n ≤ 8388608) :
    Calls Try.prog 22 #[.pointer (some ⟨p, 0, none⟩), .int .i64 (n : Int)] w fun e w' => ∃ (id : Nat) (s' : St) (F' : List Nat), e = .returned (.tuple #[.int .i64 (id : Int), .int .i64 0]) ∧ Sto w' p s' F' ∧ Took s n id s' ∧
      Chg (foot p rawv allv mb) w w' ∧ ∀ k ∈ F', k ∈ foot p rawv allv mb ∨ w.heap.size ≤ k := by
  have H := Mem.Aside.mk h
  have HO := Mem.Aside.mk ho
  have HI := Mem.Aside.mk hI
  have HLK := Mem.Aside.mk (fun k hk => h.by_.look Try.underlying52 Try.underlying3 (zeroInt w) k hk)
  have h2 := h.c2
  have n0 : ¬ (n : Int) < 0 := by omega
  have n1 : ¬ (8388608 : Int) < (n : Int) := by omega
  clear h ho hI
  go_enter Try.func22, Try.ntmps22
  go_wp2
  go_loopw [6, 7] (fun i b wr => ∃ (k : Nat) (c : Bool), i = .int .i64 (k : Int) ∧ b = .bool c ∧ k ≤ s.all.length ∧ Mem.Aside (∀ j < k, j ∈ s.all.map Ext.id) ∧ Mem.Aside (c = false → k ∉ s.all.map Ext.id) ∧ w = wr)
    (fun i b _ => 2 * (s.all.length - (intOf i).toNat) + b2n b)
  case atStart => exact ⟨0, true, rfl, rfl, Nat.zero_le _, ⟨by simp⟩, ⟨by simp⟩, rfl⟩
  case round =>
    obtain ⟨k, c, rfl, rfl, hk, HLT, HF, rfl⟩ := hrel
    cases c
    · have hfr := HF.out rfl
      have HFR := Mem.Aside.mk hfr
      have hup := up_le n
      have HU := Mem.Aside.mk (fun (w : World) => up_calls n w (by omega))
      obtain ⟨U, hU⟩ : ∃ U, U = up n := ⟨_, rfl⟩
      rw [← hU] at HU hup
      have HUU := Mem.Aside.mk hU
      have hmo := HO.out.most
      have hsp := HO.out.span
      have c3 := H.out.c3
      have f3 := H.out.cells.frozen 3
      have hw1 := (IntWalk.i64_in ((s.used : Int) + (U : Int)) (by omega) : IntKind.i64.wrap ((s.used : Int) + (U : Int)) = ((s.used + U : Nat) : Int))
      clear hfr hU h2
      go_wp2_with (go_at_call 61; (with_reducible refine (HU.out _).mono ?_); rintro e w5 ⟨rfl, rfl⟩)
      have HS1 := Mem.Aside.mk (H.out.cells.set 3 (.int .i64 ((s.used : Int) + (U : Int))))
      have HR1 := Mem.Aside.mk (H.out.raw.farCell (p := ⟨p, 3, none⟩) H.out.p_raw (.int .i64 ((s.used : Int) + (U : Int))))
      have HA1 := Mem.Aside.mk (H.out.all.farCell (p := ⟨p, 3, none⟩) H.out.p_all (.int .i64 ((s.used : Int) + (U : Int))))
      have HM1 := Mem.Aside.mk (H.out.by_.farCell (p := ⟨p, 3, none⟩) (Ne.symm H.out.p_mb) (.int .i64 ((s.used : Int) + (U : Int))))
      have HC1 : Mem.Aside (Chg (foot p rawv allv mb) w (w.setCell ⟨p, 3, none⟩ (.int .i64 ((s.used : Int) + (U : Int))))) := ⟨(Chg.refl _ _).setCell (p := ⟨p, 3, none⟩) (.inl (mem_foot.2 (.inl rfl))) _⟩
      clear c3 f3
      have HB3 : Mem.Aside ((stV rawv allv (.map (some mb)) s.used s.most).set 3 (.int .i64 ((s.used : Int) + (U : Int))) = stV rawv allv (.map (some mb)) (s.used + U) s.most) := ⟨by simp [stV]⟩
      rw [HB3.out] at HS1
      generalize w.setCell ⟨p, 3, none⟩ (.int .i64 ((s.used : Int) + (U : Int))) = W1 at HS1 HR1 HA1 HM1 HC1 ⊢
      have c3 : W1.cell? ⟨p, 3, none⟩ = some (.int .i64 ((s.used : Int) + (U : Int))) := (HS1.out.cellAt rfl).trans (by simp)
      have c4 := HS1.out.cellAt (i := 4) rfl
      have f4 := HS1.out.frozen 4
      obtain ⟨M, hM⟩ : ∃ M, M = max s.most (s.used + U) := ⟨_, rfl⟩
      have hM2 : M ≤ 110000000000 := by omega
      have HMM := Mem.Aside.mk hM
      have hmx : max (s.most : Int) ((s.used : Int) + (U : Int)) = (M : Int) := by omega
      have H2 : Mem.Aside (StoAt ((W1.setCell ⟨p, 4, none⟩ (.int .i64 (M : Int))).drew) p (s.count n) rawv allv mb) := ⟨by
        have h4 := (HS1.out.set 4 (.int .i64 (M : Int))).drew
        refine ⟨?_, (HR1.out.farCell (p := ⟨p, 4, none⟩) H.out.p_raw _).drew, (HA1.out.farCell (p := ⟨p, 4, none⟩) H.out.p_all _).drew, (HM1.out.farCell (p := ⟨p, 4, none⟩) (Ne.symm H.out.p_mb) _).drew⟩
        have e : stV rawv allv (.map (some mb)) (s.count n).used (s.count n).most = (stV rawv allv (.map (some mb)) (s.used + U) s.most).set 4 (.int .i64 (M : Int)) := by
          rw [hM, HUU.out]; simp [stV, St.count]
        rw [e]; exact h4⟩
      have HC2 : Mem.Aside (Chg (foot p rawv allv mb) w ((W1.setCell ⟨p, 4, none⟩ (.int .i64 (M : Int))).drew)) := ⟨(HC1.out.setCell (p := ⟨p, 4, none⟩) (.inl (mem_foot.2 (.inl rfl))) _).drew⟩
      clear hM
      refine region_tail 12 (by kernel_rfl) (by kernel_rfl) ?_
      simp only [List.take_succ_cons, List.take_zero, List.drop_succ_cons, List.drop_zero]
      repeat still_step
      try rw [hmx]
      refine wpStill_nil ?_
      have hraw : s.raw.length ≤ 1000000000000 := by omega
      have CG := Mem.Aside.mk (gap_calls ⟨_, _, _, H2.out, rfl⟩ ⟨HO.out.lay⟩ (by show s.all.length ≤ _; omega) (by show s.raw.length ≤ _; omega) U (by omega))
      have hA0 : gapGo U 0 (s.count n).all ≤ s.raw.length := gap_in HO.out.lay
      obtain ⟨A, hA⟩ : ∃ A, A = gapGo U 0 (s.count n).all := ⟨_, rfl⟩
      rw [← hA] at CG hA0
      have HA := Mem.Aside.mk hA
      have hwA := (IntWalk.i64_in ((A : Int) + (U : Int)) (by omega) : IntKind.i64.wrap ((A : Int) + (U : Int)) = ((A + U : Nat) : Int))
      have hw2 := (IntWalk.i64_in (2 * (M : Int)) (by omega) : IntKind.i64.wrap (2 * (M : Int)) = ((2 * M : Nat) : Int))
      have hw3 := (IntWalk.i64_in (2 * (M : Int) + 64) (by omega) : IntKind.i64.wrap (2 * (M : Int) + 64) = ((2 * M + 64 : Nat) : Int))
      clear hA hmx
      go_upto_if 67 with (go_at_call 62; (with_reducible refine CG.out.mono ?_); rintro e w3 ⟨rfl, hc3⟩; have H3 := Mem.Aside.mk (H2.out.chg hc3 (by simp)); have HC3 := Mem.Aside.mk (HC2.out.then hc3 (by simp)); have t4 : w3.cell? ⟨p, 4, none⟩ = some (.int .i64 (M : Int)) := by { have := H3.out.c4; rw [HMM.out, HUU.out]; exact this }; clear hc3 c3 c4 f4)
      go_cut [9] (fun s9 wx => ∃ (A2 : Nat) (s2 : St) (rawv2 : Value), s9 = .int .i64 (A2 : Int) ∧ A2 + U ≤ 2 * M + 64 ∧ Mem.Aside (Mid s n s2) ∧ Mem.Aside (A2 = gapGo (up n) 0 s2.all) ∧ Mem.Aside (StoAt wx p s2 rawv2 allv mb) ∧ Mem.Aside (rawv2.ownBlock = rawv.ownBlock) ∧ Mem.Aside (Chg (foot p rawv allv mb) w wx))
      case first =>
        by_cases c : A + U ≤ 2 * M + 64
        · have c' : ¬ (2 * (M : Int) + 64 < (A : Int) + (U : Int)) := by omega
          go_wp2
          go_meet
          case rel => exact ⟨A, s.count n, rawv, rfl, c, ⟨Mid.start HO.out n⟩, ⟨by rw [← HUU.out]; exact HA.out⟩, H3, ⟨rfl⟩, HC3⟩
        · have c' : (2 * (M : Int) + 64 < (A : Int) + (U : Int)) := by omega
          have CP := Mem.Aside.mk (pack_calls H3.out ⟨HO.out.lay⟩ (by show s.all.length ≤ _; omega) (by show s.raw.length ≤ _; omega) HI.out)
          go_wp2_with (first
            | (go_at_call 27; (with_reducible refine CP.out.mono ?_); rintro e w4 ⟨s2, rawv2, rfl, H4', ho4, hc4, raw, hpk, hr2, ha2, hs2, hu2, hm2⟩; have H4 := Mem.Aside.mk H4'; have HC4 := Mem.Aside.mk (HC3.out.trans hc4); have HOW := Mem.Aside.mk ho4; have HMID := Mem.Aside.mk (Mid.packed HO.out hpk hr2 ha2 hs2 hu2 hm2); have HRL : Mem.Aside (s2.raw.length ≤ s.used) := ⟨by { rw [hr2, List.length_take, HO.out.used]; exact Nat.min_le_left _ _ }⟩; have hlen2 := HMID.out.length; have hlr2 : s2.raw.length ≤ 1000000000000 := by { have h1 := HMID.out.span; have h2 := HMID.out.most; have h3 := HMID.out.used; have h4 := HUU.out; omega }; have CG2 := Mem.Aside.mk (gap_calls ⟨_, _, _, H4.out, rfl⟩ ⟨HMID.out.lay⟩ (by omega) hlr2 U (by omega)); clear hlen2 hlr2 hc4 ho4 H4' hpk hr2 ha2 hs2 hu2 hm2)
            | (go_at_call 62; (with_reducible refine CG2.out.mono ?_); rintro e w5 ⟨rfl, hc5⟩; have H5 := Mem.Aside.mk (H4.out.chg hc5 (by simp)); have HC5 := Mem.Aside.mk (HC4.out.then hc5 (by simp)); clear hc5))
          go_meet
          case rel => exact ⟨gapGo U 0 s2.all, s2, rawv2, rfl, by
            have h1 := gap_in (need := U) HMID.out.lay
            have h2 := HRL.out
            have h3 := HMM.out
            omega, HMID, ⟨by rw [HUU.out]⟩, H5, HOW, HC5⟩
      case rest =>
        obtain ⟨A2, s2, rawv2, rfl, hfit, HMID, HA2, H4, HOW, HC4⟩ := hcut
        clear H2 HC2 CG HA hwA hw2 hw3 H3 HC3 t4 hA0
        obtain ⟨ar, cr, hrv⟩ := Row_form H4.out.raw
        have HRV := Mem.Aside.mk hrv
        have hA0 : A2 ≤ s2.raw.length := by rw [HA2.out]; exact gap_in HMID.out.lay
        have hRL : s2.raw.length ≤ 2 * M + 64 := by
          have h1 := HMID.out.span; have h2 := HMID.out.most; have h3 := HMID.out.used; have h4 := HUU.out; have h5 := HMM.out; omega
        obtain ⟨R, hR⟩ : ∃ R, R = s2.raw.length := ⟨_, rfl⟩
        rw [← hR] at hA0 hRL hrv
        have HRR := Mem.Aside.mk hR
        have t0 : wc.cell? ⟨p, 0, none⟩ = some (.slice ar R cr) := by rw [← hrv]; exact H4.out.c0
        have hwA := (IntWalk.i64_in ((A2 : Int) + (U : Int)) (by omega) : IntKind.i64.wrap ((A2 : Int) + (U : Int)) = ((A2 + U : Nat) : Int))
        have hwR := (IntWalk.i64_in ((A2 : Int) + (U : Int) - (R : Int)) (by omega) : IntKind.i64.wrap ((A2 : Int) + (U : Int) - (R : Int)) = (A2 : Int) + (U : Int) - (R : Int))
        clear hR hrv
        go_upto_if 83 with fail
        go_cut [] (fun wx => ∃ (k : Nat) (raw4 : List UInt8) (rawv4 : Value), Mem.Aside (raw4 = s2.raw ++ List.replicate k 0) ∧ A2 + U ≤ raw4.length ∧ (raw4.length ≤ 2 * M + 64) ∧ Mem.Aside (k = 0 ∨ raw4.length = A2 + U) ∧ Mem.Aside (StoAt wx p { s2 with raw := raw4 } rawv4 allv mb) ∧
          Mem.Aside (Chg (foot p rawv allv mb) w wx) ∧ Mem.Aside (∀ g, rawv4.ownBlock = some g → rawv.ownBlock = some g ∨ w.heap.size ≤ g))
        case first =>
          by_cases c : A2 + U ≤ R
          · have c' : (A2 : Int) + (U : Int) - (R : Int) ≤ 0 := by omega
            go_wp2
            go_meet
            case rel => exact ⟨0, s2.raw, rawv2, ⟨by simp⟩, by have := HRR.out; omega, by have := HRR.out; omega, ⟨.inl rfl⟩, H4, HC4, ⟨fun g hg => .inl (by rw [← HOW.out]; exact hg)⟩⟩
          · have c' : 0 < (A2 : Int) + (U : Int) - (R : Int) := by omega
            have hk : ((A2 + U - R : Nat) : Int) = (A2 : Int) + (U : Int) - (R : Int) := by omega
            obtain ⟨v', w', hr', hR', hC', hO'⟩ := H4.out.raw.appendZeros (kq := .i64) (kn := .i64) Try.underlying57 Try.underlying3 elemU8 (k := A2 + U - R) (by omega) (by rw [← HRR.out]; omega) (by rw [← HRR.out]; omega)
            rw [hk, HRV.out, ← HRR.out] at hr'
            rw [zerosU8, ← HRR.out, show R + (A2 + U - R) = A2 + U by omega] at hR'
            obtain ⟨a3, cp3, rfl⟩ := Row_form hR'
            have HRUN := Mem.Aside.mk hr'
            have HR' := Mem.Aside.mk hR'
            have HO' := Mem.Aside.mk hO'
            have hpn : p ∉ rawv2.ownBlock.toList := fun hm => H4.out.p_raw (Option.mem_toList.1 hm)
            have hmn : mb ∉ rawv2.ownBlock.toList := fun hm => H4.out.mb_raw (Option.mem_toList.1 hm)
            have HS' := Mem.Aside.mk (H4.out.cells.chg hC' hpn)
            have HAl' := Mem.Aside.mk (H4.out.all.chg hC' (fun g hg hm => H4.out.raw_all (Option.mem_toList.1 hm) hg))
            have HMb' := Mem.Aside.mk (H4.out.by_.chg hC' hmn)
            have HC' := Mem.Aside.mk (HC4.out.then hC' (fun g hg => .inl (mem_foot.2 (.inr (.inr (.inl (by rw [← HOW.out]; exact Option.mem_toList.1 hg)))))))
            have f0 := HS'.out.frozen 0
            have t0' := HS'.out.cellAt (i := 0) rfl
            clear hk hr' hR' hO' hC' hpn hmn
            go_wp2_with (refine wpList_builtin2 _ (by rfl) .append _ _ _ (by rfl) (.slice ar R cr) (.int .i64 ((A2 : Int) + (U : Int) - (R : Int))) (by rfl) (by rfl) _ _ (HRUN.out _) ?_)
            go_meet
            case rel =>
              have hln : (s2.raw ++ List.replicate (A2 + U - R) (0 : UInt8)).length = A2 + U := by rw [List.length_append, List.length_replicate, ← HRR.out]; omega
              refine ⟨A2 + U - R, _, .slice a3 (A2 + U) cp3, ⟨rfl⟩, by omega, by omega, ⟨.inr hln⟩, ⟨?_, ?_, ?_, ?_⟩, ⟨HC'.out.setCell (p := ⟨p, 0, none⟩) (.inl (mem_foot.2 (.inl rfl))) _⟩, ⟨?_⟩⟩
              · exact HS'.out.set 0 _
              · have hvp : (Value.slice a3 (A2 + U) cp3).ownBlock ≠ some p := by
                  rcases HO'.out with ⟨_, e⟩ | ⟨e, _⟩
                  · rw [e]; exact H4.out.p_raw
                  · rw [e]; intro e2
                    have h1 := H4.out.cells.lt
                    have h2 := Option.some.inj e2
                    omega
                have h5 := HR'.out.farCell (p := ⟨p, 0, none⟩) hvp (Value.slice a3 (A2 + U) cp3)
                show Row _ _ 1 _ (s2.raw ++ List.replicate (A2 + U - R) (0 : UInt8)).length (u8V (s2.raw ++ List.replicate (A2 + U - R) (0 : UInt8)))
                rw [hln, show u8V (s2.raw ++ List.replicate (A2 + U - R) (0 : UInt8)) = u8V s2.raw ++ u8V (List.replicate (A2 + U - R) 0) by simp [u8V]]
                exact h5
              · exact HAl'.out.farCell (p := ⟨p, 0, none⟩) H4.out.p_all _
              · exact HMb'.out.farCell (p := ⟨p, 0, none⟩) (Ne.symm H4.out.p_mb) _
              · intro g hg
                rcases HO'.out with ⟨_, e⟩ | ⟨e, _⟩
                · exact .inl (by rw [← HOW.out, ← e]; exact hg)
                · have := HC4.out.size
                  have h2 := Option.some.inj (e.symm.trans hg)
                  exact .inr (by omega)
        case rest =>
          obtain ⟨k4, raw4, rawv4, HRAW, hle, hle2, HK, H5, HC5, HOW5⟩ := hcut
          clear H4 HC4 HOW hwR HRV
          obtain ⟨s4, hs4⟩ : ∃ s4 : St, s4 = ⟨raw4, s2.all, s2.used, s2.most⟩ := ⟨_, rfl⟩
          have t0 := H5.out.c0
          have HAA := Mem.Aside.mk (And.intro hA0 hRL)
          clear hA0 hRL hs4
          go_upto_region 21 with fail
          go_cut [] (fun wx => Mem.Aside (StoAt wx p ⟨splice raw4 A2 (List.replicate U 0), s2.all, s2.used, s2.most⟩ rawv4 allv mb) ∧ Mem.Aside (Chg (foot p rawv4 allv mb) wc wx))
          case first =>
            rcases H5.out.raw.cases with ⟨rfl, h2, h3⟩ | ⟨gr, rc, rr, rfl, hbr, hrn, hrc, hrl⟩
            · obtain rfl : U = 0 := by simp at h2; subst h2; simp at hle; omega
              obtain rfl : A2 = 0 := by simp at h2; subst h2; simp at hle; omega
              clear h2 h3
              go_wp2_with (refine wpList_builtin1 _ (by rfl) .clear _ _ (by rfl) (.slice none 0 0) (by rfl) _ _ (run_clear_zero _ Try.underlying57) ?_)
              go_meet
              case rel => exact ⟨⟨by rw [show List.replicate 0 (0 : UInt8) = [] from rfl, splice_nil]; exact H5.out⟩, ⟨Chg.refl _ _⟩⟩
            · have hrn' : raw4.length ≤ rc := hrn
              have HB := Mem.Aside.mk hbr
              have HRC := Mem.Aside.mk (And.intro hrn' (And.intro hrc hrl))
              have q1 : A2 + U ≤ rc := by omega
              have q2 : A2 ≤ rc := by omega
              have q3 : (A2 : Int) + (U : Int) ≤ (rc : Int) := by omega
              have q4 : (0 : Int) ≤ (A2 : Int) + (U : Int) := by omega
              have q5 : ((A2 : Int) + (U : Int)).toNat = A2 + U := by omega
              have q6 : A2 ≤ A2 + U := by omega
              clear hbr hrn hrc hrl hrn'
              by_cases h0 : U = 0
              · subst h0
                go_wp2_with (refine wpList_builtin1 _ (by rfl) .clear _ _ (by rfl) (.slice _ 0 (rc - A2)) (by rfl) _ _ (run_clear_zero _ Try.underlying57) ?_)
                all_goals go_meet
                all_goals exact ⟨⟨by rw [show List.replicate 0 (0 : UInt8) = [] from rfl, splice_nil]; exact H5.out⟩, ⟨Chg.refl _ _⟩⟩
              · have q7 : ¬ rc = A2 := by omega
                have HF : Mem.Aside (A2 + U * (Value.int .u8 0).cells.size ≤ (u8V raw4 ++ rr).length) := ⟨by rw [List.length_append, u8V_length, show (Value.int .u8 0).cells.size = 1 from rfl]; omega⟩
                go_wp2_with (refine wpList_builtin1 _ (by rfl) .clear _ _ (by rfl) (.slice (some ⟨gr, A2, none⟩) U (rc - A2)) (by rfl) _ _ (run_clear_blk _ Try.underlying57 zeroU8 (by intro v hv; simp [Value.cells] at hv; subst hv; rfl) HB.out HF.out) ?_)
                go_meet
                case rel =>
                  have hsp : splice (u8V raw4 ++ rr) A2 (Builtin.zeroCells (Value.int .u8 0).cells U).toList = u8V (splice raw4 A2 (List.replicate U 0)) ++ rr := by rw [zerosU8, splice_front _ _ _ _ (by rw [u8V_length, u8V_length, List.length_replicate]; omega), u8V_splice]
                  rw [show (Value.int .u8 0).cells = #[Value.int .u8 0] from rfl] at hsp
                  rw [hsp]
                  have hB4 := HB.out.setRow (splice (u8V raw4 ++ rr) A2 (Builtin.zeroCells #[Value.int .u8 0] U).toList)
                  rw [hsp] at hB4
                  have hgp : gr ≠ p := by have := H5.out.p_raw; intro e; exact this (by rw [e]; rfl)
                  have hgm : gr ≠ mb := by have := H5.out.mb_raw; intro e; exact this (by rw [e]; rfl)
                  have hlen : (splice raw4 A2 (List.replicate U (0 : UInt8))).length = raw4.length := length_splice _ _ _ (by rw [List.length_replicate]; omega)
                  refine ⟨⟨H5.out.cells.farRow (k := gr) (Ne.symm hgp) _, ?_, H5.out.all.keep (fun g hg => setRow_other _ gr g _ (fun e => H5.out.raw_all (show (Value.slice (some ⟨gr, 0, none⟩) raw4.length rc).ownBlock = some gr from rfl) (by rw [hg, e]))), H5.out.by_.keep (setRow_other _ gr mb _ (Ne.symm hgm))⟩, ⟨(Chg.refl _ _).setRow (g := gr) (.inl (mem_foot.2 (.inr (.inr (.inl rfl))))) _⟩⟩
                  show Row _ _ 1 _ (splice raw4 A2 (List.replicate U (0 : UInt8))).length (u8V (splice raw4 A2 (List.replicate U 0)))
                  rw [hlen]
                  refine Row.mk hB4 (by rw [u8V_length, hlen]; omega) HRC.out.1 HRC.out.2.1 ?_
                  have := HRC.out.2.2
                  rw [List.length_append, u8V_length] at this ⊢
                  rw [hlen]; exact this
          case rest =>
            obtain ⟨H6, HC6⟩ := hcut
            have hkw : I64 (k : Int) := ⟨by omega, by omega⟩
            have hlen2 := HMID.out.length
            obtain ⟨W7, hrun, hM7, hC7⟩ := H6.out.by_.store Try.underlying52 Try.underlying3 (by show s2.all.length < _; omega) (k : Int) (A2 : Int) hkw.wf (WalkArith.wf_i64 ⟨by omega, by omega⟩)
            have HRUN := Mem.Aside.mk hrun
            have t2 := H6.out.c2
            have hpm : p ∉ [mb] := by have := H6.out.p_mb; simpa using this
            have HS8 := Mem.Aside.mk ((H6.out.cells.chg hC7 hpm).alloc (.cells #[.int .i64 (k : Int), .int .i64 (A2 : Int), .int .i64 (n : Int)] 114))
            have HR8 := Mem.Aside.mk ((H6.out.raw.chg hC7 (fun g hg hm => H6.out.mb_raw (by rw [hg]; simp at hm; rw [hm]))).alloc (.cells #[.int .i64 (k : Int), .int .i64 (A2 : Int), .int .i64 (n : Int)] 114))
            have HA8 := Mem.Aside.mk ((H6.out.all.chg hC7 (fun g hg hm => H6.out.mb_all (by rw [hg]; simp at hm; rw [hm]))).alloc (.cells #[.int .i64 (k : Int), .int .i64 (A2 : Int), .int .i64 (n : Int)] 114))
            have HM8 := Mem.Aside.mk (hM7.alloc (.cells #[.int .i64 (k : Int), .int .i64 (A2 : Int), .int .i64 (n : Int)] 114))
            have HX8 : Mem.Aside (Blk (W7.alloc (.cells #[.int .i64 (k : Int), .int .i64 (A2 : Int), .int .i64 (n : Int)] 114)) W7.heap.size 114 (extV ⟨k, A2, n⟩)) := ⟨Blk.newL (extV ⟨k, A2, n⟩) rfl⟩
            have HC8 : Mem.Aside (Chg (foot p rawv allv mb) w (W7.alloc (.cells #[.int .i64 (k : Int), .int .i64 (A2 : Int), .int .i64 (n : Int)] 114))) := ⟨((HC5.out.then HC6.out (fun y hy => by
              rcases mem_foot.1 hy with e | e | e | e
              · exact .inl (mem_foot.2 (.inl e))
              · exact .inl (mem_foot.2 (.inr (.inl e)))
              · rcases HOW5.out y e with e' | e'
                · exact .inl (mem_foot.2 (.inr (.inr (.inl e'))))
                · exact .inr e'
              · exact .inl (mem_foot.2 (.inr (.inr (.inr e)))))).then hC7 (fun y hy => by simp at hy; subst hy; exact .inl (mem_foot.2 (.inr (.inl rfl))))).alloc _⟩
            have HALL := Mem.Aside.mk H6.out.p_all
            have HAM := Mem.Aside.mk H6.out.mb_all
            have HAR := Mem.Aside.mk (fun g (hg : rawv4.ownBlock = some g) => H6.out.raw_all hg)
            have HAP := Mem.Aside.mk H6.out.p_raw
            have HPM := Mem.Aside.mk H6.out.p_mb
            have HXB : Mem.Aside (W7.heap.size ≠ p ∧ allv.ownBlock ≠ some W7.heap.size) := ⟨Nat.ne_of_gt (H6.out.cells.chg hC7 hpm).lt, fun e => Nat.lt_irrefl _ ((H6.out.all.chg hC7 (fun g hg hm => H6.out.mb_all (by rw [hg]; simp at hm; rw [hm]))).lt e)⟩
            clear hrun hM7 hC7 hpm hlen2 t0
            go_wp2_with (refine wpList_mapUpdate (by rfl) _ _ _ _ (by rfl) (.map (some mb)) (.int .i64 (k : Int)) (.int .i64 (A2 : Int)) (by rfl) (by rfl) (by rfl) W7 HRUN.out ?_)
            obtain ⟨xb, hxb⟩ : ∃ xb, xb = W7.heap.size := ⟨_, rfl⟩
            rw [← hxb] at HX8 HXB ⊢
            generalize W7.alloc (.cells #[.int .i64 (k : Int), .int .i64 (A2 : Int), .int .i64 (n : Int)] 114) = W8 at HS8 HR8 HA8 HM8 HX8 HC8 ⊢
            clear hxb t2 HRUN
            have s1 := HS8.out.drew.cellAt (i := 1) rfl
            have x0 : W8.drew.cell? ⟨xb, 0, none⟩ = some (.int .i64 (k : Int)) := HX8.out.drew.cellAt rfl
            have x1 : W8.drew.cell? ⟨xb, 1, none⟩ = some (.int .i64 (A2 : Int)) := HX8.out.drew.cellAt rfl
            have x2 : W8.drew.cell? ⟨xb, 2, none⟩ = some (.int .i64 (n : Int)) := HX8.out.drew.cellAt rfl
            have CB := Mem.Aside.mk (bsearch_calls HA8.out.drew HMID.out.lay.sorted (by rw [HMID.out.length]; omega) ⟨k, A2, n⟩)
            obtain ⟨I, hI0⟩ : ∃ I, I = place ⟨k, A2, n⟩ s2.all := ⟨_, rfl⟩
            rw [← hI0] at CB
            have HI0 := Mem.Aside.mk hI0
            clear hI0
            go_region_held3 (fun w' => w'.cell? ⟨p, 1, none⟩ = some allv ∧ w'.cell? ⟨xb, 0, none⟩ = some (.int .i64 (k : Int)) ∧ w'.cell? ⟨xb, 1, none⟩ = some (.int .i64 (A2 : Int)) ∧ w'.cell? ⟨xb, 2, none⟩ = some (.int .i64 (n : Int)))
              (first | exact ⟨s1, x0, x1, x2⟩ | exact ⟨cell_chg hc9 s1 (by simp), cell_chg hc9 x0 (by simp), cell_chg hc9 x1 (by simp), cell_chg hc9 x2 (by simp)⟩)
              ((go_at_call 63; (with_reducible refine CB.out.mono ?_); rintro e w9 ⟨rfl, hc9⟩))
            have HC9 := Mem.Aside.mk hc9
            clear hc9 s1 x0 x1 x2
            go_wp2
            have HS9 := Mem.Aside.mk (HS8.out.drew.chg HC9.out (by simp))
            have HR9 := Mem.Aside.mk (HR8.out.drew.chg HC9.out (by simp))
            have HA9 := Mem.Aside.mk (HA8.out.drew.chg HC9.out (by simp))
            have HM9 := Mem.Aside.mk (HM8.out.drew.chg HC9.out (by simp))
            have HX9 := Mem.Aside.mk (HX8.out.drew.chg HC9.out (by simp))
            have HC10 : Mem.Aside (Chg (foot p rawv allv mb) w w9) := ⟨HC8.out.drew.then HC9.out (by simp)⟩
            have hle9 : I ≤ s2.all.length := by rw [HI0.out]; exact place_le _ _
            have HS10 := Mem.Aside.mk ((HS9.out.alloc (.cells #[.int .i64 (k : Int), .int .i64 (A2 : Int), .int .i64 (n : Int)] 114)).drew)
            have HR10 := Mem.Aside.mk ((HR9.out.alloc (.cells #[.int .i64 (k : Int), .int .i64 (A2 : Int), .int .i64 (n : Int)] 114)).drew)
            have HA10 := Mem.Aside.mk ((HA9.out.alloc (.cells #[.int .i64 (k : Int), .int .i64 (A2 : Int), .int .i64 (n : Int)] 114)).drew)
            have HM10 := Mem.Aside.mk ((HM9.out.alloc (.cells #[.int .i64 (k : Int), .int .i64 (A2 : Int), .int .i64 (n : Int)] 114)).drew)
            have HC11 := Mem.Aside.mk ((HC10.out.alloc (.cells #[.int .i64 (k : Int), .int .i64 (A2 : Int), .int .i64 (n : Int)] 114)).drew)
            have CI := Mem.Aside.mk (insert_calls HA10.out (by rw [HMID.out.length]; omega) hle9 ⟨k, A2, n⟩ (nb := w9.heap.size) ((Blk.newL (w := w9) (extV ⟨k, A2, n⟩) rfl).drew) (fun e => Nat.lt_irrefl _ (HA9.out.lt e)))
            have hsz : w.heap.size ≤ w9.heap.size := HC10.out.size
            clear hle9
            have HX9' := Mem.Aside.mk HX9.out.drew
            have HX10 := Mem.Aside.mk ((HX9.out.alloc (.cells #[.int .i64 (k : Int), .int .i64 (A2 : Int), .int .i64 (n : Int)] 114)).drew)
            have s9 : w9.cell? ⟨p, 1, none⟩ = some allv := HS9.out.cellAt rfl
            have s10 : (w9.alloc (.cells #[.int .i64 (k : Int), .int .i64 (A2 : Int), .int .i64 (n : Int)] 114)).cell? ⟨p, 1, none⟩ = some allv := HS10.out.cellAt rfl
            have HPX : Mem.Aside (xb ≠ p) := ⟨HXB.out.1⟩
            have x0 : w9.cell? ⟨xb, 0, none⟩ = some (.int .i64 (k : Int)) := HX9.out.cellAt rfl
            have x1 : w9.cell? ⟨xb, 1, none⟩ = some (.int .i64 (A2 : Int)) := HX9.out.cellAt rfl
            have x2 : w9.cell? ⟨xb, 2, none⟩ = some (.int .i64 (n : Int)) := HX9.out.cellAt rfl
            go_region_law (first | (go_simp; go_at_call 65; (with_reducible refine CI.out.mono ?_); rintro e w12 ⟨v', rfl, hA12, hO12, hC12⟩; obtain ⟨a9, c9, rfl⟩ := Row_form hA12; have HA12 := Mem.Aside.mk hA12; have HO12 := Mem.Aside.mk hO12; have HC12 := Mem.Aside.mk hC12; have HS12 := Mem.Aside.mk (HS10.out.chg hC12 (fun hm => HALL.out (Option.mem_toList.1 hm))); have HX12 := Mem.Aside.mk (HX10.out.chg hC12 (fun hm => HXB.out.2 (Option.mem_toList.1 hm))); have s12 : w12.cell? ⟨p, 1, none⟩ = some allv := HS12.out.cellAt rfl; have f12 := HS12.out.frozen 1; clear hA12 hO12 hC12))
            all_goals go_wp2
            all_goals
              go_ret2
              have hIE : insAt s2.all I ⟨k, A2, n⟩ = insertE ⟨k, A2, n⟩ s2.all := by rw [HI0.out]; rfl
              have hA13 := HA12.out
              have hO13 := HO12.out
              have hS13 := HS12.out.set 1 (.slice a9 (insAt s2.all I ⟨k, A2, n⟩).length c9)
              rw [hIE] at hA13 hO13 hS13 ⊢
              have hids : ((⟨k, A2, n⟩ :: s2.all : List Ext).map Ext.id).Nodup := by
                rw [List.map_cons, List.nodup_cons]
                exact ⟨fun hm => HFR.out ((HMID.out.ids.mem_iff).1 hm), HMID.out.lay.ids⟩
              have hln : (insertE ⟨k, A2, n⟩ s2.all).length = s2.all.length + 1 := by have := (insertE_perm ⟨k, A2, n⟩ s2.all).length_eq; simpa using this
              refine ⟨k, ⟨splice raw4 A2 (List.replicate U 0), insertE ⟨k, A2, n⟩ s2.all, s2.used, s2.most⟩, foot p rawv4 (.slice a9 (insertE ⟨k, A2, n⟩ s2.all).length c9) mb, rfl, ⟨rawv4, _, mb, ⟨hS13, ?_, ?_, ?_⟩, rfl⟩, ?_, ?_, ?_⟩
              · exact (HR10.out.chg HC12.out (fun g hg hm => HAR.out g hg (Option.mem_toList.1 hm))).farCell (p := ⟨p, 1, none⟩) HAP.out _
              · refine hA13.farCell (p := ⟨p, 1, none⟩) ?_ _
                rcases hO13 with e | e
                · rw [e]; exact HALL.out
                · rw [e]
                  exact fun e2 => Nat.ne_of_gt HS10.out.lt (Option.some.inj e2)
              · have h1 := ((HM10.out.chg HC12.out (fun hm => HAM.out (Option.mem_toList.1 hm))).farCell (p := ⟨p, 1, none⟩) (Ne.symm HPM.out) (.slice a9 (insertE ⟨k, A2, n⟩ s2.all).length c9))
                show IMap _ _ _ _ (insertE ⟨k, A2, n⟩ s2.all).length (atOf (insertE ⟨k, A2, n⟩ s2.all))
                rw [hln] at h1 ⊢
                refine h1.congr (fun j _ => ?_)
                rw [atOf_perm hids (insertE_perm ⟨k, A2, n⟩ s2.all).symm j]
                unfold atOf
                rw [List.find?_cons]
                by_cases e : j = (k : Int)
                · subst e; simp
                · have e' : ¬ ((k : Int) = j) := fun h => e h.symm
                  simp [e, e']
              · have h1 := HMID.out.took HO.out HLT.out HFR.out HRAW.out (by rw [← HA2.out, ← HUU.out]; exact hle) (by rw [← HA2.out, ← HUU.out]; exact HK.out) (by
                  rw [← HA2.out, ← HUU.out, HMID.out.most, HMID.out.used, ← HUU.out, ← HMM.out]; exact hfit)
                rw [← HA2.out, ← HUU.out] at h1
                exact h1
              · exact (HC11.out.then HC12.out (fun y hy => .inl (mem_foot.2 (.inr (.inr (.inr (Option.mem_toList.1 hy))))))).setCell (p := ⟨p, 1, none⟩) (.inl (mem_foot.2 (.inl rfl))) _
              · intro y hy
                rcases mem_foot.1 hy with e | e | e | e
                · exact .inl (mem_foot.2 (.inl e))
                · exact .inl (mem_foot.2 (.inr (.inl e)))
                · rcases HOW5.out y e with e' | e'
                  · exact .inl (mem_foot.2 (.inr (.inr (.inl e'))))
                  · exact .inr e'
                · rcases hO13 with e' | e'
                  · exact .inl (mem_foot.2 (.inr (.inr (.inr (by rw [← e']; exact e)))))
                  · have h1 := Option.some.inj (e.symm.trans e')
                    have h2 := HC11.out.size
                    exact .inr (by rw [h1]; exact h2)
    · have hkw : (Lit.int .i64 (k : Int)).wf = true := WalkArith.wf_i64 ⟨by omega, by omega⟩
      have hlk := HLK.out (k : Int) hkw
      rw [atOf_isSome_iff] at hlk
      clear hkw
      by_cases c : k ∈ s.all.map Ext.id
      · rw [decide_eq_true c] at hlk
        have HC := Mem.Aside.mk c
        clear c
        have hw := (IntWalk.i64_in ((k : Int) + 1) (by omega) : IntKind.i64.wrap ((k : Int) + 1) = ((k + 1 : Nat) : Int))
        go_wp2
        go_roundw
        case rel =>
          have hlt : ∀ j < k + 1, j ∈ s.all.map Ext.id := fun j hj => by
            by_cases e : j = k
            · rw [e]; exact HC.out
            · exact HLT.out j (by omega)
          exact ⟨k + 1, true, by go_num, rfl, by have := least_le hlt; simpa using this, ⟨hlt⟩, ⟨by simp⟩, trivial⟩
        case measure =>
          have hlt : ∀ j < k + 1, j ∈ s.all.map Ext.id := fun j hj => by
            by_cases e : j = k
            · rw [e]; exact HC.out
            · exact HLT.out j (by omega)
          have := least_le hlt
          simp [intOf, b2n] at this ⊢; omega
      · rw [decide_eq_false c] at hlk
        have HC := Mem.Aside.mk c
        clear c
        go_wp2
        go_roundw
        case rel => exact ⟨k, false, rfl, rfl, hk, HLT, ⟨fun _ => HC.out⟩, trivial⟩
        case measure => simp [intOf, b2n]
end Go.Proofs.Ytgimcpnelogadaa.Sto
