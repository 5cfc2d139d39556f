/- Chapter 6: sweep; Collect. -/
import Derived.Test.YtgimcpnelogadaaHpF
namespace Go.Proofs.Ytgimcpnelogadaa.Hp
open Go.RowKit Go.Proofs.Ytgimcpnelogadaa.Mem Go.Proofs.Ytgimcpnelogadaa.Sto Go.Proofs.Ytgimcpnelogadaa.Wd
set_option linter.unusedVariables false
set_option linter.unusedSimpArgs false
attribute [local go_sem] Option.isNone_some Option.isNone_none
section
variable {w w' : World} {p units used rp most : Nat} {M : List (Option MC)} {cv : Value} {F : List Nat}
theorem usedOf_ge {n : Nat} {m : MC} (h : M[n]? = some (some m)) : m.c.need ≤ usedOf M := by have := usedOf_set h; omega

set_option maxHeartbeats 8000000 in
set_option maxRecDepth 100000 in
theorem sweep_calls (h : HeapAt w p units (usedOf M) M cv rp F most) {mv : Value} {B : List Bool} (hB : B.length = M.length) (hm : Row w 4 1 mv M.length (B.map Value.bool)) (hmv : ∀ g, mv.ownBlock = some g → g ∉ hfoot p cv M F) (hkd : ∀ m, some m ∈ M → m.c.ext ≤ 1000000000) :
    Calls Try.prog 83 #[.pointer (some ⟨p, 0, none⟩), mv] w fun e w' => e = .returned (.tuple #[]) ∧ HeapAt w' p units (usedOf (swK B M.length M)) (swK B M.length M) cv rp F most ∧ Chg (hfoot p cv M F) w w' := by
  obtain ⟨am, cm, rfl⟩ := Row_form hm
  have H := Mem.Aside.mk h
  have HB := Mem.Aside.mk hB
  have HMV := Mem.Aside.mk (And.intro hm hmv)
  have c2 := h.top.cellAt (i := 2) rfl
  obtain ⟨ac, cc, rfl⟩ := Row_form h.row
  have hsm := h.small
  clear h hB hm hmv
  go_enter Try.func83, Try.ntmps83
  refine wp_scope_straight ?_
  go_wp2
  apply wp_label
  go_wp2
  go_loopw [11] (fun i wr => ∃ k : Nat, i = .int .i64 (k : Int) ∧ k ≤ M.length ∧ Mem.Aside (HeapAt wr p units (usedOf (swK B k M)) (swK B k M) (.slice ac M.length cc) rp F most) ∧ Mem.Aside (Chg (hfoot p (.slice ac M.length cc) M F) w wr)) (fun i _ => M.length - (intOf i).toNat)
  case atStart => exact ⟨0, rfl, Nat.zero_le _, ⟨by rw [swK_zero]; exact H.out⟩, ⟨Chg.refl _ _⟩⟩
  case round =>
    obtain ⟨k, rfl, hk, HK, HC⟩ := hrel
    by_cases d : k < M.length
    · have d' : (k : Int) < (M.length : Int) := by omega
      have hwk := (IntWalk.i64_in ((k : Int) + 1) (by omega) : IntKind.i64.wrap ((k : Int) + 1) = ((k + 1 : Nat) : Int))
      have hget : (swK B k M)[k]? = some M[k] := by rw [swK_get, List.getElem?_eq_getElem d]; simp
      have hrowK := HK.out.row
      rw [swK_length] at hrowK
      obtain ⟨gc, capc, hcv, hcell⟩ := row_get1 hrowK (i := k) (u := ptrV M[k]) (by rw [List.getElem?_map, hget]; rfl)
      cases hcv
      have hrm := HMV.out.1.chg HC.out HMV.out.2
      have hkB : k < B.length := by rw [HB.out]; exact d
      obtain ⟨gm, capm, hmv', hmc⟩ := row_get1 hrm (i := k) (u := .bool B[k]) (by rw [List.getElem?_map, List.getElem?_eq_getElem hkB]; rfl)
      cases hmv'
      have hgB : B.getD k false = B[k] := by rw [List.getD_eq_getElem?_getD, List.getElem?_eq_getElem hkB]; rfl
      have HGB := Mem.Aside.mk hgB
      have HGET := Mem.Aside.mk hget
      have HD := Mem.Aside.mk (List.getElem?_eq_getElem d)
      obtain ⟨o, ho⟩ : ∃ o, o = M[k] := ⟨_, rfl⟩
      obtain ⟨bk, hbk⟩ : ∃ bk, bk = B[k] := ⟨_, rfl⟩
      rw [← ho] at hcell HGET HD
      rw [← hbk] at hmc HGB
      clear ho hbk hget hgB hrm hrowK
      cases o with
      | none =>
        simp only [ptrV] at hcell
        go_wp2
        refine ⟨⟨k + 1, by go_num, by omega, ?_, HC⟩, by simp [intOf]; omega⟩
        rw [swK_keep (.inr HD.out)]
        exact HK
      | some m =>
        simp only [ptrV] at hcell
        cases bk with
        | true =>
          go_wp2
          refine ⟨⟨k + 1, by go_num, by omega, ?_, HC⟩, by simp [intOf]; omega⟩
          rw [swK_keep (.inl HGB.out)]
          exact HK
        | false =>
          have hmem : some m ∈ swK B k M := List.mem_of_getElem? HGET.out
          have hneed := usedOf_ge HGET.out
          have hused := HK.out.small
          obtain ⟨U, hU⟩ : ∃ U, U = usedOf (swK B k M) := ⟨_, rfl⟩
          have hUset := usedOf_set HGET.out
          rw [← hU] at hneed hused hUset
          have c1 := HK.out.top.cellAt (i := 1) rfl
          have c3 := HK.out.top.cellAt (i := 3) rfl
          have f1 := HK.out.top.frozen 1
          have k0 := (HK.out.cells m hmem).cellAt (i := 0) rfl
          have k1 := (HK.out.cells m hmem).cellAt (i := 1) rfl
          have k9 := (HK.out.cells m hmem).cellAt (i := 9) rfl
          have k10 := (HK.out.cells m hmem).cellAt (i := 10) rfl
          rw [← hU] at c1
          obtain ⟨V, hV⟩ : ∃ V, V = U - m.c.need := ⟨_, rfl⟩
          have hws : IntKind.i64.wrap (V : Int) = (V : Int) := IntWalk.i64_in _ (by omega)
          have hsub : (U : Int) - (m.c.need : Int) = (V : Int) := by omega
          have HVV : Mem.Aside (V = usedOf (swK B (k + 1) M)) := ⟨by rw [swK_drop HGB.out d]; omega⟩
          have hVu : V ≤ units := by omega
          clear hV
          have HUU := Mem.Aside.mk (And.intro hU (And.intro hUset hmem))
          have HNU := Mem.Aside.mk (And.intro hneed hused)
          have hnp : m.blk ≠ p := fun e => by
            have := HK.out.cells m hmem
            rw [e] at this
            exact absurd (this.inj HK.out.top).1 (by decide)
          have hnp' : p ≠ m.blk := fun e => hnp e.symm
          clear hU hUset hmem hneed hused
          go_upto_region 4 with fail
          refine region_tail 11 (by kernel_rfl) (by kernel_rfl) ?_
          simp only [List.take_succ_cons, List.take_zero, List.drop_succ_cons, List.drop_zero]
          refine StW.out ?_
          iterate 11 (refine still_take (by rfl) (fun K hK => ?_); go_simp; refine hK _ ?_; clear hK K)
          refine still_end ?_
          go_upto_region 5 with fail
          have h1 := (HK.out.top.set 1 (.int .i64 (V : Int))).drew
          have e1 : Chg [p] wr (wr.setCell ⟨p, 1, none⟩ (.int .i64 (V : Int))).drew := ((Chg.refl _ wr).setCell (p := ⟨p, 1, none⟩) (.inl (by simp)) _).drew
          generalize (wr.setCell ⟨p, 1, none⟩ (.int .i64 (V : Int))).drew = W1 at h1 e1 ⊢
          have hmem := HUU.out.2.2
          have hpF : p ∉ F := fun hF => HK.out.apart p hF (by simp)
          have hrawp : Holds W1 rp F (bufs (swK B k M)) most := HK.out.raw.chg e1 (fun j hj hm => by simp at hm; exact hpF (hm ▸ hj))
          have hcm := (HK.out.cells m hmem).chg e1 (by simpa using hnp)
          have hrow1 : Row W1 134 1 (.slice (some ⟨gc, 0, none⟩) M.length cc) M.length ((swK B k M).map ptrV) := by
            have := HK.out.row.chg e1 (fun g hg hm => by
              simp at hm
              obtain ⟨ds, hd⟩ := HK.out.row.typed hg
              rw [hm] at hd
              exact absurd (hd.inj HK.out.top).1 (by decide))
            rw [swK_length] at this
            exact this
          clear c1 c3 f1 k0 k1 k9 k10 hws hsub hcell hmc c2
          have c2 := h1.cellAt (i := 2) rfl
          have c3 := h1.cellAt (i := 3) rfl
          have k0 := hcm.cellAt (i := 0) rfl
          have k1 := hcm.cellAt (i := 1) rfl
          have k9 := hcm.cellAt (i := 9) rfl
          have hperm := bufs_set HGET.out
          have CW := Mem.Aside.mk (width_calls m.c.kind)
          -- how a round ends
          have HFIN : Mem.Aside (∀ W2, Chg F W1 W2 → Holds W2 rp F (bufs ((swK B k M).set k none)) most →
              (∃ k' : Nat, Value.int .i64 ((k : Int) + 1) = .int .i64 (k' : Int) ∧ k' ≤ M.length ∧ Mem.Aside (HeapAt (W2.setCell ⟨gc, k, none⟩ (.pointer none)) p units (usedOf (swK B k' M)) (swK B k' M) (.slice (some ⟨gc, 0, none⟩) M.length cc) rp F most) ∧ Mem.Aside (Chg (hfoot p (.slice (some ⟨gc, 0, none⟩) M.length cc) M F) w (W2.setCell ⟨gc, k, none⟩ (.pointer none))))) := ⟨by
            intro W2 hc2 hh2
            have hgF : gc ∉ F := fun hF => HK.out.apart gc hF (by simp [Value.ownBlock])
            have h2 := (h1.chg hc2 hpF)
            have hrow2 := hrow1.chg hc2 (fun g hg => by cases hg; exact hgF)
            have hgp : gc ≠ p := fun e => by
              obtain ⟨ds, hd⟩ := hrow1.typed (g := gc) rfl
              rw [e] at hd
              exact absurd (hd.inj h1).1 (by decide)
            have e2 : Chg [gc] W2 (W2.setCell ⟨gc, k, none⟩ (.pointer none)) := (Chg.refl _ W2).setCell (p := ⟨gc, k, none⟩) (.inl (by simp)) _
            have eG : Chg (p :: gc :: F) wr (W2.setCell ⟨gc, k, none⟩ (.pointer none)) := ((e1.mono (by simp)).then hc2 (fun x hx => .inl (by simp [hx]))).then e2 (fun x hx => .inl (by simp at hx; simp [hx]))
            refine ⟨k + 1, by go_num, by omega, ⟨?_⟩, ⟨HC.out.then eG (fun x hx => .inl ?_)⟩⟩
            · rw [swK_drop HGB.out d, ← show V = usedOf ((swK B k M).set k none) by rw [HVV.out, swK_drop HGB.out d]]
              refine HK.out.gone HGET.out eG (fun x hx => ?_) (h2.far (p := ⟨gc, k, none⟩) (fun e => hgp e.symm) _) ?_ (hh2.chg e2 (fun x hx hm => by simp at hm; exact hgF (hm ▸ hx))) hVu
              · simp only [List.mem_cons] at hx
                rcases hx with e | e | e
                · exact .inl e
                · exact .inr (.inl (by rw [e]; rfl))
                · exact .inr (.inr e)
              · rw [map_set_ptr, swK_length]
                exact row_set1 hrow2 (by omega) _
            · simp only [List.mem_cons] at hx
              rcases hx with e | e | e
              · exact mem_hfoot.2 (.inl e)
              · exact mem_hfoot.2 (.inr (.inl (by rw [e]; rfl)))
              · exact mem_hfoot.2 (.inr (.inr (.inr (.inr e))))⟩
          have hfz : ∀ W2, Chg F W1 W2 → W2.frozen? ⟨gc, k, none⟩ = false ∧ W2.cell? ⟨gc, k, none⟩ = some (.pointer (some ⟨m.blk, 0, none⟩)) ∧ W2.cell? ⟨p, 2, none⟩ = some (.slice (some ⟨gc, 0, none⟩) M.length cc) := fun W2 hc2 => by
            have hgF : gc ∉ F := fun hF => HK.out.apart gc hF (by simp [Value.ownBlock])
            have hrow2 := hrow1.chg hc2 (fun g hg => by cases hg; exact hgF)
            refine ⟨?_, ?_, (h1.chg hc2 hpF).cellAt (i := 2) rfl⟩
            · rcases hrow2.cases with ⟨h1, _⟩ | ⟨g', cap', rest, h1, hb, _⟩
              · cases h1
              · cases h1; exact hb.frozen k
            · obtain ⟨g', cap', e', hc'⟩ := row_get1 hrow2 (i := k) (u := .pointer (some ⟨m.blk, 0, none⟩)) (by rw [List.getElem?_map, HGET.out]; rfl)
              cases e'
              exact hc'
          have HFZ := Mem.Aside.mk hfz
          have HP := Mem.Aside.mk (And.intro hperm hrawp)
          have hext := hkd m (by
            have := HD.out
            exact List.mem_of_getElem? this)
          obtain ⟨WD, hWD⟩ : ∃ WD, WD = widthN m.c.kind := ⟨_, rfl⟩
          rw [← hWD] at CW
          by_cases z : 0 < WD
          · have z1 : decide ((0 : Int) < (WD : Int)) = true := decide_eq_true (by omega)
            have z2 : (0 : Int) < (WD : Int) := by omega
            cases hv : m.c.view with
            | false =>
              rw [hv] at k1
              have hbuf : m.c.buf = true := by unfold Cel.buf; rw [hv, ← hWD]; simpa using z
              have hp1 : (bufs (swK B k M)).Perm ((m.c.ext, m.c.bytes) :: bufs ((swK B k M).set k none)) := by
                have := hperm
                rw [hbuf, if_pos rfl] at this
                exact this
              have CG := Mem.Aside.mk (give_holds ((hrawp.chg (Chg.refl [] W1).drew (by simp)).perm hp1))
              clear hfz hperm hrawp hcm hrow1 hmem hv hbuf hWD z h1 hp1 HP
              go_upto_region 6 with (go_at_call 80; (with_reducible refine (CW.out _).mono ?_); rintro e w' ⟨rfl, rfl⟩)
              refine region_tail 8 (by kernel_rfl) (by kernel_rfl) ?_
              simp only [List.take_succ_cons, List.take_zero, List.drop_succ_cons, List.drop_zero]
              refine StW.out ?_
              iterate 8 (refine still_take (by rfl) (fun K hK => ?_); go_simp; refine hK _ ?_; clear hK K)
              refine still_end ?_
              go_wp2_with (go_at_call 26; (with_reducible refine CG.out.mono ?_); rintro e w5 ⟨rfl, hh5, hc5⟩; have HH5 := Mem.Aside.mk (And.intro hh5 ((Chg.refl F W1).drew.trans hc5)); obtain ⟨q1, q2, q3⟩ := HFZ.out w5 HH5.out.2; clear hh5 hc5)
              exact ⟨HFIN.out w5 HH5.out.2 HH5.out.1, by simp [intOf]; omega⟩
            | true =>
              rw [hv] at k1
              have hbuf : ¬ m.c.buf = true := by unfold Cel.buf; rw [hv]; simp
              have hh2 : Holds W1 rp F (bufs ((swK B k M).set k none)) most := by
                have := hperm
                rw [if_neg hbuf] at this
                exact hrawp.perm this
              have HH2 := Mem.Aside.mk hh2
              obtain ⟨q1, q2, q3⟩ := hfz W1 (Chg.refl _ _)
              clear hfz hperm hrawp hcm hrow1 hmem hv hbuf hWD z h1 HP hh2
              go_wp2_with (go_at_call 80; (with_reducible refine (CW.out _).mono ?_); rintro e w' ⟨rfl, rfl⟩)
              exact ⟨HFIN.out W1 (Chg.refl _ _) HH2.out, by simp [intOf]; omega⟩
          · have z1 : decide ((0 : Int) < (WD : Int)) = false := decide_eq_false (by omega)
            have z2 : ¬ (0 : Int) < (WD : Int) := by omega
            have hbuf : ¬ m.c.buf = true := by unfold Cel.buf; rw [← hWD]; simp; intro _; omega
            have hh2 : Holds W1 rp F (bufs ((swK B k M).set k none)) most := by
              have := hperm
              rw [if_neg hbuf] at this
              exact hrawp.perm this
            have HH2 := Mem.Aside.mk hh2
            obtain ⟨q1, q2, q3⟩ := hfz W1 (Chg.refl _ _)
            clear hfz hperm hrawp hcm hrow1 hmem hbuf hWD z h1 HP hh2
            go_wp2_with (go_at_call 80; (with_reducible refine (CW.out _).mono ?_); rintro e w' ⟨rfl, rfl⟩)
            exact ⟨HFIN.out W1 (Chg.refl _ _) HH2.out, by simp [intOf]; omega⟩
    · have d' : decide ((k : Int) < (M.length : Int)) = false := decide_eq_false (by omega)
      obtain rfl : k = M.length := by omega
      go_wp2
      rw [Exit.noGoto_normal]
      refine bodyPost_end (results_none rfl _ _ _) rfl ?_
      exact ⟨rfl, HK.out, HC.out⟩
end
end Go.Proofs.Ytgimcpnelogadaa.Hp
