/- Chapter 5, the store, by hand: Pack. -/
import Derived.Test.YtgimcpnelogadaaStR
namespace Go.Proofs.Ytgimcpnelogadaa.Sto
open Go.RowKit Go.Proofs.Ytgimcpnelogadaa.Mem
set_option linter.unusedVariables false
set_option linter.unusedSimpArgs false

/-- The extents' list behind k rounds of a packing. -/
def packK (l : List Ext) (k : Nat) : List Ext := packGo 0 (l.take k) ++ l.drop k
theorem packK_length (l : List Ext) (k : Nat) : (packK l k).length = l.length := by simp [packK, packGo_length]; omega
theorem packK_ids (l : List Ext) (k : Nat) : (packK l k).map Ext.id = l.map Ext.id := by
  rw [packK, List.map_append, packGo_ids, ← List.map_append, List.take_append_drop]
theorem packK_zero (l : List Ext) : packK l 0 = l := by simp [packK, packGo]
theorem packK_all (l : List Ext) : packK l l.length = packGo 0 l := by simp [packK]
theorem packK_getElem? (l : List Ext) {k : Nat} (hk : k < l.length) : (packK l k)[k]? = some l[k] := packGo_getElem? l hk
theorem packK_succ (l : List Ext) {k : Nat} (hk : k < l.length) : packK l (k + 1) = (packK l k).set k { l[k] with at_ := total (l.take k) } := (packGo_take_set l hk).symm

theorem rowV_set (l : List Ext) {k : Nat} (hk : k < l.length) (a : Nat) : rowV (l.set k { l[k] with at_ := a }) = (rowV l).set (k * 3 + 1) (.int .i64 (a : Int)) := by
  induction l generalizing k with
  | nil => cases hk
  | cons x xs ih =>
    cases k with
    | zero => simp [rowV, extV]
    | succ j =>
      have := ih (k := j) (by simpa using hk)
      simp only [List.getElem_cons_succ, List.set_cons_succ, rowV_cons, this]
      rw [List.set_append_right _ _ (by rw [extV_length]; omega), extV_length]
      congr 2; omega

theorem atOf_set {l : List Ext} (hn : (l.map Ext.id).Nodup) {k : Nat} (hk : k < l.length) (a : Nat) (j : Int) : atOf (l.set k { l[k] with at_ := a }) j = if j = (l[k].id : Int) then some (a : Int) else atOf l j := by
  have hids : (l.set k { l[k] with at_ := a }).map Ext.id = l.map Ext.id := by
    rw [List.map_set]
    apply List.ext_getElem?
    intro i
    rw [List.getElem?_set]
    split
    · rename_i e; subst e
      simp [hk]
    · rfl
  have hn' : ((l.set k { l[k] with at_ := a }).map Ext.id).Nodup := by rw [hids]; exact hn
  split
  · rename_i e; subst e
    exact atOf_some (x := { l[k] with at_ := a }) hn' (List.mem_set hk _)
  · rename_i e
    by_cases c : ∃ x ∈ l, (x.id : Int) = j
    · obtain ⟨x, hx, rfl⟩ := c
      rw [atOf_some hn hx]
      refine atOf_some hn' ?_
      obtain ⟨i, hi, rfl⟩ := List.getElem_of_mem hx
      have hik : k ≠ i := fun h => e (by subst h; rfl)
      have := List.getElem_mem (l := l.set k { l[k] with at_ := a }) (n := i) (by simpa using hi)
      rwa [List.getElem_set_ne hik] at this
    · rw [atOf_none (fun x hx e' => c ⟨x, hx, e'⟩), atOf_none (fun x hx e' => ?_)]
      obtain ⟨i, hi, rfl⟩ := List.getElem_of_mem hx
      have hi' : i < l.length := by simpa using hi
      rw [List.getElem_set] at e'
      split at e'
      · rename_i h; exact e e'.symm
      · exact c ⟨_, List.getElem_mem hi', e'⟩

/-- A store into a map, its run being known. -/
theorem wpList_mapUpdate {P : Program} {w : World} {ops : Array Oper} {rest : List Oper} {o : Oper} {a : Act} {Q : Exit → Act → World → Prop} (hgd : o.guard = none) (m x v : Operand) (t : TypeId) (ho : o.op = Op.mapUpdate t m x v)
    (vm vx vv : Value) (hm : a.eval m = vm) (hx : a.eval x = vx) (hv : a.eval v = vv) (w' : World) (hr : (Instr.mapUpdate t vm vx vv).run P w = .ok () w') (h : wpList P ops Q rest (a.put o.dst undef) w') : wpList P ops Q (o :: rest) a w := by
  refine wpList_plain hgd fun K' hK' => ?_
  unfold Oper.wp
  simp [execOp, ho, hm, hx, hv, hr, Result.andThen]
  exact hK' _ _ h
theorem splice_front {α : Type} (a r b : List α) (o : Nat) (h : o + b.length ≤ a.length) : splice (a ++ r) o b = splice a o b ++ r := by
  rw [splice_def, splice_def, List.take_append_of_le_length (by omega), List.drop_append_of_le_length (by omega)]
  simp only [List.append_assoc]
theorem u8V_splice (r b : List UInt8) (o : Nat) : u8V (splice r o b) = splice (u8V r) o (u8V b) := by
  simp [splice_def, u8V]
theorem u8V_length (r : List UInt8) : (u8V r).length = r.length := by simp [u8V]
theorem u8V_one (r : List UInt8) : ∀ v ∈ u8V r, v.oneCell' = true := by
  intro v hv
  simp only [u8V, List.mem_map] at hv
  obtain ⟨b, _, rfl⟩ := hv
  rfl
theorem u8V_sl (r : List UInt8) (a n j : Nat) (v : Value) (h : (u8V (sl r a n))[j]? = some v) : (u8V r)[a + j]? = some v := by
  simp only [u8V, List.getElem?_map] at h ⊢
  by_cases c : j < n
  · rwa [sl_getElem? _ _ _ _ c] at h
  · have : (sl r a n)[j]? = none := List.getElem?_eq_none (by simp [sl]; omega)
    rw [this] at h
    cases h
theorem splice_nil {α : Type} (r : List α) (o : Nat) : splice r o [] = r := by simp [splice_def]
theorem szU8 : (Try.prog.info? 5).map (·.size) = some 1 := by kernel_rfl

theorem rowV_packK (l : List Ext) {k : Nat} (hk : k < l.length) : rowV (packK l (k + 1)) = (rowV (packK l k)).set (k * 3 + 1) (.int .i64 (total (l.take k) : Nat)) := by
  obtain ⟨h, e⟩ := List.getElem?_eq_some_iff.1 (packK_getElem? l hk)
  rw [packK_succ l hk, ← e, rowV_set _ h]
theorem atOf_packK {l : List Ext} (hn : (l.map Ext.id).Nodup) {k : Nat} (hk : k < l.length) (j : Int) : atOf (packK l (k + 1)) j = if j = (l[k].id : Int) then some (total (l.take k) : Int) else atOf (packK l k) j := by
  obtain ⟨h, e⟩ := List.getElem?_eq_some_iff.1 (packK_getElem? l hk)
  rw [packK_succ l hk, ← e, atOf_set (by rw [packK_ids]; exact hn) h]
theorem packK_some {l : List Ext} {k : Nat} {j : Int} (h : (atOf (packK l k) j).isSome) : j ∈ l.map fun x => (x.id : Int) := by
  obtain ⟨x, hx, rfl⟩ := atOf_isSome h
  have : x.id ∈ (packK l k).map Ext.id := List.mem_map_of_mem hx
  rw [packK_ids, List.mem_map] at this
  obtain ⟨y, hy, e⟩ := this
  exact List.mem_map.2 ⟨y, hy, by rw [e]⟩

set_option maxHeartbeats 4000000 in
set_option maxRecDepth 100000 in
theorem pack_calls {w : World} {p mb : Nat} {s : St} {rawv allv : Value} (h : StoAt w p s rawv allv mb) (ho : Lies s) (hl : s.all.length ≤ 1000000000) (hr : s.raw.length ≤ 1000000000000) (hI : ∀ x ∈ s.all, I64 (x.id : Int)) :
    Calls Try.prog 27 #[.pointer (some ⟨p, 0, none⟩)] w fun e w' => ∃ s' rawv', e = .returned (.tuple #[]) ∧ StoAt w' p s' rawv' allv mb ∧ rawv'.ownBlock = rawv.ownBlock ∧ Chg (foot p rawv allv mb) w w' ∧
      ∃ raw, Packing s.all s.raw s.all.length raw ∧ s'.raw = raw.take (total s.all) ∧ s'.all.Perm (packGo 0 s.all) ∧ s'.all.Pairwise Ext.lt ∧ s'.used = s.used ∧ s'.most = s.most := by
  have H := Mem.Aside.mk h
  have HO := Mem.Aside.mk ho
  have HI := Mem.Aside.mk hI
  have h1 := h.c1
  obtain ⟨a0, c0, rfl⟩ := Row_form h.all
  clear h ho hI
  go_enter Try.func27, Try.ntmps27
  go_wp2
  go_loopw [2, 10] (fun e i wr => ∃ (k : Nat) (raw : List UInt8), i = .int .i64 (k : Int) ∧ e = .int .i64 (total (s.all.take k) : Nat) ∧ k ≤ s.all.length ∧ Mem.Aside (Packing s.all s.raw k raw) ∧ Mem.Aside (Blk wr p 111 (stV rawv (.slice a0 s.all.length c0) (.map (some mb)) s.used s.most)) ∧
      Mem.Aside (Row wr 5 1 rawv s.raw.length (u8V raw)) ∧ Mem.Aside (Row wr 114 3 (.slice a0 s.all.length c0) s.all.length (rowV (packK s.all k))) ∧ Mem.Aside (IMap Try.prog 3 wr mb s.all.length (atOf (packK s.all k))) ∧ Mem.Aside (Chg (foot p rawv (.slice a0 s.all.length c0) mb) w wr))
    (fun _ i _ => s.all.length - (intOf i).toNat)
  case atStart => exact ⟨0, s.raw, rfl, rfl, Nat.zero_le _, ⟨Packing.start _ _⟩, ⟨H.out.cells⟩, ⟨H.out.raw⟩, ⟨by rw [packK_zero]; exact H.out.all⟩, ⟨by rw [packK_zero]; exact H.out.by_⟩, ⟨Chg.refl _ _⟩⟩
  case round =>
    obtain ⟨k, raw, rfl, rfl, hk, HP, HS, HR, HA, HM, HC⟩ := hrel
    by_cases c : k < s.all.length
    · rcases HA.out.cases with ⟨_, h2, _⟩ | ⟨g, cap, rest, hv, hb, hn, hcap, hlen⟩
      · omega
      cases hv
      have hpk : (packK s.all k)[k]? = some s.all[k] := packK_getElem? s.all c
      obtain ⟨hkl, hpk'⟩ := List.getElem?_eq_some_iff.1 hpk
      obtain ⟨r0, r1, r2⟩ := rowV_get (packK s.all k) hkl
      rw [hpk'] at r0 r1 r2
      obtain ⟨x, hx⟩ : ∃ x, x = s.all[k] := ⟨_, rfl⟩
      rw [← hx] at r0 r1 r2
      have k0 := hb.cellAt (List.getElem?_append_left_some (b := rest) r0)
      have k1 := hb.cellAt (List.getElem?_append_left_some (b := rest) r1)
      have k2 := hb.cellAt (List.getElem?_append_left_some (b := rest) r2)
      have HX := Mem.Aside.mk hx
      have HL := Mem.Aside.mk (And.intro hn (And.intro hcap hlen))
      have HBG := Mem.Aside.mk hb
      have R1 := Mem.Aside.mk r1
      have hc' : (k : Int) < (s.all.length : Int) := by omega
      clear hpk hpk' hkl r0 r1 r2 hx hb hn hcap hlen
      go_wp2
      have HS1 := Mem.Aside.mk (HS.out.alloc (.cells #[.int .i64 (x.id : Int), .int .i64 (x.at_ : Int), .int .i64 (x.len : Int)] 114))
      have HR1 := Mem.Aside.mk (HR.out.alloc (.cells #[.int .i64 (x.id : Int), .int .i64 (x.at_ : Int), .int .i64 (x.len : Int)] 114))
      have HB1 := Mem.Aside.mk (HBG.out.alloc (.cells #[.int .i64 (x.id : Int), .int .i64 (x.at_ : Int), .int .i64 (x.len : Int)] 114))
      have HM1 := Mem.Aside.mk (HM.out.alloc (.cells #[.int .i64 (x.id : Int), .int .i64 (x.at_ : Int), .int .i64 (x.len : Int)] 114))
      have HC1 := Mem.Aside.mk (HC.out.alloc (.cells #[.int .i64 (x.id : Int), .int .i64 (x.at_ : Int), .int .i64 (x.len : Int)] 114))
      have HX1 : Mem.Aside (Blk (wr.alloc (.cells #[.int .i64 (x.id : Int), .int .i64 (x.at_ : Int), .int .i64 (x.len : Int)] 114)) wr.heap.size 114 (extV x)) := ⟨Blk.newL (extV x) rfl⟩
      obtain ⟨xb, hxb⟩ : ∃ xb, xb = wr.heap.size := ⟨_, rfl⟩
      rw [← hxb] at HX1 ⊢
      have HXB : Mem.Aside (xb ≠ p ∧ xb ≠ g ∧ xb ≠ mb ∧ rawv.ownBlock ≠ some xb) := ⟨by
        have h1 := HS.out.lt
        have h2 := HBG.out.lt
        have h3 := HM.out.lt
        refine ⟨by omega, by omega, by omega, fun e => ?_⟩
        have := HR.out.lt e
        omega⟩
      clear k0 k1 k2 hxb
      generalize wr.alloc (.cells #[.int .i64 (x.id : Int), .int .i64 (x.at_ : Int), .int .i64 (x.len : Int)] 114) = W1 at HS1 HR1 HB1 HM1 HC1 HX1 ⊢
      obtain ⟨N, hN⟩ : ∃ N, N = x.len := ⟨_, rfl⟩
      obtain ⟨A, hA⟩ : ∃ A, A = x.at_ := ⟨_, rfl⟩
      obtain ⟨E, hE⟩ : ∃ E, E = total (s.all.take k) := ⟨_, rfl⟩
      have hin : A + N ≤ s.raw.length ∧ E + N ≤ s.raw.length ∧ (0 < N → E ≤ A) := by
        have h1 := HO.out.lay.inside s.all[k] (List.getElem_mem c)
        have h2 := up_ge s.all[k].len
        have h3 := HO.out.lay.total_take (k + 1)
        rw [total_take_succ s.all c] at h3
        rw [hN, hA, hE, HX.out]
        exact ⟨by omega, by omega, fun h0 => HO.out.lay.ahead_at c h0⟩
      obtain ⟨i1, i2, i3⟩ := hin
      have HP1 := Mem.Aside.mk (HP.out.step HO.out.lay c)
      rw [← HX.out, ← hN, ← hA, ← hE] at HP1
      have x0 := HX1.out.cellAt (i := 0) rfl
      have x1 := HX1.out.cellAt (i := 1) rfl
      have x2 := HX1.out.cellAt (i := 2) rfl
      have s0 := HS1.out.cellAt (i := 0) rfl
      rw [← hA] at x1
      rw [← hN] at x2
      rw [← hE]
      have HNA := Mem.Aside.mk (And.intro hN (And.intro hA hE))
      have hw := (IntWalk.i64_in ((A : Int) + (N : Int)) (by omega) : IntKind.i64.wrap ((A : Int) + (N : Int)) = ((A + N : Nat) : Int))
      clear hN hA hE
      have hw0 : IntKind.i64.wrap 0 = 0 := by decide
      have hwA := (IntWalk.i64_in (A : Int) (by omega) : IntKind.i64.wrap (A : Int) = (A : Int))
      rcases HR1.out.cases with ⟨rfl, h2, h3⟩ | ⟨gr, rc, rr, rfl, hbr, hrn, hrc, hrl⟩
      · obtain rfl : A = 0 := by omega
        obtain rfl : N = 0 := by omega
        obtain rfl : E = 0 := by omega
        refine region_tail 18 (by kernel_rfl) (by kernel_rfl) ?_
        simp only [List.take_succ_cons, List.take_zero, List.drop_succ_cons, List.drop_zero]
        repeat still_step
        refine wpStill_nil ?_
        refine wpList_builtin2 _ (by rfl) .copy _ _ _ (by rfl) (.slice none 0 0) (.slice none 0 0) (by rfl) (by rfl) _ _ (fun c => run_copy_zero W1.drew Try.underlying57 (by kernel_rfl) (by simp) c) ?_
        have HT : Mem.Aside (∃ raw2, Packing s.all s.raw (k + 1) raw2 ∧ Row W1.drew 5 1 (.slice none 0 0) s.raw.length (u8V raw2)) := ⟨raw, by have := HP1.out; rw [sl_zero, splice_nil] at this; exact this, HR1.out.drew⟩
        have HS2 := Mem.Aside.mk HS1.out.drew
        have HB2 := Mem.Aside.mk HB1.out.drew
        have HM2 := Mem.Aside.mk HM1.out.drew
        have HC2 := Mem.Aside.mk HC1.out.drew
        have HX2 := Mem.Aside.mk HX1.out.drew
        clear x0 x1 x2 s0
        generalize W1.drew = W2 at HT HS2 HB2 HM2 HC2 HX2 ⊢
        obtain ⟨raw2, hP2, hR2⟩ := HT.out
        have HP2 := Mem.Aside.mk hP2
        have HR2 := Mem.Aside.mk hR2
        have hgp : g ≠ p := by have := H.out.p_all; intro e; exact this (by rw [e]; rfl)
        have hgm : g ≠ mb := by have := H.out.mb_all; intro e; exact this (by rw [e]; rfl)
        have hgx : xb ≠ g := HXB.out.2.1
        have s1 := HS2.out.cellAt (i := 1) rfl
        have k1 := HB2.out.cellAt (List.getElem?_append_left_some (b := rest) R1.out)
        have kf := HB2.out.frozen (k * 3 + 1)
        have HR3 := Mem.Aside.mk (hR2.farCell (p := ⟨g, k * 3 + 1, none⟩) (by intro e; exact (H.out.raw_all e) rfl) (.int .i64 (0 : Int)))
        have HB3 : Mem.Aside (Blk (W2.setCell ⟨g, k * 3 + 1, none⟩ (.int .i64 (0 : Int))) g 114 (rowV (packK s.all (k + 1)) ++ rest)) := ⟨by
          rw [show (0 : Int) = ((total (s.all.take k) : Nat) : Int) by have := HNA.out.2.2; omega]
          have := HB2.out.set (k * 3 + 1) (.int .i64 ((total (s.all.take k) : Nat) : Int))
          rwa [List.set_append_left _ _ (by rw [rowV_length, packK_length]; omega), ← rowV_packK s.all c] at this⟩
        have HS3 := Mem.Aside.mk (HS2.out.far (p := ⟨g, k * 3 + 1, none⟩) (Ne.symm hgp) (.int .i64 (0 : Int)))
        have HM3 := Mem.Aside.mk (HM2.out.farCell (p := ⟨g, k * 3 + 1, none⟩) (Ne.symm hgm) (.int .i64 (0 : Int)))
        have HX3 := Mem.Aside.mk (HX2.out.far (p := ⟨g, k * 3 + 1, none⟩) hgx (.int .i64 (0 : Int)))
        have HC3 := Mem.Aside.mk (HC2.out.setCell (p := ⟨g, k * 3 + 1, none⟩) (.inl (mem_foot.2 (.inr (.inr (.inr rfl))))) (.int .i64 (0 : Int)))
        clear hP2 hR2 hgp hgm hgx
        go_wp2
        clear s1 k1 kf
        generalize W2.setCell ⟨g, k * 3 + 1, none⟩ (.int .i64 (0 : Int)) = W3 at HR3 HB3 HS3 HM3 HX3 HC3 ⊢
        have s2 := HS3.out.cellAt (i := 2) rfl
        have x0 := HX3.out.cellAt (i := 0) rfl
        refine region_tail 7 (by kernel_rfl) (by kernel_rfl) ?_
        simp only [List.take_succ_cons, List.take_zero, List.drop_succ_cons, List.drop_zero]
        repeat still_step
        refine wpStill_nil ?_
        obtain ⟨W4, hrun, hM4, hC4⟩ := HM3.out.drew.store Try.underlying52 Try.underlying3 (by omega) (x.id : Int) (0 : Int) (I64.wf (by have := HI.out s.all[k] (List.getElem_mem c); rw [← HX.out] at this; exact this)) (WalkArith.wf_i64 ⟨by omega, by omega⟩)
        refine wpList_mapUpdate (by rfl) _ _ _ _ (by rfl) (.map (some mb)) (.int .i64 (x.id : Int)) (.int .i64 (0 : Int)) (by rfl) (by rfl) (by rfl) W4 hrun ?_
        have HR4 := Mem.Aside.mk (HR3.out.drew.chg hC4 (by intro k hk hm; simp at hm; subst hm; exact H.out.mb_raw hk))
        have HB4 := Mem.Aside.mk (HB3.out.drew.chg hC4 (by have := H.out.mb_all; intro hm; simp at hm; subst hm; exact this rfl))
        have HS4 := Mem.Aside.mk (HS3.out.drew.chg hC4 (by have := H.out.p_mb; simpa using this))
        have HX4 := Mem.Aside.mk (HX3.out.drew.chg hC4 (by have := HXB.out.2.2.1; simpa using this))
        have HC4 := Mem.Aside.mk (HC3.out.drew.then hC4 (fun y hy => by simp at hy; subst hy; exact .inl (mem_foot.2 (.inr (.inl rfl)))))
        have HM4 : Mem.Aside (IMap Try.prog 3 W4 mb s.all.length (atOf (packK s.all (k + 1)))) := ⟨by
          have h1 := hM4.congr (g := atOf (packK s.all (k + 1))) (fun j _ => by rw [atOf_packK HO.out.lay.ids c, ← HX.out]; split <;> simp_all [HNA.out.2.2])
          have h2 := h1.tight Try.underlying3 (s.all.map fun x => (x.id : Int)) (fun j hj => packK_some hj)
          rwa [List.length_map] at h2⟩
        clear s2 x0 hrun hM4 hC4
        have x2 := HX4.out.cellAt (i := 2) rfl
        have hxl : x.len ≤ 1000000000000 := by
          have h1 := HO.out.lay.inside s.all[k] (List.getElem_mem c)
          have h2 := up_ge s.all[k].len
          rw [HX.out]; omega
        have HU := Mem.Aside.mk (fun (w : World) => up_calls x.len w hxl)
        have hsum : 0 + up x.len ≤ 1000000000000 := by
          have h3 := HO.out.lay.total_take (k + 1)
          rw [total_take_succ s.all c, ← HX.out] at h3
          have := HNA.out.2.2
          omega
        obtain ⟨U, hU⟩ : ∃ U, U = up x.len := ⟨_, rfl⟩
        rw [← hU] at HU hsum
        have HUU := Mem.Aside.mk hU
        clear hU hxl
        have hw1 := (IntWalk.i64_in ((0 : Int) + (U : Int)) (by omega) : IntKind.i64.wrap ((0 : Int) + (U : Int)) = ((0 + U : Nat) : Int))
        have hw2 := (IntWalk.i64_in ((k : Int) + 1) (by omega) : IntKind.i64.wrap ((k : Int) + 1) = ((k + 1 : Nat) : Int))
        go_wp2_with (go_at_call 61; (with_reducible refine (HU.out _).mono ?_); rintro e w5 ⟨rfl, rfl⟩)
        go_roundw
        case rel =>
          refine ⟨k + 1, raw2, by go_num, ?_, by omega, HP2, HS4, HR4, ⟨?_⟩, HM4, HC4⟩
          · rw [total_take_succ s.all c, ← HX.out, ← HNA.out.2.2, HUU.out]; simp
          · exact Row.mk HB4.out (by rw [rowV_length, packK_length]) HL.out.1 HL.out.2.1 (by have := HL.out.2.2; rw [List.length_append, rowV_length, packK_length] at this ⊢; exact this)
        case measure => simp [intOf]; omega
      · have q1 : A + N ≤ rc := by omega
        have q2 : A ≤ rc := by omega
        have q3 : E ≤ rc := by omega
        have q0 : E ≤ s.raw.length := by omega
        have q6 : A ≤ A + N := by omega
        have q7 : (0 : Int) ≤ (A : Int) + (N : Int) := by omega
        have q8 : (A : Int) + (N : Int) ≤ (rc : Int) := by omega
        have q9 : ((A : Int) + (N : Int)).toNat = A + N := by omega
        by_cases h0 : N = 0
        · subst h0
          refine region_tail 18 (by kernel_rfl) (by kernel_rfl) ?_
          simp only [List.take_succ_cons, List.take_zero, List.drop_succ_cons, List.drop_zero]
          repeat still_step
          refine wpStill_nil ?_
          refine wpList_builtin2 _ (by rfl) .copy _ _ _ (by rfl) (.slice _ (s.raw.length - E) (rc - E)) (.slice _ 0 (rc - A)) (by rfl) (by rfl) _ _ (fun c => run_copy_zero W1.drew Try.underlying57 (by kernel_rfl) (by simp) c) ?_
          generalize Value.slice (if rc = E then some (⟨gr, 0, none⟩ : Addr) else some ⟨gr, E, none⟩) (s.raw.length - E) (rc - E) = Z1
          generalize Value.slice (if rc = A then some (⟨gr, 0, none⟩ : Addr) else some ⟨gr, A, none⟩) 0 (rc - A) = Z2
          have HT : Mem.Aside (∃ raw2, Packing s.all s.raw (k + 1) raw2 ∧ Row W1.drew 5 1 (.slice (some ⟨gr, 0, none⟩) s.raw.length rc) s.raw.length (u8V raw2)) := ⟨raw, by have := HP1.out; rw [sl_zero, splice_nil] at this; exact this, HR1.out.drew⟩
          have HS2 := Mem.Aside.mk HS1.out.drew
          have HB2 := Mem.Aside.mk HB1.out.drew
          have HM2 := Mem.Aside.mk HM1.out.drew
          have HC2 := Mem.Aside.mk HC1.out.drew
          have HX2 := Mem.Aside.mk HX1.out.drew
          clear x0 x1 x2 s0
          generalize W1.drew = W2 at HT HS2 HB2 HM2 HC2 HX2 ⊢
          obtain ⟨raw2, hP2, hR2⟩ := HT.out
          have HP2 := Mem.Aside.mk hP2
          have HR2 := Mem.Aside.mk hR2
          have hgp : g ≠ p := by have := H.out.p_all; intro e; exact this (by rw [e]; rfl)
          have hgm : g ≠ mb := by have := H.out.mb_all; intro e; exact this (by rw [e]; rfl)
          have hgx : xb ≠ g := HXB.out.2.1
          have s1 := HS2.out.cellAt (i := 1) rfl
          have k1 := HB2.out.cellAt (List.getElem?_append_left_some (b := rest) R1.out)
          have kf := HB2.out.frozen (k * 3 + 1)
          have HR3 := Mem.Aside.mk (hR2.farCell (p := ⟨g, k * 3 + 1, none⟩) (by intro e; exact (H.out.raw_all e) rfl) (.int .i64 (E : Int)))
          have HB3 : Mem.Aside (Blk (W2.setCell ⟨g, k * 3 + 1, none⟩ (.int .i64 (E : Int))) g 114 (rowV (packK s.all (k + 1)) ++ rest)) := ⟨by
            rw [show (E : Int) = ((total (s.all.take k) : Nat) : Int) by have := HNA.out.2.2; omega]
            have := HB2.out.set (k * 3 + 1) (.int .i64 ((total (s.all.take k) : Nat) : Int))
            rwa [List.set_append_left _ _ (by rw [rowV_length, packK_length]; omega), ← rowV_packK s.all c] at this⟩
          have HS3 := Mem.Aside.mk (HS2.out.far (p := ⟨g, k * 3 + 1, none⟩) (Ne.symm hgp) (.int .i64 (E : Int)))
          have HM3 := Mem.Aside.mk (HM2.out.farCell (p := ⟨g, k * 3 + 1, none⟩) (Ne.symm hgm) (.int .i64 (E : Int)))
          have HX3 := Mem.Aside.mk (HX2.out.far (p := ⟨g, k * 3 + 1, none⟩) hgx (.int .i64 (E : Int)))
          have HC3 := Mem.Aside.mk (HC2.out.setCell (p := ⟨g, k * 3 + 1, none⟩) (.inl (mem_foot.2 (.inr (.inr (.inr rfl))))) (.int .i64 (E : Int)))
          clear hP2 hR2 hgp hgm hgx
          go_wp2
          clear s1 k1 kf
          generalize W2.setCell ⟨g, k * 3 + 1, none⟩ (.int .i64 (E : Int)) = W3 at HR3 HB3 HS3 HM3 HX3 HC3 ⊢
          have s2 := HS3.out.cellAt (i := 2) rfl
          have x0 := HX3.out.cellAt (i := 0) rfl
          refine region_tail 7 (by kernel_rfl) (by kernel_rfl) ?_
          simp only [List.take_succ_cons, List.take_zero, List.drop_succ_cons, List.drop_zero]
          repeat still_step
          refine wpStill_nil ?_
          obtain ⟨W4, hrun, hM4, hC4⟩ := HM3.out.drew.store Try.underlying52 Try.underlying3 (by omega) (x.id : Int) (E : Int) (I64.wf (by have := HI.out s.all[k] (List.getElem_mem c); rw [← HX.out] at this; exact this)) (WalkArith.wf_i64 ⟨by omega, by omega⟩)
          refine wpList_mapUpdate (by rfl) _ _ _ _ (by rfl) (.map (some mb)) (.int .i64 (x.id : Int)) (.int .i64 (E : Int)) (by rfl) (by rfl) (by rfl) W4 hrun ?_
          have HR4 := Mem.Aside.mk (HR3.out.drew.chg hC4 (by intro k hk hm; simp at hm; subst hm; exact H.out.mb_raw hk))
          have HB4 := Mem.Aside.mk (HB3.out.drew.chg hC4 (by have := H.out.mb_all; intro hm; simp at hm; subst hm; exact this rfl))
          have HS4 := Mem.Aside.mk (HS3.out.drew.chg hC4 (by have := H.out.p_mb; simpa using this))
          have HX4 := Mem.Aside.mk (HX3.out.drew.chg hC4 (by have := HXB.out.2.2.1; simpa using this))
          have HC4 := Mem.Aside.mk (HC3.out.drew.then hC4 (fun y hy => by simp at hy; subst hy; exact .inl (mem_foot.2 (.inr (.inl rfl)))))
          have HM4 : Mem.Aside (IMap Try.prog 3 W4 mb s.all.length (atOf (packK s.all (k + 1)))) := ⟨by
            have h1 := hM4.congr (g := atOf (packK s.all (k + 1))) (fun j _ => by rw [atOf_packK HO.out.lay.ids c, ← HX.out]; split <;> simp_all [HNA.out.2.2])
            have h2 := h1.tight Try.underlying3 (s.all.map fun x => (x.id : Int)) (fun j hj => packK_some hj)
            rwa [List.length_map] at h2⟩
          clear s2 x0 hrun hM4 hC4
          have x2 := HX4.out.cellAt (i := 2) rfl
          have hxl : x.len ≤ 1000000000000 := by
            have h1 := HO.out.lay.inside s.all[k] (List.getElem_mem c)
            have h2 := up_ge s.all[k].len
            rw [HX.out]; omega
          have HU := Mem.Aside.mk (fun (w : World) => up_calls x.len w hxl)
          have hsum : E + up x.len ≤ 1000000000000 := by
            have h3 := HO.out.lay.total_take (k + 1)
            rw [total_take_succ s.all c, ← HX.out] at h3
            have := HNA.out.2.2
            omega
          obtain ⟨U, hU⟩ : ∃ U, U = up x.len := ⟨_, rfl⟩
          rw [← hU] at HU hsum
          have HUU := Mem.Aside.mk hU
          clear hU hxl
          have hw1 := (IntWalk.i64_in ((E : Int) + (U : Int)) (by omega) : IntKind.i64.wrap ((E : Int) + (U : Int)) = ((E + U : Nat) : Int))
          have hw2 := (IntWalk.i64_in ((k : Int) + 1) (by omega) : IntKind.i64.wrap ((k : Int) + 1) = ((k + 1 : Nat) : Int))
          go_wp2_with (go_at_call 61; (with_reducible refine (HU.out _).mono ?_); rintro e w5 ⟨rfl, rfl⟩)
          go_roundw
          case rel =>
            refine ⟨k + 1, raw2, by go_num, ?_, by omega, HP2, HS4, HR4, ⟨?_⟩, HM4, HC4⟩
            · rw [total_take_succ s.all c, ← HX.out, ← HNA.out.2.2, HUU.out]; simp
            · exact Row.mk HB4.out (by rw [rowV_length, packK_length]) HL.out.1 HL.out.2.1 (by have := HL.out.2.2; rw [List.length_append, rowV_length, packK_length] at this ⊢; exact this)
          case measure => simp [intOf]; omega
        · have q4 : ¬ rc = A := by omega
          have q5 : ¬ rc = E := by omega
          refine region_tail 18 (by kernel_rfl) (by kernel_rfl) ?_
          simp only [List.take_succ_cons, List.take_zero, List.drop_succ_cons, List.drop_zero]
          repeat still_step
          refine wpStill_nil ?_
          have hsl : (sl raw A N).length = N := sl_length (by rw [HP.out.length]; omega)
          have hd : Nat.min N (s.raw.length - E) = N := Nat.min_eq_left (by omega)
          have hrl' : (u8V raw).length = s.raw.length := by rw [u8V_length, HP.out.length]
          have hbd := Mem.Aside.mk hbr.drew
          have hRUN := Mem.Aside.mk (fun consts ty => run_copy_blk (P := Try.prog) W1.drew (dT := 57) (sT := 57) (ty := ty) Try.underlying57 szU8 (g := gr) (o := E) (dLen := s.raw.length - E) (dCap := rc - E) (ad := ⟨gr, A, none⟩) (sLen := N) (sCap := rc - A) hbd.out (cs := u8V (sl raw A N))
            (by rw [u8V_length, hsl, hd]; omega) (hbd.out.from (fun j u hu => List.getElem?_append_left_some (u8V_sl raw A N j u hu))) (by rw [List.length_append, u8V_length, hsl, hrl']; omega) (u8V_one _) consts)
          rw [hd] at hRUN
          refine wpList_builtin2 _ (by rfl) .copy _ _ _ (by rfl) (.slice (some ⟨gr, E, none⟩) (s.raw.length - E) (rc - E)) (.slice (some ⟨gr, A, none⟩) N (rc - A)) (by rfl) (by rfl) _ _ (fun c => hRUN.out c _) ?_
          have hsp : splice (u8V raw ++ rr) E (u8V (sl raw A N)) = u8V (splice raw E (sl raw A N)) ++ rr := by rw [splice_front _ _ _ _ (by rw [u8V_length, hsl, hrl']; omega), u8V_splice]
          have hB4 := hbd.out.setRow (splice (u8V raw ++ rr) E (u8V (sl raw A N)))
          rw [hsp] at hB4 ⊢
          have hgp : gr ≠ p := by have := H.out.p_raw; intro e; exact this (by rw [e]; rfl)
          have hgm : gr ≠ mb := by have := H.out.mb_raw; intro e; exact this (by rw [e]; rfl)
          have hgg : gr ≠ g := by rintro rfl; exact absurd (hbr.inj HB1.out).1 (by decide)
          have hgx : gr ≠ xb := by have := HXB.out.2.2.2; intro e; exact this (by rw [e]; rfl)
          have hrow : Row (W1.drew.setRow gr (u8V (splice raw E (sl raw A N)) ++ rr).toArray) 5 1 (.slice (some ⟨gr, 0, none⟩) s.raw.length rc) s.raw.length (u8V (splice raw E (sl raw A N))) := by
            have hlen : (u8V (splice raw E (sl raw A N))).length = s.raw.length := by rw [u8V_length, length_splice _ _ _ (by rw [hsl, HP.out.length]; omega), HP.out.length]
            refine Row.mk hB4 (by rw [hlen]; omega) hrn hrc ?_
            rw [List.length_append, hrl'] at hrl
            rw [List.length_append, hlen]; omega
          have HT : Mem.Aside (∃ raw2, Packing s.all s.raw (k + 1) raw2 ∧ Row (W1.drew.setRow gr (u8V (splice raw E (sl raw A N)) ++ rr).toArray) 5 1 (.slice (some ⟨gr, 0, none⟩) s.raw.length rc) s.raw.length (u8V raw2)) := ⟨_, HP1.out, hrow⟩
          have HS2 := Mem.Aside.mk (HS1.out.drew.farRow (k := gr) (Ne.symm hgp) (u8V (splice raw E (sl raw A N)) ++ rr).toArray)
          have HB2 := Mem.Aside.mk (HB1.out.drew.farRow (k := gr) (Ne.symm hgg) (u8V (splice raw E (sl raw A N)) ++ rr).toArray)
          have HM2 := Mem.Aside.mk (HM1.out.drew.keep (setRow_other _ gr mb (u8V (splice raw E (sl raw A N)) ++ rr).toArray (Ne.symm hgm)))
          have HC2 := Mem.Aside.mk (HC1.out.drew.setRow (g := gr) (.inl (mem_foot.2 (.inr (.inr (.inl rfl))))) (u8V (splice raw E (sl raw A N)) ++ rr).toArray)
          have HX2 := Mem.Aside.mk (HX1.out.drew.farRow (k := gr) (Ne.symm hgx) (u8V (splice raw E (sl raw A N)) ++ rr).toArray)
          clear x0 x1 x2 s0 hrow hB4 hsp hRUN hbd hrl' hd hsl hgx hgg hgm hgp
          generalize W1.drew.setRow gr (u8V (splice raw E (sl raw A N)) ++ rr).toArray = W2 at HT HS2 HB2 HM2 HC2 HX2 ⊢
          obtain ⟨raw2, hP2, hR2⟩ := HT.out
          have HP2 := Mem.Aside.mk hP2
          have HR2 := Mem.Aside.mk hR2
          have hgp : g ≠ p := by have := H.out.p_all; intro e; exact this (by rw [e]; rfl)
          have hgm : g ≠ mb := by have := H.out.mb_all; intro e; exact this (by rw [e]; rfl)
          have hgx : xb ≠ g := HXB.out.2.1
          have s1 := HS2.out.cellAt (i := 1) rfl
          have k1 := HB2.out.cellAt (List.getElem?_append_left_some (b := rest) R1.out)
          have kf := HB2.out.frozen (k * 3 + 1)
          have HR3 := Mem.Aside.mk (hR2.farCell (p := ⟨g, k * 3 + 1, none⟩) (by intro e; exact (H.out.raw_all e) rfl) (.int .i64 (E : Int)))
          have HB3 : Mem.Aside (Blk (W2.setCell ⟨g, k * 3 + 1, none⟩ (.int .i64 (E : Int))) g 114 (rowV (packK s.all (k + 1)) ++ rest)) := ⟨by
            rw [show (E : Int) = ((total (s.all.take k) : Nat) : Int) by have := HNA.out.2.2; omega]
            have := HB2.out.set (k * 3 + 1) (.int .i64 ((total (s.all.take k) : Nat) : Int))
            rwa [List.set_append_left _ _ (by rw [rowV_length, packK_length]; omega), ← rowV_packK s.all c] at this⟩
          have HS3 := Mem.Aside.mk (HS2.out.far (p := ⟨g, k * 3 + 1, none⟩) (Ne.symm hgp) (.int .i64 (E : Int)))
          have HM3 := Mem.Aside.mk (HM2.out.farCell (p := ⟨g, k * 3 + 1, none⟩) (Ne.symm hgm) (.int .i64 (E : Int)))
          have HX3 := Mem.Aside.mk (HX2.out.far (p := ⟨g, k * 3 + 1, none⟩) hgx (.int .i64 (E : Int)))
          have HC3 := Mem.Aside.mk (HC2.out.setCell (p := ⟨g, k * 3 + 1, none⟩) (.inl (mem_foot.2 (.inr (.inr (.inr rfl))))) (.int .i64 (E : Int)))
          clear hP2 hR2 hgp hgm hgx
          go_wp2
          clear s1 k1 kf
          generalize W2.setCell ⟨g, k * 3 + 1, none⟩ (.int .i64 (E : Int)) = W3 at HR3 HB3 HS3 HM3 HX3 HC3 ⊢
          have s2 := HS3.out.cellAt (i := 2) rfl
          have x0 := HX3.out.cellAt (i := 0) rfl
          refine region_tail 7 (by kernel_rfl) (by kernel_rfl) ?_
          simp only [List.take_succ_cons, List.take_zero, List.drop_succ_cons, List.drop_zero]
          repeat still_step
          refine wpStill_nil ?_
          obtain ⟨W4, hrun, hM4, hC4⟩ := HM3.out.drew.store Try.underlying52 Try.underlying3 (by omega) (x.id : Int) (E : Int) (I64.wf (by have := HI.out s.all[k] (List.getElem_mem c); rw [← HX.out] at this; exact this)) (WalkArith.wf_i64 ⟨by omega, by omega⟩)
          refine wpList_mapUpdate (by rfl) _ _ _ _ (by rfl) (.map (some mb)) (.int .i64 (x.id : Int)) (.int .i64 (E : Int)) (by rfl) (by rfl) (by rfl) W4 hrun ?_
          have HR4 := Mem.Aside.mk (HR3.out.drew.chg hC4 (by intro k hk hm; simp at hm; subst hm; exact H.out.mb_raw hk))
          have HB4 := Mem.Aside.mk (HB3.out.drew.chg hC4 (by have := H.out.mb_all; intro hm; simp at hm; subst hm; exact this rfl))
          have HS4 := Mem.Aside.mk (HS3.out.drew.chg hC4 (by have := H.out.p_mb; simpa using this))
          have HX4 := Mem.Aside.mk (HX3.out.drew.chg hC4 (by have := HXB.out.2.2.1; simpa using this))
          have HC4 := Mem.Aside.mk (HC3.out.drew.then hC4 (fun y hy => by simp at hy; subst hy; exact .inl (mem_foot.2 (.inr (.inl rfl)))))
          have HM4 : Mem.Aside (IMap Try.prog 3 W4 mb s.all.length (atOf (packK s.all (k + 1)))) := ⟨by
            have h1 := hM4.congr (g := atOf (packK s.all (k + 1))) (fun j _ => by rw [atOf_packK HO.out.lay.ids c, ← HX.out]; split <;> simp_all [HNA.out.2.2])
            have h2 := h1.tight Try.underlying3 (s.all.map fun x => (x.id : Int)) (fun j hj => packK_some hj)
            rwa [List.length_map] at h2⟩
          clear s2 x0 hrun hM4 hC4
          have x2 := HX4.out.cellAt (i := 2) rfl
          have hxl : x.len ≤ 1000000000000 := by
            have h1 := HO.out.lay.inside s.all[k] (List.getElem_mem c)
            have h2 := up_ge s.all[k].len
            rw [HX.out]; omega
          have HU := Mem.Aside.mk (fun (w : World) => up_calls x.len w hxl)
          have hsum : E + up x.len ≤ 1000000000000 := by
            have h3 := HO.out.lay.total_take (k + 1)
            rw [total_take_succ s.all c, ← HX.out] at h3
            have := HNA.out.2.2
            omega
          obtain ⟨U, hU⟩ : ∃ U, U = up x.len := ⟨_, rfl⟩
          rw [← hU] at HU hsum
          have HUU := Mem.Aside.mk hU
          clear hU hxl
          have hw1 := (IntWalk.i64_in ((E : Int) + (U : Int)) (by omega) : IntKind.i64.wrap ((E : Int) + (U : Int)) = ((E + U : Nat) : Int))
          have hw2 := (IntWalk.i64_in ((k : Int) + 1) (by omega) : IntKind.i64.wrap ((k : Int) + 1) = ((k + 1 : Nat) : Int))
          go_wp2_with (go_at_call 61; (with_reducible refine (HU.out _).mono ?_); rintro e w5 ⟨rfl, rfl⟩)
          go_roundw
          case rel =>
            refine ⟨k + 1, raw2, by go_num, ?_, by omega, HP2, HS4, HR4, ⟨?_⟩, HM4, HC4⟩
            · rw [total_take_succ s.all c, ← HX.out, ← HNA.out.2.2, HUU.out]; simp
            · exact Row.mk HB4.out (by rw [rowV_length, packK_length]) HL.out.1 HL.out.2.1 (by have := HL.out.2.2; rw [List.length_append, rowV_length, packK_length] at this ⊢; exact this)
          case measure => simp [intOf]; omega
    · obtain rfl : k = s.all.length := by omega
      have s1 := HS.out.cellAt (i := 1) rfl
      clear h1
      have CS := Mem.Aside.mk (sort_calls (l := packK s.all s.all.length) (by rw [packK_length]; exact HA.out) (by rw [packK_length]; exact hl))
      have hT0 : total s.all ≤ s.raw.length := HO.out.lay.total_le
      rw [List.take_length]
      obtain ⟨T, hT⟩ : ∃ T, T = total s.all := ⟨_, rfl⟩
      have HT : Mem.Aside (T = total (id s.all)) := ⟨hT⟩
      rw [← hT] at hT0
      generalize total s.all = T' at *
      subst hT
      rcases HR.out.cases with ⟨rfl, h2, h3⟩ | ⟨gr, rc, rr, rfl, hbr, hrn, hrc, hrl⟩
      · obtain rfl : T = 0 := by omega
        have hT0' := hT0
        clear hT0
        go_wp2_with (go_at_call 69; (with_reducible refine CS.out.mono ?_); rintro e w2 ⟨l', rfl, hperm, hsrt, hA2, hC2⟩; have HPM := Mem.Aside.mk (And.intro hperm hsrt); have HA2 := Mem.Aside.mk hA2; have HC2 := Mem.Aside.mk hC2; have HS2 := Mem.Aside.mk (HS.out.chg hC2 (by have := H.out.p_all; intro hm; exact this (Option.mem_toList.1 hm))); have t0 := HS2.out.cellAt (i := 0) rfl; have tf := HS2.out.frozen 0; clear hperm hsrt hA2 hC2 s1)
        have hl' : l'.length = s.all.length := by have := HPM.out.1.length_eq; rwa [packK_length] at this
        go_end0
        refine ⟨{ s with raw := raw.take 0, all := l' }, (.slice none 0 0), rfl, ⟨?_, ?_, ?_, ?_⟩, rfl, ?_, raw, HP.out, congrArg (fun n => List.take n raw) HT.out, ?_, ?_, rfl, rfl⟩
        · exact HS2.out.set 0 _
        · have hz : (raw.take 0).length = 0 := by simp
          rw [show (List.take 0 raw).length = 0 by simp]
          exact Row.nil _ _ _
        · exact HA2.out.farCell (p := ⟨p, 0, none⟩) (H.out.p_all) _
        · have h1 := (HM.out.chg HC2.out (by intro hm; exact H.out.mb_all (Option.mem_toList.1 hm))).farCell (p := ⟨p, 0, none⟩) (Ne.symm H.out.p_mb) (.slice none 0 0)
          show IMap _ _ _ _ l'.length (atOf l')
          rw [hl']
          exact h1.congr (fun j _ => atOf_perm (by rw [packK_ids]; exact HO.out.lay.ids) HPM.out.1.symm j)
        · exact (HC.out.then HC2.out (fun y hy => .inl (mem_foot.2 (.inr (.inr (.inr (Option.mem_toList.1 hy))))))).setCell (p := ⟨p, 0, none⟩) (.inl (mem_foot.2 (.inl rfl))) _
        · have := HPM.out.1; rwa [packK_all] at this
        · have hn : (l'.map Ext.id).Nodup := ((HPM.out.1.map Ext.id).nodup_iff).2 (by rw [packK_ids]; exact HO.out.lay.ids)
          have h2 := List.pairwise_map.1 hn
          exact (HPM.out.2.and h2).imp (fun {a b} h => (Ext.lt_total h.2).resolve_right h.1)
      · have hq : T ≤ rc := by omega
        have hq' : (T : Int) ≤ (rc : Int) := by omega
        have hT0' := hT0
        clear hT0
        go_wp2_with (go_at_call 69; (with_reducible refine CS.out.mono ?_); rintro e w2 ⟨l', rfl, hperm, hsrt, hA2, hC2⟩; have HPM := Mem.Aside.mk (And.intro hperm hsrt); have HA2 := Mem.Aside.mk hA2; have HC2 := Mem.Aside.mk hC2; have HS2 := Mem.Aside.mk (HS.out.chg hC2 (by have := H.out.p_all; intro hm; exact this (Option.mem_toList.1 hm))); have t0 := HS2.out.cellAt (i := 0) rfl; have tf := HS2.out.frozen 0; clear hperm hsrt hA2 hC2 s1)
        have hl' : l'.length = s.all.length := by have := HPM.out.1.length_eq; rwa [packK_length] at this
        go_end0
        refine ⟨{ s with raw := raw.take T, all := l' }, (.slice (some ⟨gr, 0, none⟩) T rc), rfl, ⟨?_, ?_, ?_, ?_⟩, rfl, ?_, raw, HP.out, congrArg (fun n => List.take n raw) HT.out, ?_, ?_, rfl, rfl⟩
        · exact HS2.out.set 0 _
        · have hc := HR.out.cut (m := T) hT0'
          have hlen : (raw.take T).length = T := by rw [List.length_take, HP.out.length]; omega
          have e1 : (u8V raw).take (T * 1) = u8V (raw.take T) := by simp [u8V]
          rw [e1] at hc
          show Row _ _ _ _ (raw.take T).length _
          rw [hlen]
          exact (hc.chg HC2.out (fun k hk hm => H.out.raw_all hk (Option.mem_toList.1 hm))).farCell (p := ⟨p, 0, none⟩) (H.out.p_raw) _
        · exact HA2.out.farCell (p := ⟨p, 0, none⟩) (H.out.p_all) _
        · have h1 := (HM.out.chg HC2.out (by intro hm; exact H.out.mb_all (Option.mem_toList.1 hm))).farCell (p := ⟨p, 0, none⟩) (Ne.symm H.out.p_mb) (.slice (some ⟨gr, 0, none⟩) T rc)
          show IMap _ _ _ _ l'.length (atOf l')
          rw [hl']
          exact h1.congr (fun j _ => atOf_perm (by rw [packK_ids]; exact HO.out.lay.ids) HPM.out.1.symm j)
        · exact (HC.out.then HC2.out (fun y hy => .inl (mem_foot.2 (.inr (.inr (.inr (Option.mem_toList.1 hy))))))).setCell (p := ⟨p, 0, none⟩) (.inl (mem_foot.2 (.inl rfl))) _
        · have := HPM.out.1; rwa [packK_all] at this
        · have hn : (l'.map Ext.id).Nodup := ((HPM.out.1.map Ext.id).nodup_iff).2 (by rw [packK_ids]; exact HO.out.lay.ids)
          have h2 := List.pairwise_map.1 hn
          exact (HPM.out.2.and h2).imp (fun {a b} h => (Ext.lt_total h.2).resolve_right h.1)
end Go.Proofs.Ytgimcpnelogadaa.Sto
