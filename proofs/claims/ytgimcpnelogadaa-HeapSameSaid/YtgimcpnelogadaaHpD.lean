/- Chapter 6: reached's closure mark. -/
import Derived.Test.YtgimcpnelogadaaHpC
import Derived.Test.YtgimcpnelogadaaMemH
namespace Go.Proofs.Ytgimcpnelogadaa.Hp
open Go.RowKit Go.Proofs.Ytgimcpnelogadaa.Mem Go.Proofs.Ytgimcpnelogadaa.Sto Go.Proofs.Ytgimcpnelogadaa.Wd
set_option linter.unusedVariables false
set_option linter.unusedSimpArgs false

/-- What a walk's record keeps by itself. -/
structure MkS (cs : Cells) (s : Mk) : Prop where
  len : s.marks.length = cs.length
  units : s.units = unitsOf cs s.marks
  room : s.todo.length + (s.marks.filter fun b => !b).length ≤ cs.length
theorem MkS.step {cs : Cells} {s : Mk} (h : MkS cs s) (w : Nat) : MkS cs (s.step cs w) := by
  unfold Mk.step
  split
  · rename_i n e
    split
    · exact h
    · rename_i c
      have hn := at_lt e
      have h1 := h.len
      have hf := filter_set s.marks n (by omega) (by simpa using c)
      refine ⟨by simp [h.len], ?_, ?_⟩
      · show s.units + cs.need n = _
        rw [units_set h.len hn (by simpa using c), h.units]
      · have := h.room
        simp only [List.length_append, List.length_cons, List.length_nil]
        omega
  · exact h
theorem MkS.list {cs : Cells} : ∀ (l : List Nat) {s : Mk}, MkS cs s → MkS cs (s.list cs l)
  | [], _, h => h
  | w :: l, _, h => MkS.list l (h.step w)
theorem Mk.list_take {cs : Cells} (s : Mk) (l : List Nat) {k : Nat} (hk : k < l.length) : s.list cs (l.take (k + 1)) = (s.list cs (l.take k)).step cs l[k] := by
  unfold Mk.list
  rw [List.take_succ_eq_append_getElem hk, List.foldl_append]
  rfl
/-- A truth of a row turns. -/
theorem row_set1 {w : World} {t : TypeId} {g n cap : Nat} {xs : List Value} (h : Row w t 1 (.slice (some ⟨g, 0, none⟩) n cap) n xs) {i : Nat} (hi : i < n) (u : Value) : Row (w.setCell ⟨g, i, none⟩ u) t 1 (.slice (some ⟨g, 0, none⟩) n cap) n (xs.set i u) := by
  rcases h.cases with ⟨h1, _⟩ | ⟨g', cap', rest, h1, hb, hn, hc, hl⟩
  · cases h1
  · cases h1
    have hlen : xs.length = n := by have := h.length; omega
    have := hb.set i u
    rw [List.set_append_left _ _ (by omega)] at this
    exact Row.mk this (by simp; omega) hn hc (by simpa using hl)

/-- A walk's record in memory: the variables h, marks, units, todo. -/
structure MkAt (w : World) (hb p mb ub tb : Nat) (s : Mk) (mv tv : Value) : Prop where
  h : Blk w hb 63 [.pointer (some ⟨p, 0, none⟩)]
  m : Blk w mb 50 [mv]
  mr : Row w 4 1 mv s.marks.length (s.marks.map Value.bool)
  u : Blk w ub 3 [.int .i64 (s.units : Int)]
  t : Blk w tb 58 [tv]
  tr : Row w 22 1 tv s.todo.length (u64V s.todo)
/-- What a walk writes. -/
def mkFoot (ub tb : Nat) (mv tv : Value) : List Nat := ub :: tb :: (mv.ownBlock.toList ++ tv.ownBlock.toList)
section
variable {w w' : World} {hb p mb ub tb units used rp most : Nat} {M : List (Option MC)} {cv mv tv : Value} {F : List Nat} {s : Mk}
theorem MkAt.lt (h : MkAt w hb p mb ub tb s mv tv) : ∀ k ∈ mkFoot ub tb mv tv, k < w.heap.size := by
  intro k hk
  simp only [mkFoot, List.mem_cons, List.mem_append, Option.mem_toList] at hk
  rcases hk with rfl | rfl | hk | hk
  · exact h.u.lt
  · exact h.t.lt
  · exact h.mr.lt hk
  · exact h.tr.lt hk

set_option maxHeartbeats 8000000 in
set_option maxRecDepth 100000 in
theorem mark_calls (h : HeapAt w p units used M cv rp F most) (hk : MkAt w hb p mb ub tb s mv tv) (hS : MkS (celsOf M) s) (hU : ∀ B : List Bool, unitsOf (celsOf M) B ≤ 1048576) {lv : Value} {l : List Nat} (hl : Row w 22 1 lv l.length (u64V l))
    (hlen : l.length ≤ 1000000000) (hx : ∀ x ∈ l, x < 18446744073709551616) (hsep : ∀ k ∈ mkFoot ub tb mv tv, k ∉ hfoot p cv M F) (hlt : ∀ g, lv.ownBlock = some g → tv.ownBlock ≠ some g) :
    Calls Try.prog 120 #[lv, .pointer (some ⟨hb, 0, none⟩), .pointer (some ⟨mb, 0, none⟩), .pointer (some ⟨ub, 0, none⟩), .pointer (some ⟨tb, 0, none⟩)] w fun e w' => ∃ tv', e = .returned (.tuple #[]) ∧
      MkAt w' hb p mb ub tb (s.list (celsOf M) l) mv tv' ∧ Chg (mkFoot ub tb mv tv) w w' ∧ (∀ g, tv'.ownBlock = some g → tv.ownBlock = some g ∨ w.heap.size ≤ g) := by
  obtain ⟨al, cl, rfl⟩ := Row_form hl
  have H := Mem.Aside.mk h
  have HK := Mem.Aside.mk hk
  have HS := Mem.Aside.mk hS
  have HU := Mem.Aside.mk hU
  have HL := Mem.Aside.mk hl
  have HX := Mem.Aside.mk hx
  have HSEP := Mem.Aside.mk hsep
  have HLT := Mem.Aside.mk hlt
  clear h hk hS hU hl hx hsep hlt
  go_enter Try.func120, Try.ntmps120
  go_wp2
  go_loopw [12] (fun i wr => ∃ (k : Nat) (tk : Value), i = .int .i64 (k : Int) ∧ k ≤ l.length ∧ Mem.Aside (MkAt wr hb p mb ub tb (s.list (celsOf M) (l.take k)) mv tk) ∧ Mem.Aside (Chg (mkFoot ub tb mv tv) w wr) ∧ Mem.Aside (∀ g, tk.ownBlock = some g → tv.ownBlock = some g ∨ w.heap.size ≤ g)) (fun i _ => l.length - (intOf i).toNat)
  case atStart => exact ⟨0, tv, rfl, Nat.zero_le _, ⟨HK.out⟩, ⟨Chg.refl _ _⟩, ⟨fun g hg => .inl hg⟩⟩
  case round =>
    obtain ⟨k, tk, rfl, hk, HKk, HC, HT⟩ := hrel
    by_cases d : k < l.length
    · have d' : (k : Int) < (l.length : Int) := by omega
      have hwk := (IntWalk.i64_in ((k : Int) + 1) (by omega) : IntKind.i64.wrap ((k : Int) + 1) = ((k + 1 : Nat) : Int))
      have hlW : Row wr 22 1 (.slice al l.length cl) l.length (u64V l) := HL.out.chg HC.out (fun g hg hm => by
        simp only [mkFoot, List.mem_cons, List.mem_append, Option.mem_toList] at hm
        obtain ⟨cs, hb⟩ := HL.out.typed hg
        rcases hm with rfl | rfl | hm | hm
        · exact absurd (hb.inj HK.out.u).1 (by decide)
        · exact absurd (hb.inj HK.out.t).1 (by decide)
        · obtain ⟨ds, hd⟩ := HK.out.mr.typed hm
          exact absurd (hb.inj hd).1 (by decide)
        · exact HLT.out g hg hm)
      obtain ⟨gl, capl, hal, hcell⟩ := row_get1 hlW (i := k) (u := .int .u64 (l[k] : Int)) (by unfold u64V; rw [List.getElem?_map, List.getElem?_eq_getElem d]; rfl)
      cases hal
      have HSk := Mem.Aside.mk (MkS.list (l.take k) HS.out)
      have HST := Mem.Aside.mk (Mk.list_take (cs := celsOf M) s l d)
      have HW := Mem.Aside.mk (H.out.chg HC.out (fun j hj hm => HSEP.out j hm hj))
      have hxk := HX.out _ (List.getElem_mem d)
      have HXK := Mem.Aside.mk hxk
      obtain ⟨x, hxx⟩ : ∃ x, x = l[k] := ⟨_, rfl⟩
      obtain ⟨S, hSS⟩ : ∃ S, S = s.list (celsOf M) (l.take k) := ⟨_, rfl⟩
      rw [← hxx] at hcell HST HXK hxk
      rw [← hSS] at HST HKk HSk
      clear hxx hSS hlW
      have ch := HKk.out.h.cellAt (i := 0) rfl
      have cm := HKk.out.m.cellAt (i := 0) rfl
      have cu := HKk.out.u.cellAt (i := 0) rfl
      have ct := HKk.out.t.cellAt (i := 0) rfl
      cases hh : hdl x with
      | none =>
        have CT := Mem.Aside.mk (toHandle_none hxk hh)
        have hst : S.step (celsOf M) x = S := by unfold Mk.step Cells.at_; rw [hh]
        rw [hst] at HST
        clear hst hh hxk
        go_wp2_with (go_at_call 121; (with_reducible refine (CT.out _).mono ?_); rintro e w' ⟨rfl, rfl⟩)
        exact ⟨⟨k + 1, tk, by go_num, by omega, by rw [HST.out]; exact HKk, HC, HT⟩, by simp [intOf]; omega⟩
      | some n =>
        have CT := Mem.Aside.mk (toHandle_some hxk hh)
        have CF := Mem.Aside.mk (find_calls HW.out x hxk)
        cases hm : atM M x with
        | none =>
          rw [hm] at CF
          have hst : S.step (celsOf M) x = S := by
            unfold Mk.step
            cases e : (celsOf M).at_ x with
            | none => rfl
            | some j =>
              obtain ⟨e1, m, e2⟩ := atM_at.1 e
              have : atM M x = some m := by unfold atM; rw [e1, Option.bind_some, e2]; rfl
              rw [hm] at this; cases this
          rw [hst] at HST
          clear hst hh hxk hm
          go_wp2_with (first
            | (go_at_call 121; (with_reducible refine (CT.out _).mono ?_); rintro e w' ⟨rfl, rfl⟩)
            | (go_at_call 88; (with_reducible refine CF.out.mono ?_); rintro e w' ⟨rfl, rfl⟩))
          exact ⟨⟨k + 1, tk, by go_num, by omega, by rw [HST.out]; exact HKk, HC, HT⟩, by simp [intOf]; omega⟩
        | some m =>
          rw [hm] at CF
          obtain ⟨n', hn', hMn⟩ := atM_some hm
          obtain rfl : n = n' := by rw [hh] at hn'; exact Option.some.inj hn'
          have hat : (celsOf M).at_ x = some n := atM_at.2 ⟨hh, m, hMn⟩
          have hnl : n < S.marks.length := by rw [HSk.out.len]; exact at_lt hat
          have hnl' : (n : Int) < (S.marks.length : Int) := by omega
          obtain ⟨gm, capm, ham, hcm⟩ := row_get1 HKk.out.mr (i := n) (u := .bool S.marks[n]) (by rw [List.getElem?_map, List.getElem?_eq_getElem hnl]; rfl)
          subst ham
          have hget : S.marks.getD n false = S.marks[n] := by rw [List.getD_eq_getElem?_getD, List.getElem?_eq_getElem hnl]; rfl
          cases hmk : S.marks[n] with
          | true =>
            rw [hmk] at hcm
            have hst : S.step (celsOf M) x = S := by unfold Mk.step; rw [hat]; simp only; rw [if_pos (by rw [hget, hmk])]
            rw [hst] at HST
            clear hst hh hxk hm hget hmk hat hMn hn'
            go_wp2_with (first
              | (go_at_call 121; (with_reducible refine (CT.out _).mono ?_); rintro e w' ⟨rfl, rfl⟩)
              | (go_at_call 88; (with_reducible refine CF.out.mono ?_); rintro e w' ⟨rfl, rfl⟩))
            exact ⟨⟨k + 1, tk, by go_num, by omega, by rw [HST.out]; exact HKk, HC, HT⟩, by simp [intOf]; omega⟩
          | false =>
            rw [hmk] at hcm
            have hst : S.step (celsOf M) x = ⟨S.marks.set n true, S.units + (celsOf M).need n, S.todo ++ [n]⟩ := by unfold Mk.step; rw [hat]; simp only; rw [if_neg (by rw [hget, hmk]; simp)]
            go_upto_region 5 with (first
              | (go_at_call 121; (with_reducible refine (CT.out _).mono ?_); rintro e w' ⟨rfl, rfl⟩)
              | (go_at_call 88; (with_reducible refine CF.out.mono ?_); rintro e w' ⟨rfl, rfl⟩))
            have hM : some m ∈ M := List.mem_of_getElem? hMn
            have hneed : (celsOf M).need n = m.c.need := by unfold Cells.need celsOf; rw [List.getElem?_map, hMn]; rfl
            have HS2 := Mem.Aside.mk (HSk.out.step x)
            rw [hst] at HS2 HST
            rw [hneed] at HS2 HST
            have hub : S.units + m.c.need ≤ 1048576 := by have := HS2.out.units; have h2 := HU.out (S.marks.set n true); simp only at this; omega
            have HHH := HW.out
            have c2 := HHH.top.cellAt (i := 2) rfl
            obtain ⟨gc, capc, hcv, hcc⟩ := row_get1 HHH.row (i := n) (u := ptrV (some m)) (by rw [List.getElem?_map, hMn]; rfl)
            subst hcv
            have c10 := (HHH.cells m hM).cellAt (i := 10) rfl
            simp only [ptrV] at hcc
            have hML : n < M.length := (List.getElem?_eq_some_iff.1 hMn).1
            have hML' : (n : Int) < (M.length : Int) := by omega
            have htl : S.todo.length ≤ 1048576 := by
              have h1 := HSk.out.room
              have h2 : (celsOf M).length = M.length := by simp [celsOf]
              have h3 := HHH.small
              omega
            have hfm := HKk.out.mr
            have fzm : wr.frozen? ⟨gm, n, none⟩ = false := by
              rcases hfm.cases with ⟨h1, _⟩ | ⟨g', cap', rest, h1, hb, _⟩
              · cases h1
              · cases h1; exact hb.frozen n
            -- the marks
            have hTy : ∀ {j : Nat} {t : TypeId} {cs : List Value}, t ≠ 4 → Blk wr j t cs → j ≠ gm := fun ht hb e => by
              obtain ⟨ds, hd⟩ := hfm.typed (g := gm) rfl
              rw [e] at hb
              exact ht (hb.inj hd).1
            have k1 : MkAt (wr.setCell ⟨gm, n, none⟩ (.bool true)) hb p mb ub tb ⟨S.marks.set n true, S.units, S.todo⟩ (.slice (some ⟨gm, 0, none⟩) S.marks.length capm) tk :=
              ⟨HKk.out.h.far (p := ⟨gm, n, none⟩) (hTy (by decide) HKk.out.h) _, HKk.out.m.far (p := ⟨gm, n, none⟩) (hTy (by decide) HKk.out.m) _, by
                have := row_set1 hfm hnl (.bool true)
                rw [List.length_set, List.map_set]
                exact this, HKk.out.u.far (p := ⟨gm, n, none⟩) (hTy (by decide) HKk.out.u) _, HKk.out.t.far (p := ⟨gm, n, none⟩) (hTy (by decide) HKk.out.t) _,
                HKk.out.tr.farCell (p := ⟨gm, n, none⟩) (fun e => by
                  obtain ⟨ds, hd⟩ := HKk.out.tr.typed e
                  exact hTy (by decide) hd rfl) _⟩
            have e1 : Chg (mkFoot ub tb (.slice (some ⟨gm, 0, none⟩) S.marks.length capm) tv) wr (wr.setCell ⟨gm, n, none⟩ (.bool true)) := (Chg.refl _ wr).setCell (p := ⟨gm, n, none⟩) (.inl (by simp [mkFoot, Value.ownBlock])) _
            have e0 := HSEP.out
            have hw1 : HeapAt (wr.setCell ⟨gm, n, none⟩ (.bool true)) p units used M (.slice (some ⟨gc, 0, none⟩) M.length capc) rp F most := HHH.chg e1 (fun j hj hm => e0 j hm hj)
            go_upto_region 6 with fail
            have HCF : Mem.Aside (Chg (mkFoot ub tb (.slice (some ⟨gm, 0, none⟩) S.marks.length capm) tv) w (wr.setCell ⟨gm, n, none⟩ (.bool true))) := ⟨HC.out.trans e1⟩
            generalize wr.setCell ⟨gm, n, none⟩ (.bool true) = W1 at k1 hw1 HCF ⊢
            clear ch cm cu ct c2 hcc c10 hcm fzm hfm e1 e0 HHH hTy
            have hwu : IntKind.i64.wrap ((S.units : Int) + (m.c.need : Int)) = (S.units : Int) + (m.c.need : Int) := IntWalk.i64_in _ (by omega)
            have ch := k1.h.cellAt (i := 0) rfl
            have cu := k1.u.cellAt (i := 0) rfl
            have fu := k1.u.frozen 0
            have c2 := hw1.top.cellAt (i := 2) rfl
            obtain ⟨gc', capc', hcv, hcc⟩ := row_get1 hw1.row (i := n) (u := ptrV (some m)) (by rw [List.getElem?_map, hMn]; rfl)
            cases hcv
            have c10 := (hw1.cells m hM).cellAt (i := 10) rfl
            simp only [ptrV] at hcc
            refine region_tail 12 (by kernel_rfl) (by kernel_rfl) ?_
            simp only [List.take_succ_cons, List.take_zero, List.drop_succ_cons, List.drop_zero]
            refine StW.out ?_
            iterate 12 (refine still_take (by rfl) (fun K hK => ?_); go_simp; refine hK _ ?_; clear hK K)
            refine still_end ?_
            go_upto_region 7 with fail
            have hub2 : ∀ {j : Nat} {t : TypeId} {cs : List Value}, t ≠ 3 → Blk W1 j t cs → j ≠ ub := fun ht hb e => by
              rw [e] at hb
              exact ht (hb.inj k1.u).1
            have k2 : MkAt (W1.setCell ⟨ub, 0, none⟩ (.int .i64 ((S.units : Int) + (m.c.need : Int)))).drew hb p mb ub tb ⟨S.marks.set n true, S.units + m.c.need, S.todo⟩ (.slice (some ⟨gm, 0, none⟩) S.marks.length capm) tk :=
              ⟨(k1.h.far (p := ⟨ub, 0, none⟩) (hub2 (by decide) k1.h) _).drew, (k1.m.far (p := ⟨ub, 0, none⟩) (hub2 (by decide) k1.m) _).drew, (k1.mr.farCell (p := ⟨ub, 0, none⟩) (fun e => by
                obtain ⟨ds, hd⟩ := k1.mr.typed e
                exact hub2 (by decide) hd rfl) _).drew, (k1.u.set 0 _).drew, (k1.t.far (p := ⟨ub, 0, none⟩) (hub2 (by decide) k1.t) _).drew, (k1.tr.farCell (p := ⟨ub, 0, none⟩) (fun e => by
                obtain ⟨ds, hd⟩ := k1.tr.typed e
                exact hub2 (by decide) hd rfl) _).drew⟩
            have HC2 : Mem.Aside (Chg (mkFoot ub tb (.slice (some ⟨gm, 0, none⟩) S.marks.length capm) tv) w (W1.setCell ⟨ub, 0, none⟩ (.int .i64 ((S.units : Int) + (m.c.need : Int)))).drew) := ⟨(HCF.out.setCell (p := ⟨ub, 0, none⟩) (.inl (by simp [mkFoot])) _).drew⟩
            generalize (W1.setCell ⟨ub, 0, none⟩ (.int .i64 ((S.units : Int) + (m.c.need : Int)))).drew = W2 at k2 HC2 ⊢
            clear ch cu fu c2 hcc c10 hw1 k1 hub2
            obtain ⟨at', ct', rfl⟩ := Row_form k2.tr
            have y4 := k2.t.cellAt (i := 0) rfl
            have k2t : Row W2 22 1 (.slice at' S.todo.length ct') S.todo.length (u64V S.todo) := k2.tr
            obtain ⟨v5, w5, hr5, hR5, hC5, hO5⟩ := (k2t.alloc (.cells #[.int .u64 (n : Int)] 22)).append (c := 1) Try.underlying58 elemU64 (m := 1) (news := [.int .u64 (n : Int)]) (ad := ⟨W2.heap.size, 0, none⟩) rfl ((Blk.newL [.int .u64 (n : Int)] rfl).from (fun j u hu => by rw [Nat.zero_add]; exact hu)) (by simp [Value.oneCell']) (by omega) (by omega)
            obtain ⟨a5, c5, rfl⟩ := Row_form hR5
            have HK2 := Mem.Aside.mk k2
            have HR5 := Mem.Aside.mk hR5
            have HC5 := Mem.Aside.mk hC5
            have HO5 := Mem.Aside.mk hO5
            have HRUN := Mem.Aside.mk hr5
            have hlt2 := k2.lt
            have hns : ∀ {j : Nat} {t : TypeId} {cs : List Value}, t ≠ 22 → Blk W2 j t cs → Blk w5 j t cs := fun ht hb => (hb.alloc _).chg hC5 (fun hm => by
              obtain ⟨ds, hd⟩ := k2.tr.typed (Option.mem_toList.1 hm)
              exact ht (hb.inj hd).1)
            have t5 := hns (by decide) k2.t
            have z4 := t5.cellAt (i := 0) rfl
            have zf := t5.frozen 0
            have HNS := Mem.Aside.mk (@hns)
            have HHst := Mem.Aside.mk (And.intro hst (And.intro hMn hM))
            clear k2 k2t hr5 hR5 hC5 hO5 hns hst hMn hM hat hn' hm hh hmk hget hlt2
            go_wp2_with (at_builtin; refine wpList_builtin2 _ (by rfl) .append _ _ _ (by rfl) _ _ (by rfl) (by rfl) _ _ (HRUN.out _) ?_)
            have HH5 := HK2.out
            have kk : MkAt (w5.setCell ⟨tb, 0, none⟩ (.slice a5 (S.todo.length + 1) c5)) hb p mb ub tb ⟨S.marks.set n true, S.units + m.c.need, S.todo ++ [n]⟩ (.slice (some ⟨gm, 0, none⟩) S.marks.length capm) (.slice a5 (S.todo.length + 1) c5) := by
              have ntb : ∀ {j : Nat} {t : TypeId} {cs : List Value}, t ≠ 58 → Blk w5 j t cs → j ≠ tb := fun ht hb e => by
                rw [e] at hb
                exact ht (hb.inj t5).1
              have a1 := HNS.out (by decide) HH5.h
              have a2 := HNS.out (by decide) HH5.m
              have a3 := HNS.out (by decide) HH5.u
              have hmr : Row w5 4 1 (.slice (some ⟨gm, 0, none⟩) S.marks.length capm) (S.marks.set n true).length ((S.marks.set n true).map Value.bool) := (HH5.mr.alloc _).chg HC5.out (fun g hg hm => by
                obtain ⟨cs, h1⟩ := HH5.mr.typed hg
                obtain ⟨ds, h2⟩ := HH5.tr.typed (Option.mem_toList.1 hm)
                exact absurd (h1.inj h2).1 (by decide))
              refine ⟨a1.far (p := ⟨tb, 0, none⟩) (ntb (by decide) a1) _, a2.far (p := ⟨tb, 0, none⟩) (ntb (by decide) a2) _, hmr.farCell (p := ⟨tb, 0, none⟩) (fun e => by
                obtain ⟨cs, h1⟩ := hmr.typed e
                exact ntb (by decide) h1 rfl) _, a3.far (p := ⟨tb, 0, none⟩) (ntb (by decide) a3) _, t5.set 0 _, ?_⟩
              have := HR5.out.farCell (p := ⟨tb, 0, none⟩) (fun e => by
                obtain ⟨cs, h1⟩ := HR5.out.typed e
                exact ntb (by decide) h1 rfl) (.slice a5 (S.todo.length + 1) c5)
              show Row _ _ _ _ (S.todo ++ [n]).length (u64V (S.todo ++ [n]))
              rw [List.length_append, List.length_cons, List.length_nil, show u64V (S.todo ++ [n]) = u64V S.todo ++ [.int .u64 (n : Int)] by simp [u64V]]
              exact this
            refine ⟨⟨k + 1, _, by go_num, by omega, by rw [HST.out]; exact ⟨kk⟩, ⟨?_⟩, ⟨fun g hg => ?_⟩⟩, by simp [intOf]; omega⟩
            · refine ((HC2.out.alloc _).then HC5.out (fun j hj => ?_)).setCell (p := ⟨tb, 0, none⟩) (.inl (by simp [mkFoot])) _
              rcases HT.out j (Option.mem_toList.1 hj) with e | e
              · exact .inl (by simp [mkFoot, e])
              · exact .inr e
            · rcases HO5.out with e | e
              · rw [e] at hg; exact HT.out g hg
              · rw [e] at hg
                cases hg
                right
                have := HC2.out.size
                simp
                omega
    · have d' : decide ((k : Int) < (l.length : Int)) = false := decide_eq_false (by omega)
      have hK := HKk.out
      rw [List.take_of_length_le (by omega)] at hK
      have HK2 := Mem.Aside.mk hK
      clear hK
      go_wp2
      refine bodyPost_end (results_none rfl _ _ _) rfl ?_
      exact ⟨tk, rfl, HK2.out, HC.out, HT.out⟩
end
end Go.Proofs.Ytgimcpnelogadaa.Hp
