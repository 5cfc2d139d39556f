/- Merged: HpE HpF HpG HpH HpI HpJ HpK HpL HpM. -/
import Derived.Test.YtgimcpnelogadaaBsB
import Derived.Laws.ResultCell
/- Chapter 6: reached. -/
namespace Go.Proofs.Ytgimcpnelogadaa.Hp
open Go.RowKit Go.Proofs.Ytgimcpnelogadaa.Mem Go.Proofs.Ytgimcpnelogadaa.Sto Go.Proofs.Ytgimcpnelogadaa.Wd
set_option linter.unusedVariables false
set_option linter.unusedSimpArgs false

theorem elemBool : Elem Try.prog 4 1 1 (.bool false) := Elem.of (by kernel_rfl) rfl (by intro v hv; simp [Value.cells] at hv; subst hv; rfl) (by decide)
def isF : Value → Bool | .bool false => true | _ => false
/-- How much there is to do, read in memory. -/
def leftW (gm n tb : Nat) (w : World) : Nat :=
  2 * (match w.heap[gm]? with | some (.cells cs _ _) => ((cs.toList.take n).filter isF).length | _ => 0) + (match w.cell? ⟨tb, 0, none⟩ with | some (.slice _ k _) => k | _ => 0)
theorem filter_isF (l : List Bool) : ((l.map Value.bool).filter isF).length = (l.filter fun b => !b).length := by
  induction l with
  | nil => rfl
  | cons b l ih => cases b with
    | false => rw [List.map_cons, List.filter_cons_of_pos (by rfl), List.filter_cons_of_pos (by rfl), List.length_cons, List.length_cons, ih]
    | true => rw [List.map_cons, List.filter_cons_of_neg (by simp [isF]), List.filter_cons_of_neg (by simp), ih]
theorem left_at {w : World} {hb p mb ub tb gm n cap : Nat} {s : Mk} {tv : Value} (h : MkAt w hb p mb ub tb s (.slice (some ⟨gm, 0, none⟩) n cap) tv) (hn : s.marks.length = n) : leftW gm n tb w = s.left := by
  subst hn
  obtain ⟨a, c, rfl⟩ := Row_form h.tr
  unfold leftW Mk.left
  rw [h.t.cellAt (i := 0) rfl]
  rcases h.mr.cases with ⟨h1, _⟩ | ⟨g', cap', rest, h1, hb, hn, hc, hl⟩
  · cases h1
  · cases h1
    have e : w.heap[gm]? = some (.cells ((s.marks.map Value.bool) ++ rest).toArray 4 (0, 0)) := hb
    rw [e]
    simp only
    rw [List.take_left' (by simp), filter_isF]
theorem Mk.list_left {cs : Cells} : ∀ (l : List Nat) {s : Mk}, s.marks.length = cs.length → (s.list cs l).left ≤ s.left
  | [], _, _ => Nat.le_refl _
  | w :: l, s, h => by
    have h1 := Mk.step_left (s := s) w h
    have h2 : (s.step cs w).marks.length = cs.length := by
      unfold Mk.step
      split
      · split
        · exact h
        · simpa using h
      · exact h
    exact Nat.le_trans (Mk.list_left l h2) h1
theorem Mk.list_append {cs : Cells} (s : Mk) (l m : List Nat) : s.list cs (l ++ m) = (s.list cs l).list cs m := by simp [Mk.list]
theorem Mk.list_len {cs : Cells} {s : Mk} (h : MkS cs s) (l : List Nat) : (s.list cs l).marks.length = s.marks.length := by rw [(MkS.list l h).len, h.len]
theorem Rch.live {M : List (Option MC)} {R : List Nat} {n : Nat} (h : Rch (celsOf M) R n) : ∃ m, M[n]? = some (some m) := by
  cases h with
  | root _ h => exact (atM_at.1 h).2
  | next _ _ h => exact (atM_at.1 h).2

/-- Lists of words as they are handed to reached. -/
structure Lists (w : World) (v : Value) (LS : List (Value × List Nat)) : Prop where
  row : Row w 58 1 v LS.length (LS.map Prod.fst)
  each : ∀ q ∈ LS, Row w 22 1 q.1 q.2.length (u64V q.2)
  fit : ∀ q ∈ LS, q.2.length ≤ 1000000000 ∧ ∀ x ∈ q.2, x < 18446744073709551616
  few : LS.length ≤ 1000
theorem Lists.chg {w w' : World} {v : Value} {LS : List (Value × List Nat)} (h : Lists w v LS) (hc : Chg [] w w') : Lists w' v LS :=
  ⟨h.row.chg hc (by simp), fun q hq => (h.each q hq).chg hc (by simp), h.fit, h.few⟩
/-- What of a heap a walk needs to know of its cells. -/
structure WordsOk (M : List (Option MC)) : Prop where
  words : ∀ m, some m ∈ M → m.c.words.length ≤ 1048576 ∧ (∀ x ∈ m.c.words, x < 18446744073709551616) ∧ m.c.base < 18446744073709551616
  units : ∀ B : List Bool, unitsOf (celsOf M) B ≤ 1048576

section
variable {w : World} {p units used rp most : Nat} {M : List (Option MC)} {cv : Value} {F : List Nat}
/-- What stands at a walk's loops. -/
structure MkI (w : World) (hb p mb ub tb gm cap : Nat) (M : List (Option MC)) (R E D : List Nat) (s : Mk) (tv : Value) (W : World) : Prop where
  at_ : MkAt W hb p mb ub tb s (.slice (some ⟨gm, 0, none⟩) M.length cap) tv
  ok : MkOk (celsOf M) R E D s
  keeps : MkS (celsOf M) s
  chg : Chg [] w W
  fresh : ∀ g, tv.ownBlock = some g → w.heap.size ≤ g
  low : w.heap.size ≤ hb ∧ w.heap.size ≤ mb ∧ w.heap.size ≤ ub ∧ w.heap.size ≤ tb ∧ w.heap.size ≤ gm
theorem MkI.sep {hb mb ub tb gm cap : Nat} {R E D : List Nat} {s : Mk} {tv : Value} {W : World} (h : MkI w hb p mb ub tb gm cap M R E D s tv W) : ∀ k ∈ mkFoot ub tb (.slice (some ⟨gm, 0, none⟩) M.length cap) tv, w.heap.size ≤ k := by
  intro k hk
  obtain ⟨h1, h2, h3, h4, h5⟩ := h.low
  simp only [mkFoot, List.mem_cons, List.mem_append, Option.mem_toList] at hk
  rcases hk with rfl | rfl | hk | hk
  · exact h3
  · exact h4
  · cases hk; exact h5
  · exact h.fresh k hk
theorem MkI.alloc {hb mb ub tb gm cap : Nat} {R E D : List Nat} {s : Mk} {tv : Value} {W : World} (h : MkI w hb p mb ub tb gm cap M R E D s tv W) (o : Obj) : MkI w hb p mb ub tb gm cap M R E D s tv (W.alloc o) :=
  ⟨⟨h.at_.h.alloc o, h.at_.m.alloc o, h.at_.mr.alloc o, h.at_.u.alloc o, h.at_.t.alloc o, h.at_.tr.alloc o⟩, h.ok, h.keeps, h.chg.alloc o, h.fresh, h.low⟩
/-- The last that is to be looked at is taken. -/
theorem MkI.pop {hb mb ub tb gm cap gt ct : Nat} {R D : List Nat} {Ms : List Bool} {Us j : Nat} {t2 : List Nat} {W : World} (h : MkI w hb p mb ub tb gm cap M R [] D ⟨Ms, Us, t2 ++ [j]⟩ (.slice (some ⟨gt, 0, none⟩) (t2 ++ [j]).length ct) W) :
    MkI w hb p mb ub tb gm cap M R [j] D ⟨Ms, Us, t2⟩ (.slice (some ⟨gt, 0, none⟩) t2.length ct) (W.setCell ⟨tb, 0, none⟩ (.slice (some ⟨gt, 0, none⟩) t2.length ct)).drew := by
  have ntb : ∀ {j : Nat} {t : TypeId} {cs : List Value}, t ≠ 58 → Blk W j t cs → j ≠ tb := fun ht hb e => by
    rw [e] at hb
    exact ht (hb.inj h.at_.t).1
  have hcut := h.at_.tr.cut (m := t2.length) (by simp)
  have he : (u64V (t2 ++ [j])).take (t2.length * 1) = u64V t2 := by rw [Nat.mul_one]; unfold u64V; rw [List.map_append]; exact List.take_left' (by simp)
  rw [he] at hcut
  have hroom := h.keeps.room
  refine ⟨⟨(h.at_.h.far (p := ⟨tb, 0, none⟩) (ntb (by decide) h.at_.h) _).drew, (h.at_.m.far (p := ⟨tb, 0, none⟩) (ntb (by decide) h.at_.m) _).drew, (h.at_.mr.farCell (p := ⟨tb, 0, none⟩) (fun e => by
      obtain ⟨cs, h1⟩ := h.at_.mr.typed e
      exact ntb (by decide) h1 rfl) _).drew, (h.at_.u.far (p := ⟨tb, 0, none⟩) (ntb (by decide) h.at_.u) _).drew, (h.at_.t.set 0 _).drew, (hcut.farCell (p := ⟨tb, 0, none⟩) (fun e => by
      obtain ⟨cs, h1⟩ := hcut.typed e
      exact ntb (by decide) h1 rfl) _).drew⟩, h.ok.pop.1, ⟨h.keeps.len, h.keeps.units, by simp at hroom ⊢; omega⟩, (h.chg.setCell (p := ⟨tb, 0, none⟩) (.inr h.low.2.2.2.1) _).drew, fun g hg => h.fresh g hg, h.low⟩
/-- mark, at a walk's loops. -/
theorem MkI.mark (h : HeapAt w p units used M cv rp F most) (hM : WordsOk M) {hb mb ub tb gm cap : Nat} {R E D : List Nat} {s : Mk} {tv : Value} {W : World} (hi : MkI w hb p mb ub tb gm cap M R E D s tv W)
    {lv : Value} {l : List Nat} (hl : Row W 22 1 lv l.length (u64V l)) (hlen : l.length ≤ 1000000000) (hx : ∀ x ∈ l, x < 18446744073709551616) (hlt : ∀ g, lv.ownBlock = some g → tv.ownBlock ≠ some g)
    (hr : ∀ x ∈ l, ∀ n, (celsOf M).at_ x = some n → Rch (celsOf M) R n) :
    Calls Try.prog 120 #[lv, .pointer (some ⟨hb, 0, none⟩), .pointer (some ⟨mb, 0, none⟩), .pointer (some ⟨ub, 0, none⟩), .pointer (some ⟨tb, 0, none⟩)] W fun e w' => ∃ tv', e = .returned (.tuple #[]) ∧
      MkI w hb p mb ub tb gm cap M R E (D ++ l) (s.list (celsOf M) l) tv' w' := by
  have hs := hi.sep
  have hl1 : s.marks.length = M.length := by rw [hi.keeps.len]; simp [celsOf]
  have hat := hi.at_
  refine (mark_calls (h.chg hi.chg (by simp)) hat hi.keeps hM.units hl hlen hx (fun k hk hm => by have := h.lt k hm; have := hs k hk; omega) hlt).mono ?_
  rintro e w' ⟨tv', rfl, h1, h2, h3⟩
  exact ⟨tv', rfl, h1, MkOk.list l D s hi.ok hr, hi.keeps.list l, hi.chg.then h2 (fun k hk => .inr (hs k hk)), fun g hg => (h3 g hg).elim (hi.fresh g) (fun e => Nat.le_trans hi.chg.size e), hi.low⟩

set_option maxHeartbeats 8000000 in
set_option maxRecDepth 100000 in
theorem reached_calls (h : HeapAt w p units used M cv rp F most) (hM : WordsOk M) {lsv : Value} {LS : List (Value × List Nat)} (hL : Lists w lsv LS) :
    Calls Try.prog 82 #[.pointer (some ⟨p, 0, none⟩), lsv] w fun e w' => ∃ (mv : Value) (B : List Bool), e = .returned (.tuple #[mv, .int .i64 (unitsOf (celsOf M) B : Nat)]) ∧ B.length = M.length ∧
      Row w' 4 1 mv M.length (B.map Value.bool) ∧ (∀ n, B.getD n false = true ↔ Rch (celsOf M) (LS.flatMap Prod.snd) n) ∧ Chg [] w w' ∧ ∀ g, mv.ownBlock = some g → w.heap.size ≤ g := by
  obtain ⟨al, cl, rfl⟩ := Row_form hL.row
  have H := Mem.Aside.mk h
  have HM := Mem.Aside.mk hM
  have HL := Mem.Aside.mk hL
  have c2 := h.top.cellAt (i := 2) rfl
  obtain ⟨ac, cc, rfl⟩ := Row_form h.row
  have hsm := h.small
  have c2a := (h.top.alloc (.cells #[.pointer (some ⟨p, 0, none⟩)] 63)).cellAt (i := 2) rfl
  clear h hM hL
  go_enter Try.func82, Try.ntmps82
  go_upto_region 2 with (at_make; refine wpList_make1 (z := .bool false) rfl _ _ rfl Try.underlying50 elemBool rfl M.length rfl rfl (by omega) (by omega) ?_; intro w1 hb1 hc1 hs1; have HB1 := Mem.Aside.mk hb1; have HC1 := Mem.Aside.mk hc1; have HS1 := Mem.Aside.mk hs1; clear hb1 hc1 hs1)
  go_upto_region 5 with fail
  obtain ⟨b, hb⟩ : ∃ b, b = w.heap.size := ⟨_, rfl⟩
  obtain ⟨m, hm⟩ : ∃ m, m = w1.heap.size := ⟨_, rfl⟩
  have hs1 := HS1.out
  have hb1 := HB1.out
  have hsa : (w.alloc (.cells #[.pointer (some ⟨p, 0, none⟩)] 63)).heap.size = b + 1 := by rw [hb]; simp
  rw [hsa] at hs1 hb1
  have hcl : (celsOf M).length = M.length := by simp [celsOf]
  have i0 : MkI w b p m (m + 1) (m + 2) (b + 1) M.length M (LS.flatMap Prod.snd) [] [] ⟨List.replicate (celsOf M).length false, 0, []⟩ (.slice none 0 0) (((w1.alloc (.cells #[.slice (some ⟨b + 1, 0, none⟩) M.length M.length] 50)).alloc (.cells #[.int .i64 0] 3)).alloc (.cells #[.slice none 0 0] 58)) := by
    have z0 : Blk w1 b 63 [.pointer (some ⟨p, 0, none⟩)] := by rw [hb]; exact (Blk.newL [_] rfl).chg HC1.out (by simp)
    have hrow : Row w1 4 1 (.slice (some ⟨b + 1, 0, none⟩) M.length M.length) M.length (List.replicate M.length (.bool false)) := Row.mk (rest := []) (by simpa using hb1) (by simp) (Nat.le_refl _) (by omega) (by simp)
    refine ⟨⟨((z0.alloc _).alloc _).alloc _, ?_, ?_, ?_, ?_, Row.nil _ _ _⟩, MkOk.start _ _, ⟨by simp, (MkOk.start (celsOf M) (LS.flatMap Prod.snd)).units, by simp⟩, (((((Chg.refl [] w).alloc _).then HC1.out (by simp)).alloc _).alloc _).alloc _, (fun g hg => by cases hg), ⟨by omega, by omega, by omega, by omega, by omega⟩⟩
    · rw [hm]; exact ((Blk.newL [_] rfl).alloc _).alloc _
    · show Row _ _ _ _ (List.replicate (celsOf M).length false).length ((List.replicate (celsOf M).length false).map Value.bool)
      rw [List.length_replicate, List.map_replicate, hcl]
      exact ((hrow.alloc _).alloc _).alloc _
    · rw [hm]; exact (Blk.newL [_] (by simp)).alloc _
    · rw [hm]; exact Blk.newL [_] (by simp)
  have I0 := Mem.Aside.mk i0
  simp only [← hb, ← hm, Nat.add_assoc, Nat.reduceAdd]
  generalize (((w1.alloc (.cells #[.slice (some ⟨b + 1, 0, none⟩) M.length M.length] 50)).alloc (.cells #[.int .i64 0] 3)).alloc (.cells #[.slice none 0 0] 58)) = W3 at I0 ⊢
  clear i0 hb hm hs1 hb1 hsa hcl HS1 HB1 HC1 c2 c2a
  go_upto_region 6 with fail
  go_loopw [22] (fun i wr => ∃ (k : Nat) (s : Mk) (tv : Value), i = .int .i64 (k : Int) ∧ k ≤ LS.length ∧ Mem.Aside (MkI w b p m (m + 1) (m + 2) (b + 1) M.length M (LS.flatMap Prod.snd) [] ((LS.take k).flatMap Prod.snd) s tv wr)) (fun i _ => LS.length - (intOf i).toNat)
  case atStart => exact ⟨0, _, _, rfl, Nat.zero_le _, I0⟩
  case round =>
    obtain ⟨k, s, tv, rfl, hk, HI⟩ := hrel
    have hfew := HL.out.few
    by_cases d : k < LS.length
    · have d' : (k : Int) < (LS.length : Int) := by omega
      have hwk := (IntWalk.i64_in ((k : Int) + 1) (by omega) : IntKind.i64.wrap ((k : Int) + 1) = ((k + 1 : Nat) : Int))
      have hLw := HL.out.chg HI.out.chg
      obtain ⟨gl, capl, hal, hcell⟩ := row_get1 hLw.row (i := k) (u := LS[k].1) (by rw [List.getElem?_map, List.getElem?_eq_getElem d]; rfl)
      cases hal
      have hq := List.getElem_mem d
      have hrow := hLw.each _ hq
      have hrow0 := HL.out.each _ hq
      have hfit := HL.out.fit _ hq
      have CM := Mem.Aside.mk (MkI.mark H.out HM.out HI.out hrow hfit.1 hfit.2 (fun g hg e => by have := hrow0.lt hg; have := HI.out.fresh g e; omega) (fun x hx n hn => .root (List.mem_flatMap.2 ⟨_, hq, hx⟩) hn))
      have HTK : Mem.Aside ((LS.take (k + 1)).flatMap Prod.snd = (LS.take k).flatMap Prod.snd ++ LS[k].2) := ⟨by rw [List.take_succ_eq_append_getElem d, List.flatMap_append]; simp⟩
      obtain ⟨lv, hlv⟩ : ∃ lv, lv = LS[k].1 := ⟨_, rfl⟩
      obtain ⟨l2, hl2⟩ : ∃ l2, l2 = LS[k].2 := ⟨_, rfl⟩
      rw [← hl2] at HTK
      rw [← hlv, ← hl2] at CM
      rw [← hlv] at hcell
      have hone : lv.oneCell' = true := by
        rw [hlv]
        obtain ⟨a, c, e⟩ := Row_form hrow0
        rw [e]; rfl
      obtain ⟨al2, cl2, hlf⟩ := Row_form hrow0
      rw [← hlv] at hlf
      subst hlf
      clear hlv hl2 hLw hq hrow hrow0 hfit
      go_wp2_with (go_at_call 120; (with_reducible refine CM.out.mono ?_); rintro e w5 ⟨tv5, rfl, hi5⟩; have HI5 := Mem.Aside.mk hi5; clear hi5)
      exact ⟨⟨k + 1, _, _, by go_num, by omega, by rw [HTK.out]; exact HI5⟩, by simp [intOf]; omega⟩
    · have d' : decide ((k : Int) < (LS.length : Int)) = false := decide_eq_false (by omega)
      have hi := HI.out
      rw [List.take_of_length_le (by omega)] at hi
      have HI2 := Mem.Aside.mk hi
      clear hi
      go_wp2
      go_loopw [12] (fun _ wr => ∃ (s : Mk) (tv : Value) (D : List Nat), Mem.Aside (MkI w b p m (m + 1) (m + 2) (b + 1) M.length M (LS.flatMap Prod.snd) [] D s tv wr) ∧ Mem.Aside (∀ x ∈ LS.flatMap Prod.snd, x ∈ D)) (fun _ wr => leftW (b + 1) M.length (m + 2) wr)
      case atStart => exact ⟨s, tv, _, HI2, ⟨fun x hx => hx⟩⟩
      case round =>
        obtain ⟨s2, tv2, D, HJ, HD⟩ := hrel
        have hcl : (celsOf M).length = M.length := by simp [celsOf]
        have hlen2 : s2.marks.length = M.length := by rw [HJ.out.keeps.len, hcl]
        obtain ⟨at2, ct2, rfl⟩ := Row_form HJ.out.at_.tr
        have ct := HJ.out.at_.t.cellAt (i := 0) rfl
        have ch := HJ.out.at_.h.cellAt (i := 0) rfl
        have cm := HJ.out.at_.m.cellAt (i := 0) rfl
        have cu := HJ.out.at_.u.cellAt (i := 0) rfl
        have hroom := HJ.out.keeps.room
        rw [hcl] at hroom
        rcases List.eq_nil_or_concat s2.todo with he | ⟨t2, j, he⟩
        · have hz : s2.todo.length = 0 := by rw [he]; rfl
          rw [hz] at ct
          have hi := HJ.out
          obtain ⟨Ms, Us, Ts⟩ := s2
          simp only at he hlen2 cu hz
          subst he
          have HJJ := Mem.Aside.mk hi
          clear hi HJ ch
          go_upto_region 16 with fail
          go_region
          go_wp2
          go_ret2
          have hi := HJJ.out
          have hU : Us = unitsOf (celsOf M) Ms := hi.keeps.units
          refine ⟨.slice (some ⟨b + 1, 0, none⟩) M.length M.length, Ms, ?_, hlen2, ?_, hi.ok.ends HD.out, hi.chg.drew, fun g hg => ?_⟩
          · rw [hU]; rfl
          · have := hi.at_.mr
            simp only at this
            rw [hlen2] at this
            exact this.drew
          · cases hg; exact hi.low.2.2.2.2
        · obtain ⟨Ms, Us, Ts⟩ := s2
          simp only at he hlen2 hroom ct cu
          subst he
          simp only [List.concat_eq_append] at *
          have hlt2 : (t2 ++ [j]).length = t2.length + 1 := by simp
          rw [hlt2] at ct hroom
          obtain ⟨hpop, hrch⟩ := HJ.out.ok.pop
          obtain ⟨mj, hmj⟩ := hrch.live
          have hMj : some mj ∈ M := List.mem_of_getElem? hmj
          have hW := H.out.chg HJ.out.chg (by simp)
          have c2 := hW.top.cellAt (i := 2) rfl
          obtain ⟨gc, capc, hcv, hcc⟩ := row_get1 hW.row (i := j) (u := ptrV (some mj)) (by rw [List.getElem?_map, hmj]; rfl)
          simp only [ptrV] at hcc
          cases hcv
          have htr := HJ.out.at_.tr
          obtain ⟨gt, capt, htv, hct⟩ := row_get1 htr (i := t2.length) (u := .int .u64 (j : Int)) (by simp [u64V])
          cases htv
          have hj : j < M.length := (List.getElem?_eq_some_iff.1 hmj).1
          have hj' : (j : Int) < (M.length : Int) := by omega
          have hw0 : IntKind.i64.wrap (t2.length : Int) = (t2.length : Int) := IntWalk.i64_in _ (by omega)
          have hpos : (0 : Int) < (t2.length : Int) + 1 := by omega
          have hlt3 : (t2.length : Int) < (t2.length : Int) + 1 := by omega
          have hcap : t2.length ≤ ct2 := by
            rcases htr.cases with ⟨h1, _⟩ | ⟨g', cap', rest, h1, _, hn, _⟩
            · cases h1
            · cases h1; simp at hn; omega
          have hcap' : (t2.length : Int) ≤ (ct2 : Int) := by omega
          have ft := HJ.out.at_.t.frozen 0
          have HJI := Mem.Aside.mk (And.intro hpop (And.intro hmj hMj))
          clear hpop hrch htr
          go_upto_region 11 with fail
          refine region_tail 12 (by kernel_rfl) (by kernel_rfl) ?_
          simp only [List.take_succ_cons, List.take_zero, List.drop_succ_cons, List.drop_zero]
          refine StW.out ?_
          iterate 12 (refine still_take (by rfl) (fun K hK => ?_); go_simp; refine hK _ ?_; clear hK K)
          refine still_end ?_
          go_upto_region 13 with fail
          have hrch := HJ.out.ok.pop.2
          have i1 := HJ.out.pop
          have hdist : ∀ g, mj.wv.ownBlock = some g → g < w.heap.size := fun g hg => (H.out.words mj hMj).lt hg
          have hrefs : (celsOf M).refs j = mj.c.refs := by unfold Cells.refs celsOf; rw [List.getElem?_map, hmj]; rfl
          have hleft0 : Mk.left ⟨Ms, Us, t2⟩ + 1 = Mk.left ⟨Ms, Us, t2 ++ [j]⟩ := by simp [Mk.left]; omega
          have hleft1 := left_at HJ.out.at_ hlen2
          have HLEFT := Mem.Aside.mk (And.intro hleft0 hleft1)
          have HREF := Mem.Aside.mk (And.intro hrch hrefs)
          generalize (wr.setCell ⟨m + 2, 0, none⟩ (.slice (some ⟨gt, 0, none⟩) t2.length ct2)).drew = W5 at i1 ⊢
          have HW5 := Mem.Aside.mk (H.out.chg i1.chg (by simp))
          obtain ⟨aw, cw, hwf⟩ := Row_form (HW5.out.words mj hMj)
          have hfit := HM.out.words mj hMj
          have CM1 := Mem.Aside.mk (MkI.mark H.out HM.out i1 (HW5.out.words mj hMj) (by omega) hfit.2.1 (fun g hg e => by have := hdist g hg; have := i1.fresh g e; omega) (fun x hx n hn => .next hrch (by rw [hrefs]; exact List.mem_append_left _ hx) hn))
          have d5 := (HW5.out.cells mj hMj).cellAt (i := 5) rfl
          rw [hwf] at CM1 d5
          have HMJ := Mem.Aside.mk (And.intro hMj hfit)
          have I1 := Mem.Aside.mk i1
          clear i1 hdist hrefs hleft0 hleft1 hrch hwf hfit hMj hmj HJI hcc hct hW c2 ch ct cm cu ft hcap hcap' hj hj' hroom HJ HI2 HI I0
          go_upto_region 14 with (go_at_call 120; (with_reducible refine CM1.out.mono ?_); rintro e w6 ⟨tv6, rfl, hi6⟩; have HI6 := Mem.Aside.mk hi6; have HW6 := Mem.Aside.mk (H.out.chg hi6.chg (by simp)); have d1 := (HW6.out.cells mj HMJ.out.1).cellAt (i := 1) rfl; have d6 := (HW6.out.cells mj HMJ.out.1).cellAt (i := 6) rfl; clear hi6)
          have hend : ∀ {D' : List Nat} {l : List Nat} {tv' : Value} {w' : World}, MkI w b p m (m + 1) (m + 2) (b + 1) M.length M (LS.flatMap Prod.snd) [j] D' (Mk.list (celsOf M) ⟨Ms, Us, t2⟩ l) tv' w' → (∀ x ∈ D, x ∈ D') → (∀ x ∈ mj.c.refs, x ∈ D') →
              (Mem.Aside (MkI w b p m (m + 1) (m + 2) (b + 1) M.length M (LS.flatMap Prod.snd) [] D' (Mk.list (celsOf M) ⟨Ms, Us, t2⟩ l) tv' w') ∧ Mem.Aside (∀ x ∈ LS.flatMap Prod.snd, x ∈ D')) ∧ leftW (b + 1) M.length (m + 2) w' < leftW (b + 1) M.length (m + 2) wr := by
            intro D' l tv' w' hi hd hr
            have h1 := Mk.list_left (cs := celsOf M) l (s := ⟨Ms, Us, t2⟩) (by show Ms.length = _; rw [hlen2]; simp [celsOf])
            have h2 := Mk.list_len I1.out.keeps l
            have h3 := left_at hi.at_ (h2.trans hlen2)
            have h4 := HLEFT.out
            exact ⟨⟨⟨⟨hi.at_, hi.ok.settle (by rw [HREF.out.2]; exact hr), hi.keeps, hi.chg, hi.fresh, hi.low⟩⟩, ⟨fun x hx => hd x (HD.out x hx)⟩⟩, by omega⟩
          have HEND := Mem.Aside.mk (@hend)
          clear hend
          cases hv : mj.c.view with
          | false =>
            rw [hv] at d1
            have HV := Mem.Aside.mk hv
            clear hv
            go_wp2
            obtain ⟨⟨q1, q2⟩, q3⟩ := HEND.out HI6.out (fun x hx => List.mem_append_left _ hx) (fun x hx => by
              unfold Cel.refs at hx
              rw [HV.out] at hx
              simp at hx
              exact List.mem_append_right _ hx)
            exact ⟨⟨_, _, _, q1, q2⟩, q3⟩
          | true =>
            rw [hv] at d1
            have HV := Mem.Aside.mk hv
            clear hv
            have i7 := HI6.out.alloc (.cells #[.int .u64 (mj.c.base : Int)] 22)
            have hrow : Row (w6.alloc (.cells #[.int .u64 (mj.c.base : Int)] 22)) 22 1 (.slice (some ⟨w6.heap.size, 0, none⟩) 1 1) [mj.c.base].length (u64V [mj.c.base]) := Row.mk (rest := []) (Blk.newL [_] rfl) rfl (Nat.le_refl _) (by decide) rfl
            have hbr : mj.c.base ∈ mj.c.refs := by unfold Cel.refs; rw [HV.out]; simp
            have CM2 := Mem.Aside.mk (MkI.mark H.out HM.out i7 hrow (by simp) (by simpa using HMJ.out.2.2.2) (fun g hg e => by
              cases hg
              exact absurd (HI6.out.at_.tr.lt e) (Nat.lt_irrefl _)) (fun x hx n hn => .next HREF.out.1 (by rw [HREF.out.2]; simp at hx; subst hx; exact hbr) hn))
            rw [← Mk.list_append] at CM2
            clear i7 hrow
            go_wp2_with (go_at_call 120; (with_reducible refine CM2.out.mono ?_); rintro e w7 ⟨tv7, rfl, hi7⟩; have HI7 := Mem.Aside.mk hi7; clear hi7)
            obtain ⟨⟨q1, q2⟩, q3⟩ := HEND.out HI7.out (fun x hx => List.mem_append_left _ (List.mem_append_left _ hx)) (fun x hx => by
              unfold Cel.refs at hx
              rw [HV.out] at hx
              simp only [if_true] at hx
              rcases List.mem_append.1 hx with hx | hx
              · exact List.mem_append_left _ (List.mem_append_right _ hx)
              · exact List.mem_append_right _ hx)
            exact ⟨⟨_, _, _, q1, q2⟩, q3⟩
end
end Go.Proofs.Ytgimcpnelogadaa.Hp
/- Chapter 6: Reach; sweep. -/
namespace Go.Proofs.Ytgimcpnelogadaa.Hp
open Go.RowKit Go.Proofs.Ytgimcpnelogadaa.Mem Go.Proofs.Ytgimcpnelogadaa.Sto Go.Proofs.Ytgimcpnelogadaa.Wd
set_option linter.unusedVariables false
set_option linter.unusedSimpArgs false
attribute [local go_sem] Option.isNone_some Option.isNone_none

/-- What all cells need. -/
def usedOf (M : List (Option MC)) : Nat := (M.map fun o => match o with | some m => m.c.need | none => 0).sum
/-- The first k cells swept: those that are not marked are gone. -/
def swK (B : List Bool) (k : Nat) (M : List (Option MC)) : List (Option MC) := M.mapIdx fun i o => if i < k ∧ B.getD i false = false then none else o
theorem swK_zero (B : List Bool) (M : List (Option MC)) : swK B 0 M = M := by
  unfold swK
  apply List.ext_getElem?
  intro i
  rw [List.getElem?_mapIdx]
  cases M[i]? <;> simp
theorem swK_length (B : List Bool) (k : Nat) (M : List (Option MC)) : (swK B k M).length = M.length := by simp [swK]
theorem swK_get (B : List Bool) (k i : Nat) (M : List (Option MC)) : (swK B k M)[i]? = M[i]?.map fun o => if i < k ∧ B.getD i false = false then none else o := by
  unfold swK
  rw [List.getElem?_mapIdx]
theorem swK_keep {B : List Bool} {k : Nat} {M : List (Option MC)} (h : B.getD k false = true ∨ M[k]? = some none) : swK B (k + 1) M = swK B k M := by
  apply List.ext_getElem?
  intro i
  rw [swK_get, swK_get]
  by_cases c : i = k
  · subst c
    rcases h with h | h
    · rw [h]; simp
    · rw [h]; simp
  · cases M[i]? with
    | none => rfl
    | some o =>
      simp only [Option.map_some]
      have : (i < k + 1 ∧ B.getD i false = false) ↔ (i < k ∧ B.getD i false = false) := by constructor <;> (rintro ⟨a, b⟩; exact ⟨by omega, b⟩)
      simp only [this]
theorem swK_drop {B : List Bool} {k : Nat} {M : List (Option MC)} (h : B.getD k false = false) (hk : k < M.length) : swK B (k + 1) M = (swK B k M).set k none := by
  apply List.ext_getElem?
  intro i
  rw [swK_get, List.getElem?_set, swK_get, swK_length]
  by_cases c : k = i
  · subst c
    rw [if_pos rfl, if_pos hk, List.getElem?_eq_getElem hk, Option.map_some, if_pos ⟨by omega, h⟩]
  · rw [if_neg c]
    cases M[i]? with
    | none => rfl
    | some o =>
      simp only [Option.map_some]
      have : (i < k + 1 ∧ B.getD i false = false) ↔ (i < k ∧ B.getD i false = false) := by constructor <;> (rintro ⟨a, b⟩; exact ⟨by omega, b⟩)
      simp only [this]
/-- One cell less. -/
theorem split_cell {M : List (Option MC)} {n : Nat} {o : Option MC} (h : M[n]? = some o) (u : Option MC) : M = M.take n ++ o :: M.drop (n + 1) ∧ M.set n u = M.take n ++ u :: M.drop (n + 1) := by
  obtain ⟨hn, e⟩ := List.getElem?_eq_some_iff.1 h
  have e1 : M = M.take n ++ o :: M.drop (n + 1) := by rw [← e, ← List.drop_eq_getElem_cons hn, List.take_append_drop]
  refine ⟨e1, ?_⟩
  rw [List.set_eq_take_append_cons_drop, if_pos hn]
theorem bufs_set {M : List (Option MC)} {n : Nat} {m : MC} (h : M[n]? = some (some m)) : (bufs M).Perm ((if m.c.buf then [(m.c.ext, m.c.bytes)] else []) ++ bufs (M.set n none)) := by
  obtain ⟨e1, e2⟩ := split_cell h none
  rw [e2]
  conv => lhs; rw [e1]
  unfold bufs
  rw [List.filterMap_append, List.filterMap_append, List.filterMap_cons, List.filterMap_cons]
  by_cases c : m.c.buf = true
  · simp only [Option.bind_some, c, if_true, Option.bind_none]
    exact List.perm_middle
  · simp only [Option.bind_some, c, Option.bind_none]
    exact .refl _
theorem usedOf_set {M : List (Option MC)} {n : Nat} {m : MC} (h : M[n]? = some (some m)) : usedOf M = usedOf (M.set n none) + m.c.need := by
  obtain ⟨e1, e2⟩ := split_cell h none
  rw [e2]
  conv => lhs; rw [e1]
  unfold usedOf
  simp only [List.map_append, List.map_cons, List.sum_append, List.sum_cons]
  omega
theorem mem_set_none {M : List (Option MC)} {n : Nat} {m : MC} (h : some m ∈ M.set n none) : some m ∈ M := by
  rcases List.mem_or_eq_of_mem_set h with h | h
  · exact h
  · cases h
theorem blks_set {M : List (Option MC)} {n : Nat} {m : MC} (h : M[n]? = some (some m)) : (blks (M.set n none)).Sublist (blks M) ∧ (owns (M.set n none)).Sublist (owns M) := by
  obtain ⟨e1, e2⟩ := split_cell h none
  rw [e2]
  constructor
  · conv => rhs; rw [e1]
    unfold blks
    rw [List.filterMap_append, List.filterMap_append]
    refine (List.Sublist.refl _).append ?_
    rw [List.filterMap_cons, List.filterMap_cons]
    simp only [Option.map_none, Option.map_some]
    exact List.sublist_cons_self _ _
  · conv => rhs; rw [e1]
    unfold owns
    rw [List.filterMap_append, List.filterMap_append]
    refine (List.Sublist.refl _).append ?_
    rw [List.filterMap_cons, List.filterMap_cons]
    simp only [Option.bind_none, Option.bind_some]
    cases m.wv.ownBlock with
    | none => exact List.Sublist.refl _
    | some g => exact List.sublist_cons_self _ _

section
variable {w w' : World} {p units used rp most : Nat} {M : List (Option MC)} {cv : Value} {F : List Nat}
theorem HeapAt.gone (h : HeapAt w p units used M cv rp F most) {n used' : Nat} {m : MC} (hn : M[n]? = some (some m)) {G : List Nat} (hc : Chg G w w') (hG : ∀ k ∈ G, k = p ∨ cv.ownBlock = some k ∨ k ∈ F)
    (h1 : Blk w' p 130 [.int .i64 (units : Int), .int .i64 (used' : Int), cv, .pointer (some ⟨rp, 0, none⟩)]) (h2 : Row w' 134 1 cv M.length ((M.set n none).map ptrV)) (h3 : Holds w' rp F (bufs (M.set n none)) most) (hu : used' ≤ units) :
    HeapAt w' p units used' (M.set n none) cv rp F most := by
  obtain ⟨s1, s2⟩ := blks_set hn
  have hap := h.apart
  have far : ∀ {j : Nat} {t : TypeId} {cs : List Value}, t ≠ 130 → t ≠ 134 → j ∉ F → Blk w j t cs → Blk w' j t cs := fun ht ht2 hF hb => hb.chg hc fun hm => by
    rcases hG _ hm with e | e | e
    · rw [e] at hb; exact ht (hb.inj h.top).1
    · obtain ⟨ds, hd⟩ := h.row.typed e
      exact ht2 (hb.inj hd).1
    · exact hF e
  refine ⟨h1, by rw [List.length_set]; exact h2, fun x hx => ?_, fun x hx => ?_, h3, h.nblk.sublist s1, h.nown.sublist s2, fun k hk hm => hap k hk ?_, h.small.1, hu, by rw [List.length_set]; exact h.small.2.2.1, h.small.2.2.2⟩
  · have hx' := mem_set_none hx
    exact far (by decide) (by decide) (fun hF => hap _ hF (by
      simp only [List.mem_cons, List.mem_append]
      exact .inr (.inr (.inl (List.mem_filterMap.2 ⟨_, hx', rfl⟩))))) (h.cells x hx')
  · have hx' := mem_set_none hx
    refine (h.words x hx').keep fun g hg => ?_
    obtain ⟨ds, hd⟩ := (h.words x hx').typed hg
    have := far (by decide) (by decide) (fun hF => hap _ hF (by
      simp only [List.mem_cons, List.mem_append]
      exact .inr (.inr (.inr (List.mem_filterMap.2 ⟨_, hx', hg⟩))))) hd
    exact this.trans hd.symm
  · simp only [List.mem_cons, List.mem_append] at hm ⊢
    rcases hm with hm | hm | hm | hm
    · exact .inl hm
    · exact .inr (.inl hm)
    · exact .inr (.inr (.inl (s1.subset hm)))
    · exact .inr (.inr (.inr (s2.subset hm)))
theorem map_set_ptr (M : List (Option MC)) (n : Nat) (o : Option MC) : (M.set n o).map ptrV = (M.map ptrV).set n (ptrV o) := by rw [List.map_set]

theorem reach_calls (h : HeapAt w p units used M cv rp F most) (hM : WordsOk M) {rv : Value} {rs : List Nat} (hr : Row w 22 1 rv rs.length (u64V rs)) (hl : rs.length ≤ 1000000000) (hx : ∀ x ∈ rs, x < 18446744073709551616) :
    Calls Try.prog 40 #[.pointer (some ⟨p, 0, none⟩), rv] w fun e w' => ∃ B : List Bool, e = .returned (.int .i64 (unitsOf (celsOf M) B : Nat)) ∧ B.length = M.length ∧ (∀ n, B.getD n false = true ↔ Rch (celsOf M) rs n) ∧ Chg [] w w' := by
  have hL : Lists (w.alloc (.cells #[rv] 58)) (.slice (some ⟨w.heap.size, 0, none⟩) 1 1) [(rv, rs)] :=
    ⟨Row.mk (rest := []) (Blk.newL [_] (by obtain ⟨a, c, rfl⟩ := Row_form hr; rfl)) rfl (Nat.le_refl _) (by decide) rfl, fun q hq => by simp at hq; subst hq; exact hr.alloc _, fun q hq => by simp at hq; subst hq; exact ⟨hl, hx⟩, by simp⟩
  have CR := Mem.Aside.mk (reached_calls (h.chg ((Chg.refl [] w).alloc _) (by simp)) hM hL)
  simp only [List.flatMap_cons, List.flatMap_nil, List.append_nil] at CR
  obtain ⟨ar, cr, rfl⟩ := Row_form hr
  clear h hr hx hL
  go_enter Try.func40, Try.ntmps40
  go_wp2_with (go_at_call 82; (with_reducible refine CR.out.mono ?_); rintro e w' ⟨mv, B, rfl, h1, h2, h3, h4, h5⟩; have HB := Mem.Aside.mk (And.intro h1 (And.intro h3 h4)); clear h1 h2 h3 h4 h5)
  go_ret
  exact ⟨B, rfl, HB.out.1, HB.out.2.1, ((Chg.refl [] w).alloc _).then HB.out.2.2 (by simp)⟩
end
end Go.Proofs.Ytgimcpnelogadaa.Hp
/- Chapter 6: sweep; Collect. -/
namespace Go.Proofs.Ytgimcpnelogadaa.Hp
open Go.RowKit Go.Proofs.Ytgimcpnelogadaa.Mem Go.Proofs.Ytgimcpnelogadaa.Sto Go.Proofs.Ytgimcpnelogadaa.Wd
set_option linter.unusedVariables false
set_option linter.unusedSimpArgs false
attribute [local go_sem] Option.isNone_some Option.isNone_none
section
variable {w w' : World} {p units used rp most : Nat} {M : List (Option MC)} {cv : Value} {F : List Nat}
theorem usedOf_ge {n : Nat} {m : MC} (h : M[n]? = some (some m)) : m.c.need ≤ usedOf M := by have := usedOf_set h; omega

set_option maxHeartbeats 8000000 in
set_option maxRecDepth 100000 in
theorem sweep_calls (h : HeapAt w p units (usedOf M) M cv rp F most) {mv : Value} {B : List Bool} (hB : B.length = M.length) (hm : Row w 4 1 mv M.length (B.map Value.bool)) (hmv : ∀ g, mv.ownBlock = some g → g ∉ hfoot p cv M F) (hkd : ∀ m, some m ∈ M → m.c.ext ≤ 1000000000) :
    Calls Try.prog 83 #[.pointer (some ⟨p, 0, none⟩), mv] w fun e w' => e = .returned (.tuple #[]) ∧ HeapAt w' p units (usedOf (swK B M.length M)) (swK B M.length M) cv rp F most ∧ Chg (hfoot p cv M F) w w' := by
  obtain ⟨am, cm, rfl⟩ := Row_form hm
  have H := Mem.Aside.mk h
  have HB := Mem.Aside.mk hB
  have HMV := Mem.Aside.mk (And.intro hm hmv)
  have c2 := h.top.cellAt (i := 2) rfl
  obtain ⟨ac, cc, rfl⟩ := Row_form h.row
  have hsm := h.small
  clear h hB hm hmv
  go_enter Try.func83, Try.ntmps83
  refine wp_scope_straight ?_
  go_wp2
  apply wp_label
  go_wp2
  go_loopw [11] (fun i wr => ∃ k : Nat, i = .int .i64 (k : Int) ∧ k ≤ M.length ∧ Mem.Aside (HeapAt wr p units (usedOf (swK B k M)) (swK B k M) (.slice ac M.length cc) rp F most) ∧ Mem.Aside (Chg (hfoot p (.slice ac M.length cc) M F) w wr)) (fun i _ => M.length - (intOf i).toNat)
  case atStart => exact ⟨0, rfl, Nat.zero_le _, ⟨by rw [swK_zero]; exact H.out⟩, ⟨Chg.refl _ _⟩⟩
  case round =>
    obtain ⟨k, rfl, hk, HK, HC⟩ := hrel
    by_cases d : k < M.length
    · have d' : (k : Int) < (M.length : Int) := by omega
      have hwk := (IntWalk.i64_in ((k : Int) + 1) (by omega) : IntKind.i64.wrap ((k : Int) + 1) = ((k + 1 : Nat) : Int))
      have hget : (swK B k M)[k]? = some M[k] := by rw [swK_get, List.getElem?_eq_getElem d]; simp
      have hrowK := HK.out.row
      rw [swK_length] at hrowK
      obtain ⟨gc, capc, hcv, hcell⟩ := row_get1 hrowK (i := k) (u := ptrV M[k]) (by rw [List.getElem?_map, hget]; rfl)
      cases hcv
      have hrm := HMV.out.1.chg HC.out HMV.out.2
      have hkB : k < B.length := by rw [HB.out]; exact d
      obtain ⟨gm, capm, hmv', hmc⟩ := row_get1 hrm (i := k) (u := .bool B[k]) (by rw [List.getElem?_map, List.getElem?_eq_getElem hkB]; rfl)
      cases hmv'
      have hgB : B.getD k false = B[k] := by rw [List.getD_eq_getElem?_getD, List.getElem?_eq_getElem hkB]; rfl
      have HGB := Mem.Aside.mk hgB
      have HGET := Mem.Aside.mk hget
      have HD := Mem.Aside.mk (List.getElem?_eq_getElem d)
      obtain ⟨o, ho⟩ : ∃ o, o = M[k] := ⟨_, rfl⟩
      obtain ⟨bk, hbk⟩ : ∃ bk, bk = B[k] := ⟨_, rfl⟩
      rw [← ho] at hcell HGET HD
      rw [← hbk] at hmc HGB
      clear ho hbk hget hgB hrm hrowK
      cases o with
      | none =>
        simp only [ptrV] at hcell
        go_wp2
        refine ⟨⟨k + 1, by go_num, by omega, ?_, HC⟩, by simp [intOf]; omega⟩
        rw [swK_keep (.inr HD.out)]
        exact HK
      | some m =>
        simp only [ptrV] at hcell
        cases bk with
        | true =>
          go_wp2
          refine ⟨⟨k + 1, by go_num, by omega, ?_, HC⟩, by simp [intOf]; omega⟩
          rw [swK_keep (.inl HGB.out)]
          exact HK
        | false =>
          have hmem : some m ∈ swK B k M := List.mem_of_getElem? HGET.out
          have hneed := usedOf_ge HGET.out
          have hused := HK.out.small
          obtain ⟨U, hU⟩ : ∃ U, U = usedOf (swK B k M) := ⟨_, rfl⟩
          have hUset := usedOf_set HGET.out
          rw [← hU] at hneed hused hUset
          have c1 := HK.out.top.cellAt (i := 1) rfl
          have c3 := HK.out.top.cellAt (i := 3) rfl
          have f1 := HK.out.top.frozen 1
          have k0 := (HK.out.cells m hmem).cellAt (i := 0) rfl
          have k1 := (HK.out.cells m hmem).cellAt (i := 1) rfl
          have k9 := (HK.out.cells m hmem).cellAt (i := 9) rfl
          have k10 := (HK.out.cells m hmem).cellAt (i := 10) rfl
          rw [← hU] at c1
          obtain ⟨V, hV⟩ : ∃ V, V = U - m.c.need := ⟨_, rfl⟩
          have hws : IntKind.i64.wrap (V : Int) = (V : Int) := IntWalk.i64_in _ (by omega)
          have hsub : (U : Int) - (m.c.need : Int) = (V : Int) := by omega
          have HVV : Mem.Aside (V = usedOf (swK B (k + 1) M)) := ⟨by rw [swK_drop HGB.out d]; omega⟩
          have hVu : V ≤ units := by omega
          clear hV
          have HUU := Mem.Aside.mk (And.intro hU (And.intro hUset hmem))
          have HNU := Mem.Aside.mk (And.intro hneed hused)
          have hnp : m.blk ≠ p := fun e => by
            have := HK.out.cells m hmem
            rw [e] at this
            exact absurd (this.inj HK.out.top).1 (by decide)
          have hnp' : p ≠ m.blk := fun e => hnp e.symm
          clear hU hUset hmem hneed hused
          go_upto_region 4 with fail
          refine region_tail 11 (by kernel_rfl) (by kernel_rfl) ?_
          simp only [List.take_succ_cons, List.take_zero, List.drop_succ_cons, List.drop_zero]
          refine StW.out ?_
          iterate 11 (refine still_take (by rfl) (fun K hK => ?_); go_simp; refine hK _ ?_; clear hK K)
          refine still_end ?_
          go_upto_region 5 with fail
          have h1 := (HK.out.top.set 1 (.int .i64 (V : Int))).drew
          have e1 : Chg [p] wr (wr.setCell ⟨p, 1, none⟩ (.int .i64 (V : Int))).drew := ((Chg.refl _ wr).setCell (p := ⟨p, 1, none⟩) (.inl (by simp)) _).drew
          generalize (wr.setCell ⟨p, 1, none⟩ (.int .i64 (V : Int))).drew = W1 at h1 e1 ⊢
          have hmem := HUU.out.2.2
          have hpF : p ∉ F := fun hF => HK.out.apart p hF (by simp)
          have hrawp : Holds W1 rp F (bufs (swK B k M)) most := HK.out.raw.chg e1 (fun j hj hm => by simp at hm; exact hpF (hm ▸ hj))
          have hcm := (HK.out.cells m hmem).chg e1 (by simpa using hnp)
          have hrow1 : Row W1 134 1 (.slice (some ⟨gc, 0, none⟩) M.length cc) M.length ((swK B k M).map ptrV) := by
            have := HK.out.row.chg e1 (fun g hg hm => by
              simp at hm
              obtain ⟨ds, hd⟩ := HK.out.row.typed hg
              rw [hm] at hd
              exact absurd (hd.inj HK.out.top).1 (by decide))
            rw [swK_length] at this
            exact this
          clear c1 c3 f1 k0 k1 k9 k10 hws hsub hcell hmc c2
          have c2 := h1.cellAt (i := 2) rfl
          have c3 := h1.cellAt (i := 3) rfl
          have k0 := hcm.cellAt (i := 0) rfl
          have k1 := hcm.cellAt (i := 1) rfl
          have k9 := hcm.cellAt (i := 9) rfl
          have hperm := bufs_set HGET.out
          have CW := Mem.Aside.mk (width_calls m.c.kind)
          -- how a round ends
          have HFIN : Mem.Aside (∀ W2, Chg F W1 W2 → Holds W2 rp F (bufs ((swK B k M).set k none)) most →
              (∃ k' : Nat, Value.int .i64 ((k : Int) + 1) = .int .i64 (k' : Int) ∧ k' ≤ M.length ∧ Mem.Aside (HeapAt (W2.setCell ⟨gc, k, none⟩ (.pointer none)) p units (usedOf (swK B k' M)) (swK B k' M) (.slice (some ⟨gc, 0, none⟩) M.length cc) rp F most) ∧ Mem.Aside (Chg (hfoot p (.slice (some ⟨gc, 0, none⟩) M.length cc) M F) w (W2.setCell ⟨gc, k, none⟩ (.pointer none))))) := ⟨by
            intro W2 hc2 hh2
            have hgF : gc ∉ F := fun hF => HK.out.apart gc hF (by simp [Value.ownBlock])
            have h2 := (h1.chg hc2 hpF)
            have hrow2 := hrow1.chg hc2 (fun g hg => by cases hg; exact hgF)
            have hgp : gc ≠ p := fun e => by
              obtain ⟨ds, hd⟩ := hrow1.typed (g := gc) rfl
              rw [e] at hd
              exact absurd (hd.inj h1).1 (by decide)
            have e2 : Chg [gc] W2 (W2.setCell ⟨gc, k, none⟩ (.pointer none)) := (Chg.refl _ W2).setCell (p := ⟨gc, k, none⟩) (.inl (by simp)) _
            have eG : Chg (p :: gc :: F) wr (W2.setCell ⟨gc, k, none⟩ (.pointer none)) := ((e1.mono (by simp)).then hc2 (fun x hx => .inl (by simp [hx]))).then e2 (fun x hx => .inl (by simp at hx; simp [hx]))
            refine ⟨k + 1, by go_num, by omega, ⟨?_⟩, ⟨HC.out.then eG (fun x hx => .inl ?_)⟩⟩
            · rw [swK_drop HGB.out d, ← show V = usedOf ((swK B k M).set k none) by rw [HVV.out, swK_drop HGB.out d]]
              refine HK.out.gone HGET.out eG (fun x hx => ?_) (h2.far (p := ⟨gc, k, none⟩) (fun e => hgp e.symm) _) ?_ (hh2.chg e2 (fun x hx hm => by simp at hm; exact hgF (hm ▸ hx))) hVu
              · simp only [List.mem_cons] at hx
                rcases hx with e | e | e
                · exact .inl e
                · exact .inr (.inl (by rw [e]; rfl))
                · exact .inr (.inr e)
              · rw [map_set_ptr, swK_length]
                exact row_set1 hrow2 (by omega) _
            · simp only [List.mem_cons] at hx
              rcases hx with e | e | e
              · exact mem_hfoot.2 (.inl e)
              · exact mem_hfoot.2 (.inr (.inl (by rw [e]; rfl)))
              · exact mem_hfoot.2 (.inr (.inr (.inr (.inr e))))⟩
          have hfz : ∀ W2, Chg F W1 W2 → W2.frozen? ⟨gc, k, none⟩ = false ∧ W2.cell? ⟨gc, k, none⟩ = some (.pointer (some ⟨m.blk, 0, none⟩)) ∧ W2.cell? ⟨p, 2, none⟩ = some (.slice (some ⟨gc, 0, none⟩) M.length cc) := fun W2 hc2 => by
            have hgF : gc ∉ F := fun hF => HK.out.apart gc hF (by simp [Value.ownBlock])
            have hrow2 := hrow1.chg hc2 (fun g hg => by cases hg; exact hgF)
            refine ⟨?_, ?_, (h1.chg hc2 hpF).cellAt (i := 2) rfl⟩
            · rcases hrow2.cases with ⟨h1, _⟩ | ⟨g', cap', rest, h1, hb, _⟩
              · cases h1
              · cases h1; exact hb.frozen k
            · obtain ⟨g', cap', e', hc'⟩ := row_get1 hrow2 (i := k) (u := .pointer (some ⟨m.blk, 0, none⟩)) (by rw [List.getElem?_map, HGET.out]; rfl)
              cases e'
              exact hc'
          have HFZ := Mem.Aside.mk hfz
          have HP := Mem.Aside.mk (And.intro hperm hrawp)
          have hext := hkd m (by
            have := HD.out
            exact List.mem_of_getElem? this)
          obtain ⟨WD, hWD⟩ : ∃ WD, WD = widthN m.c.kind := ⟨_, rfl⟩
          rw [← hWD] at CW
          by_cases z : 0 < WD
          · have z1 : decide ((0 : Int) < (WD : Int)) = true := decide_eq_true (by omega)
            have z2 : (0 : Int) < (WD : Int) := by omega
            cases hv : m.c.view with
            | false =>
              rw [hv] at k1
              have hbuf : m.c.buf = true := by unfold Cel.buf; rw [hv, ← hWD]; simpa using z
              have hp1 : (bufs (swK B k M)).Perm ((m.c.ext, m.c.bytes) :: bufs ((swK B k M).set k none)) := by
                have := hperm
                rw [hbuf, if_pos rfl] at this
                exact this
              have CG := Mem.Aside.mk (give_holds ((hrawp.chg (Chg.refl [] W1).drew (by simp)).perm hp1))
              clear hfz hperm hrawp hcm hrow1 hmem hv hbuf hWD z h1 hp1 HP
              go_upto_region 6 with (go_at_call 80; (with_reducible refine (CW.out _).mono ?_); rintro e w' ⟨rfl, rfl⟩)
              refine region_tail 8 (by kernel_rfl) (by kernel_rfl) ?_
              simp only [List.take_succ_cons, List.take_zero, List.drop_succ_cons, List.drop_zero]
              refine StW.out ?_
              iterate 8 (refine still_take (by rfl) (fun K hK => ?_); go_simp; refine hK _ ?_; clear hK K)
              refine still_end ?_
              go_wp2_with (go_at_call 26; (with_reducible refine CG.out.mono ?_); rintro e w5 ⟨rfl, hh5, hc5⟩; have HH5 := Mem.Aside.mk (And.intro hh5 ((Chg.refl F W1).drew.trans hc5)); obtain ⟨q1, q2, q3⟩ := HFZ.out w5 HH5.out.2; clear hh5 hc5)
              exact ⟨HFIN.out w5 HH5.out.2 HH5.out.1, by simp [intOf]; omega⟩
            | true =>
              rw [hv] at k1
              have hbuf : ¬ m.c.buf = true := by unfold Cel.buf; rw [hv]; simp
              have hh2 : Holds W1 rp F (bufs ((swK B k M).set k none)) most := by
                have := hperm
                rw [if_neg hbuf] at this
                exact hrawp.perm this
              have HH2 := Mem.Aside.mk hh2
              obtain ⟨q1, q2, q3⟩ := hfz W1 (Chg.refl _ _)
              clear hfz hperm hrawp hcm hrow1 hmem hv hbuf hWD z h1 HP hh2
              go_wp2_with (go_at_call 80; (with_reducible refine (CW.out _).mono ?_); rintro e w' ⟨rfl, rfl⟩)
              exact ⟨HFIN.out W1 (Chg.refl _ _) HH2.out, by simp [intOf]; omega⟩
          · have z1 : decide ((0 : Int) < (WD : Int)) = false := decide_eq_false (by omega)
            have z2 : ¬ (0 : Int) < (WD : Int) := by omega
            have hbuf : ¬ m.c.buf = true := by unfold Cel.buf; rw [← hWD]; simp; intro _; omega
            have hh2 : Holds W1 rp F (bufs ((swK B k M).set k none)) most := by
              have := hperm
              rw [if_neg hbuf] at this
              exact hrawp.perm this
            have HH2 := Mem.Aside.mk hh2
            obtain ⟨q1, q2, q3⟩ := hfz W1 (Chg.refl _ _)
            clear hfz hperm hrawp hcm hrow1 hmem hbuf hWD z h1 HP hh2
            go_wp2_with (go_at_call 80; (with_reducible refine (CW.out _).mono ?_); rintro e w' ⟨rfl, rfl⟩)
            exact ⟨HFIN.out W1 (Chg.refl _ _) HH2.out, by simp [intOf]; omega⟩
    · have d' : decide ((k : Int) < (M.length : Int)) = false := decide_eq_false (by omega)
      obtain rfl : k = M.length := by omega
      go_wp2
      rw [Exit.noGoto_normal]
      refine bodyPost_end (results_none rfl _ _ _) rfl ?_
      exact ⟨rfl, HK.out, HC.out⟩
end
end Go.Proofs.Ytgimcpnelogadaa.Hp
/- Chapter 6: right, for whole numbers, rows and bytes. -/
namespace Go.Proofs.Ytgimcpnelogadaa.Hp
open Go.RowKit Go.Proofs.Ytgimcpnelogadaa.Mem Go.Proofs.Ytgimcpnelogadaa.Sto Go.Proofs.Ytgimcpnelogadaa.Wd
set_option linter.unusedVariables false
set_option linter.unusedSimpArgs false
attribute [local go_sem] Option.isNone_some Option.isNone_none
section
variable {w w' : World} {p units used rp most : Nat} {M : List (Option MC)} {cv : Value} {F : List Nat}
abbrev noText : ByteArray := { data := #[] }
set_option maxHeartbeats 8000000 in
set_option maxRecDepth 100000 in
theorem right_int (i : Int) (h : HeapAt w p units used M cv rp F most) :
    Calls Try.prog 81 #[.pointer (some ⟨p, 0, none⟩), .agg #[.int .i64 2, .bool false, .int .i64 i, .string noText, .slice none 0 0, .slice none 0 0, .int .u64 0, .int .i64 0, .int .i64 0]] w fun e w' => e = .returned (.bool true) ∧ Chg [] w w' := by
  have CW := Mem.Aside.mk (width_calls 2)
  rw [show widthN 2 = 0 from rfl, show ((0 : Nat) : Int) = 0 from rfl] at CW
  clear h
  go_enter Try.func81, Try.ntmps81
  go_wp2_with (go_at_call 80; (with_reducible refine (CW.out _).mono ?_); rintro e w' ⟨rfl, rfl⟩)
  go_ret
  exact ⟨rfl, ((Chg.refl _ _).alloc _).alloc _⟩
set_option maxHeartbeats 8000000 in
set_option maxRecDepth 100000 in
theorem right_row (h : HeapAt w p units used M cv rp F most) {wv : Value} {l : List Nat} (hr : Row w 22 1 wv l.length (u64V l)) (hl : l.length ≤ 1000000000) (hx : ∀ x ∈ l, x < 18446744073709551616) :
    Calls Try.prog 81 #[.pointer (some ⟨p, 0, none⟩), .agg #[.int .i64 9, .bool false, .int .i64 0, .string noText, .slice none 0 0, wv, .int .u64 0, .int .i64 0, .int .i64 0]] w fun e w' => e = .returned (.bool (decide (l.length ≤ 1048576) && l.all (soundB M))) ∧ Chg [] w w' := by
  have CW := Mem.Aside.mk (width_calls 9)
  rw [show widthN 9 = 0 from rfl, show ((0 : Nat) : Int) = 0 from rfl] at CW
  have CC := Mem.Aside.mk (contains_calls (w := (w.alloc (.cells #[.pointer (some ⟨p, 0, none⟩)] 63)).alloc (.cells #[.int .i64 9, .bool false, .int .i64 0, .string noText, .slice none 0 0, wv, .int .u64 0, .int .i64 0, .int .i64 0] 60)) (h.chg (((Chg.refl [] w).alloc _).alloc _) (by simp)) (hb := w.heap.size) (((Blk.newL [_] rfl).alloc _).cellAt (i := 0) rfl) (hr.chg (((Chg.refl [] w).alloc _).alloc _) (by simp)) hl hx)
  obtain ⟨aw, cw, rfl⟩ := Row_form hr
  have hany : (l.any fun x => !soundB M x) = !(l.all (soundB M)) := by rw [List.not_all_eq_any_not]
  rw [hany] at CC
  obtain ⟨S, hS⟩ : ∃ S, S = l.all (soundB M) := ⟨_, rfl⟩
  rw [← hS] at CC ⊢
  clear h hr hx hS hany
  by_cases c : l.length ≤ 1048576
  · have c1 : decide ((l.length : Int) ≤ 1048576) = true := decide_eq_true (by omega)
    have c2 : (l.length : Int) ≤ 1048576 := by omega
    rw [decide_eq_true c]
    clear c
    cases S with
    | true =>
      go_enter Try.func81, Try.ntmps81
      go_wp2_with (first
        | (go_at_call 80; (with_reducible refine (CW.out _).mono ?_); rintro e w' ⟨rfl, rfl⟩)
        | (go_at_call 118; (with_reducible refine CC.out.mono ?_); rintro e w' ⟨rfl, rfl⟩))
      go_ret
      exact ⟨rfl, ((Chg.refl _ _).alloc _).alloc _⟩
    | false =>
      go_enter Try.func81, Try.ntmps81
      go_wp2_with (first
        | (go_at_call 80; (with_reducible refine (CW.out _).mono ?_); rintro e w' ⟨rfl, rfl⟩)
        | (go_at_call 118; (with_reducible refine CC.out.mono ?_); rintro e w' ⟨rfl, rfl⟩))
      go_ret
      exact ⟨rfl, ((Chg.refl _ _).alloc _).alloc _⟩
  · have c1 : decide ((l.length : Int) ≤ 1048576) = false := decide_eq_false (by omega)
    have c2 : ¬ (l.length : Int) ≤ 1048576 := by omega
    rw [decide_eq_false c]
    clear c
    go_enter Try.func81, Try.ntmps81
    go_wp2_with (first
      | (go_at_call 80; (with_reducible refine (CW.out _).mono ?_); rintro e w' ⟨rfl, rfl⟩)
      | (go_at_call 118; (with_reducible refine CC.out.mono ?_); rintro e w' ⟨rfl, rfl⟩))
    go_ret
    exact ⟨rfl, ((Chg.refl _ _).alloc _).alloc _⟩
set_option maxHeartbeats 8000000 in
set_option maxRecDepth 100000 in
theorem right_u8 (w : World) (p : Nat) (a : Option Addr) (n c : Nat) (hn : n ≤ 1000000000) :
    Calls Try.prog 81 #[.pointer (some ⟨p, 0, none⟩), .agg #[.int .i64 8, .bool false, .int .i64 0, .string noText, .slice a n c, .slice none 0 0, .int .u64 0, .int .i64 0, .int .i64 0]] w fun e w' => e = .returned (.bool (decide (n ≤ 8388608))) ∧ Chg [] w w' := by
  have CW := Mem.Aside.mk (width_calls 8)
  rw [show widthN 8 = 1 from rfl, show ((1 : Nat) : Int) = 1 from rfl] at CW
  have e1 : (n : Int).tmod 1 = 0 := by simp
  have e0 : (n : Int) % 1 = 0 := by omega
  by_cases c : n ≤ 8388608
  · have c1 : decide ((n : Int) ≤ 8388608) = true := decide_eq_true (by omega)
    have c2 : (n : Int) ≤ 8388608 := by omega
    rw [decide_eq_true c]
    clear c
    go_enter Try.func81, Try.ntmps81
    go_wp2_with (go_at_call 80; (with_reducible refine (CW.out _).mono ?_); rintro e w' ⟨rfl, rfl⟩)
    go_ret
    exact ⟨rfl, ((Chg.refl _ _).alloc _).alloc _⟩
  · have c1 : decide ((n : Int) ≤ 8388608) = false := decide_eq_false (by omega)
    have c2 : ¬ (n : Int) ≤ 8388608 := by omega
    rw [decide_eq_false c]
    clear c
    go_enter Try.func81, Try.ntmps81
    go_wp2_with (go_at_call 80; (with_reducible refine (CW.out _).mono ?_); rintro e w' ⟨rfl, rfl⟩)
    go_ret
    exact ⟨rfl, ((Chg.refl _ _).alloc _).alloc _⟩
end
end Go.Proofs.Ytgimcpnelogadaa.Hp
/- Chapter 6: a cell is placed. -/
namespace Go.Proofs.Ytgimcpnelogadaa.Hp
open Go.RowKit Go.Proofs.Ytgimcpnelogadaa.Mem Go.Proofs.Ytgimcpnelogadaa.Sto Go.Proofs.Ytgimcpnelogadaa.Wd
set_option linter.unusedVariables false
set_option linter.unusedSimpArgs false

/-- M' is M with m at n: the first free place, or behind all. -/
inductive Placed (M : List (Option MC)) (n : Nat) (m : MC) : List (Option MC) → Prop where
  | set (h : M[n]? = some none) : Placed M n m (M.set n (some m))
  | push (h : n = M.length) (hf : ∀ j : Nat, M[j]? ≠ some none) : Placed M n m (M ++ [some m])
section
variable {M M' : List (Option MC)} {n : Nat} {m : MC}
theorem Placed.mem (h : Placed M n m M') {x : MC} : some x ∈ M' ↔ x = m ∨ some x ∈ M := by
  cases h with
  | set h =>
    obtain ⟨e1, e2⟩ := split_cell h (some m)
    rw [e2]
    conv => rhs; rw [e1]
    simp only [List.mem_append, List.mem_cons]
    constructor
    · rintro (a | a | a)
      · exact .inr (.inl a)
      · exact .inl (Option.some.inj a)
      · exact .inr (.inr (.inr a))
    · rintro (a | a | a | a)
      · exact .inr (.inl (by rw [a]))
      · exact .inl a
      · cases a
      · exact .inr (.inr a)
  | push h hf => simp [or_comm]
theorem Placed.split (h : Placed M n m M') : ∃ A B, M' = A ++ some m :: B ∧ (M = A ++ none :: B ∨ (M = A ∧ B = [])) ∧ A.length = n := by
  cases h with
  | set h =>
    obtain ⟨e1, e2⟩ := split_cell h (some m)
    have := (List.getElem?_eq_some_iff.1 h).1
    exact ⟨_, _, e2, .inl e1, by rw [List.length_take]; omega⟩
  | push h hf => exact ⟨M, [], rfl, .inr ⟨rfl, rfl⟩, h.symm⟩
theorem Placed.used (h : Placed M n m M') : usedOf M' = usedOf M + m.c.need := by
  obtain ⟨A, B, rfl, rfl | ⟨rfl, rfl⟩, _⟩ := h.split
  · simp only [usedOf, List.map_append, List.map_cons, List.sum_append, List.sum_cons]; omega
  · simp only [usedOf, List.map_append, List.map_cons, List.sum_append, List.sum_cons, List.map_nil, List.sum_nil]; omega
theorem Placed.blks (h : Placed M n m M') : (blks M').Perm (m.blk :: blks M) ∧ (owns M').Perm (m.wv.ownBlock.toList ++ owns M) ∧ (bufs M').Perm ((if m.c.buf then [(m.c.ext, m.c.bytes)] else []) ++ bufs M) := by
  obtain ⟨A, B, rfl, rfl | ⟨rfl, rfl⟩, _⟩ := h.split
  · refine ⟨?_, ?_, ?_⟩
    · simp only [Hp.blks, List.filterMap_append, List.filterMap_cons, Option.map_some, Option.map_none]
      exact List.perm_middle
    · simp only [owns, List.filterMap_append, List.filterMap_cons, Option.bind_some, Option.bind_none]
      cases m.wv.ownBlock with
      | none => exact .refl _
      | some g => exact List.perm_middle
    · simp only [bufs, List.filterMap_append, List.filterMap_cons, Option.bind_some, Option.bind_none]
      by_cases c : m.c.buf = true
      · simp only [c, if_true]
        exact List.perm_middle
      · simp only [c]
        exact .refl _
  · refine ⟨?_, ?_, ?_⟩
    · simp only [Hp.blks, List.filterMap_append, List.filterMap_cons, Option.map_some, List.filterMap_nil]
      exact List.perm_append_comm
    · simp only [owns, List.filterMap_append, List.filterMap_cons, Option.bind_some, List.filterMap_nil]
      cases m.wv.ownBlock with
      | none => simp
      | some g => exact List.perm_append_comm
    · simp only [bufs, List.filterMap_append, List.filterMap_cons, Option.bind_some, List.filterMap_nil]
      by_cases c : m.c.buf = true
      · simp only [c, if_true]
        exact List.perm_append_comm
      · simp [c]
theorem Placed.cels (h : Placed M n m M') : ∀ j : Nat, (celsOf M')[j]?.getD none = if j = n then some m.c else (celsOf M)[j]?.getD none := by
  intro j
  cases h with
  | set h =>
    have hn := (List.getElem?_eq_some_iff.1 h).1
    unfold celsOf
    rw [List.getElem?_map, List.getElem?_set, List.getElem?_map]
    by_cases c : n = j
    · subst c; simp [hn]
    · rw [if_neg c, if_neg (fun e => c e.symm)]
  | push h hf =>
    unfold celsOf
    rw [List.getElem?_map, List.getElem?_map, List.getElem?_append]
    subst h
    by_cases c : j < M.length
    · rw [if_pos c, if_neg (by omega)]
    · rw [if_neg c]
      by_cases d : j = M.length
      · subst d; simp
      · rw [if_neg d, List.getElem?_eq_none (by simp; omega), List.getElem?_eq_none (by omega)]
end
theorem sum_le_of {α : Type} (f g : α → Nat) : ∀ l : List α, (∀ x ∈ l, f x ≤ g x) → (l.map f).sum ≤ (l.map g).sum
  | [], _ => Nat.le_refl _
  | x :: l, h => by
    have := sum_le_of f g l fun y hy => h y (List.mem_cons_of_mem _ hy)
    have := h x (List.mem_cons_self ..)
    simp only [List.map_cons, List.sum_cons]
    omega
theorem needs_sum (M : List (Option MC)) : ((List.range (celsOf M).length).map (celsOf M).need).sum = usedOf M := by
  have : (List.range (celsOf M).length).map (celsOf M).need = M.map fun o => match o with | some m => m.c.need | none => 0 := by
    apply List.ext_getElem
    · simp [celsOf]
    · intro i h1 h2
      have hi : i < M.length := by simpa using h2
      simp only [List.getElem_map, List.getElem_range]
      unfold Cells.need celsOf
      rw [List.getElem?_map, List.getElem?_eq_getElem hi]
      cases M[i] <;> rfl
  rw [this]
  rfl
theorem units_le (M : List (Option MC)) (B : List Bool) : unitsOf (celsOf M) B ≤ usedOf M := by
  rw [← needs_sum]
  refine sum_le_of _ _ _ fun n _ => ?_
  split <;> omega

theorem sw_used (M : List (Option MC)) (B : List Bool) : usedOf (swK B M.length M) = unitsOf (celsOf M) B := by
  rw [← needs_sum]
  unfold unitsOf
  have hl : (celsOf (swK B M.length M)).length = (celsOf M).length := by simp [celsOf, swK_length]
  rw [hl]
  congr 1
  refine List.map_congr_left fun i hi => ?_
  have hi' : i < M.length := by simpa [celsOf] using hi
  unfold Cells.need celsOf
  rw [List.getElem?_map, List.getElem?_map, swK_get, List.getElem?_eq_getElem hi']
  cases hb : B.getD i false with
  | true => simp
  | false => simp [hi']
theorem sw_mem {B : List Bool} {k : Nat} {M : List (Option MC)} {x : MC} (h : some x ∈ swK B k M) : some x ∈ M := by
  obtain ⟨i, hi⟩ := List.getElem?_of_mem h
  rw [swK_get] at hi
  cases hm : M[i]? with
  | none => rw [hm] at hi; cases hi
  | some o =>
    rw [hm, Option.map_some] at hi
    split at hi
    · cases hi
    · cases hi; exact List.mem_of_getElem? hm
theorem hfoot_sub {p : Nat} {cv : Value} {M S : List (Option MC)} {F : List Nat} (h : ∀ x, some x ∈ S → some x ∈ M) : ∀ k ∈ hfoot p cv S F, k ∈ hfoot p cv M F := by
  intro k hk
  rcases mem_hfoot.1 hk with e | e | ⟨m, hm, e⟩ | ⟨m, hm, e⟩ | e
  · exact mem_hfoot.2 (.inl e)
  · exact mem_hfoot.2 (.inr (.inl e))
  · exact mem_hfoot.2 (.inr (.inr (.inl ⟨m, h m hm, e⟩)))
  · exact mem_hfoot.2 (.inr (.inr (.inr (.inl ⟨m, h m hm, e⟩))))
  · exact mem_hfoot.2 (.inr (.inr (.inr (.inr e))))

section
variable {w w' : World} {p units used rp most n used' most' : Nat} {M M' : List (Option MC)} {m : MC} {cv cv' : Value} {F F' G : List Nat}
theorem HeapAt.placed (h : HeapAt w p units used M cv rp F most) (hP : Placed M n m M') (hc : Chg G w w') (hG : ∀ k ∈ G, k = p ∨ cv.ownBlock = some k ∨ k ∈ F)
    (h1 : Blk w' p 130 [.int .i64 (units : Int), .int .i64 (used' : Int), cv', .pointer (some ⟨rp, 0, none⟩)]) (h2 : Row w' 134 1 cv' M'.length (M'.map ptrV)) (h3 : Holds w' rp F' (bufs M') most')
    (h4 : Blk w' m.blk 136 (celV m.c m.wv)) (h5 : Row w' 22 1 m.wv m.c.words.length (u64V m.c.words)) (hb : w.heap.size ≤ m.blk) (hw : ∀ g, m.wv.ownBlock = some g → w.heap.size ≤ g)
    (hF' : ∀ k ∈ F', k ∈ F ∨ w.heap.size ≤ k) (hD : ∀ k ∈ F', k ≠ p ∧ k ≠ m.blk ∧ m.wv.ownBlock ≠ some k ∧ cv'.ownBlock ≠ some k) (hu : used' ≤ units) (hl : M'.length ≤ units) (hm : most' ≤ 100000000 * 1048576) :
    HeapAt w' p units used' M' cv' rp F' most' := by
  obtain ⟨b1, b2, b3⟩ := hP.blks
  have hlt := h.lt
  have hap := h.apart
  have far : ∀ {j : Nat} {t : TypeId} {cs : List Value}, t ≠ 130 → t ≠ 134 → j ∉ F → Blk w j t cs → Blk w' j t cs := fun ht ht2 hF hb => hb.chg hc fun hm => by
    rcases hG _ hm with e | e | e
    · rw [e] at hb; exact ht (hb.inj h.top).1
    · obtain ⟨ds, hd⟩ := h.row.typed e
      exact ht2 (hb.inj hd).1
    · exact hF e
  have memB : ∀ {x : MC}, some x ∈ M → x.blk ∈ blks M := fun hx => List.mem_filterMap.2 ⟨_, hx, rfl⟩
  have memO : ∀ {x : MC} {g : Nat}, some x ∈ M → x.wv.ownBlock = some g → g ∈ owns M := fun hx hg => List.mem_filterMap.2 ⟨_, hx, hg⟩
  have notF : ∀ {k : Nat}, k ∈ blks M ∨ k ∈ owns M → k ∉ F := fun hk hF => hap _ hF (by
    simp only [List.mem_cons, List.mem_append]
    rcases hk with e | e
    · exact .inr (.inr (.inl e))
    · exact .inr (.inr (.inr e)))
  have ltB : ∀ {k : Nat}, k ∈ blks M ∨ k ∈ owns M → k < w.heap.size := fun hk => hlt _ (by
    simp only [hfoot, List.mem_cons, List.mem_append]
    rcases hk with e | e
    · exact .inr (.inr (.inl e))
    · exact .inr (.inr (.inr (.inl e))))
  refine ⟨h1, h2, fun x hx => ?_, fun x hx => ?_, h3, ?_, ?_, fun k hk hmem => ?_, h.small.1, hu, hl, hm⟩
  · rcases hP.mem.1 hx with rfl | hx
    · exact h4
    · exact far (by decide) (by decide) (notF (.inl (memB hx))) (h.cells x hx)
  · rcases hP.mem.1 hx with rfl | hx
    · exact h5
    · refine (h.words x hx).keep fun g hg => ?_
      obtain ⟨ds, hd⟩ := (h.words x hx).typed hg
      exact (far (by decide) (by decide) (notF (.inr (memO hx hg))) hd).trans hd.symm
  · rw [b1.nodup_iff, List.nodup_cons]
    exact ⟨fun hk => by have := ltB (.inl hk); omega, h.nblk⟩
  · rw [b2.nodup_iff]
    cases ho : m.wv.ownBlock with
    | none => simpa using h.nown
    | some g =>
      simp only [Option.toList_some, List.singleton_append, List.nodup_cons]
      exact ⟨fun hk => by have := ltB (.inr hk); have := hw g ho; omega, h.nown⟩
  · obtain ⟨d1, d2, d3, d4⟩ := hD k hk
    simp only [List.mem_cons, List.mem_append, Option.mem_toList] at hmem
    rcases hmem with e | e | e | e
    · exact d1 e
    · exact d4 e
    · rcases List.mem_cons.1 (b1.mem_iff.1 e) with e | e
      · exact d2 e
      · rcases hF' k hk with f | f
        · exact notF (.inl e) f
        · have := ltB (.inl e); omega
    · rcases List.mem_append.1 (b2.mem_iff.1 e) with e | e
      · exact d3 (Option.mem_toList.1 e)
      · rcases hF' k hk with f | f
        · exact notF (.inr e) f
        · have := ltB (.inr e); omega
end
end Go.Proofs.Ytgimcpnelogadaa.Hp
/- Chapter 6: Put of what has no bytes. -/
namespace Go.Proofs.Ytgimcpnelogadaa.Hp
open Go.RowKit Go.Proofs.Ytgimcpnelogadaa.Mem Go.Proofs.Ytgimcpnelogadaa.Sto Go.Proofs.Ytgimcpnelogadaa.Wd
set_option linter.unusedVariables false
set_option linter.unusedSimpArgs false
attribute [local go_sem] Option.isNone_some Option.isNone_none

theorem elemPtr : Elem Try.prog 134 1 8 (.pointer none) := Elem.of (by kernel_rfl) rfl (by intro v hv; simp [Value.cells] at hv; subst hv; rfl) (by decide)
theorem needN_pos (v : Bool) (k : Int) (a b c : Nat) : 1 ≤ needN v k a b c := by unfold needN; repeat (first | omega | split)
theorem used_ge_len : ∀ {M : List (Option MC)}, (∀ j : Nat, M[j]? ≠ some none) → (∀ m, some m ∈ M → 1 ≤ m.c.need) → M.length ≤ usedOf M
  | [], _, _ => by simp
  | none :: M, h, _ => absurd rfl (h 0)
  | some m :: M, h, h2 => by
    have ih := used_ge_len (M := M) (fun j => by have := h (j + 1); simpa using this) (fun x hx => h2 x (List.mem_cons_of_mem _ hx))
    have := h2 m (List.mem_cons_self ..)
    unfold usedOf at ih ⊢
    simp only [List.length_cons, List.map_cons, List.sum_cons]
    omega
/-- A heap of the cells M. -/
structure HeapIs (w : World) (p units : Nat) (M : List (Option MC)) (G : List Nat) : Prop where
  ex : ∃ cv rp F most, HeapAt w p units (usedOf M) M cv rp F most ∧ most ≤ 8 * units ∧ G = hfoot p cv M F
/-- B marks what is reached. -/
def Marks (M : List (Option MC)) (R : List Nat) (B : List Bool) : Prop := B.length = M.length ∧ ∀ n, B.getD n false = true ↔ Rch (celsOf M) R n
theorem placed_foot {p n B : Nat} {M M' : List (Option MC)} {m : MC} {cv cv' : Value} {F : List Nat} (hP : Placed M n m M') (hcv : ∀ g, cv'.ownBlock = some g → cv.ownBlock = some g ∨ B ≤ g) (hb : B ≤ m.blk) (hw : ∀ g, m.wv.ownBlock = some g → B ≤ g) : ∀ k ∈ hfoot p cv' M' F, k ∈ hfoot p cv M F ∨ B ≤ k := by
  intro k hk
  rcases mem_hfoot.1 hk with e | e | ⟨x, hx, e⟩ | ⟨x, hx, e⟩ | e
  · exact .inl (mem_hfoot.2 (.inl e))
  · exact (hcv k e).imp (fun h => mem_hfoot.2 (.inr (.inl h))) id
  · rcases hP.mem.1 hx with rfl | hx
    · exact .inr (e ▸ hb)
    · exact .inl (mem_hfoot.2 (.inr (.inr (.inl ⟨x, hx, e⟩))))
  · rcases hP.mem.1 hx with rfl | hx
    · exact .inr (hw k e)
    · exact .inl (mem_hfoot.2 (.inr (.inr (.inr (.inl ⟨x, hx, e⟩)))))
  · exact .inl (mem_hfoot.2 (.inr (.inr (.inr (.inr e)))))
section
variable {w w' : World} {p units used rp most : Nat} {M : List (Option MC)} {cv : Value} {F : List Nat}

set_option maxHeartbeats 16000000 in
set_option maxRecDepth 100000 in
theorem put_plain (h : HeapAt w p units (usedOf M) M cv rp F most) (hM : WordsOk M) (hext : ∀ m, some m ∈ M → m.c.ext ≤ 1000000000 ∧ 1 ≤ m.c.need) (c : Cel) (hv : c.view = false) (hk : widthN c.kind = 0) (htx : c.text.size ≤ 1000000000) {wv : Value} (hwr : Row w 22 1 wv c.words.length (u64V c.words))
    (hwl : c.words.length ≤ 1048576) (hwx : ∀ x ∈ c.words, x < 18446744073709551616) (hws : ∀ g, wv.ownBlock = some g → g ∉ hfoot p cv M F) (hbase : c.base < 18446744073709551616) (hbs : c.bytes = []) (hex : c.ext = 0) (hneed : c.need = needN false c.kind c.text.size 0 c.words.length) (hnd : c.need ≤ 2000000000)
    {rv : Value} {rs : List Nat} (hr : Row w 22 1 rv rs.length (u64V rs)) (hrl : rs.length ≤ 1000000000) (hrx : ∀ x ∈ rs, x < 18446744073709551616)
    (hR : ∀ W, Chg [] w W → Calls Try.prog 81 #[.pointer (some ⟨p, 0, none⟩), argV c (.slice none 0 0) wv] W fun e w' => e = .returned (.bool true) ∧ Chg [] W w') :
    Calls Try.prog 39 #[.pointer (some ⟨p, 0, none⟩), argV c (.slice none 0 0) wv, rv] w fun e w' =>
      (∃ M5, ((usedOf M + c.need ≤ units ∧ M5 = M) ∨ (units < usedOf M + c.need ∧ ∃ B, Marks M (rs ++ (c.words ++ [c.base])) B ∧ M5 = swK B M.length M ∧ unitsOf (celsOf M) B + c.need ≤ units)) ∧
        ∃ n m M' cv', m.c = c ∧ Placed M5 n m M' ∧ e = .returned (.tuple #[.int .u64 (hw n : Nat), .int .i64 0]) ∧ HeapAt w' p units (usedOf M') M' cv' rp F most ∧ Chg (hfoot p cv M F) w w' ∧ ∀ k ∈ hfoot p cv' M' F, k ∈ hfoot p cv M F ∨ w.heap.size ≤ k) ∨
      (units < usedOf M + c.need ∧ ∃ B, Marks M (rs ++ (c.words ++ [c.base])) B ∧ units < unitsOf (celsOf M) B + c.need ∧ e = .returned (.tuple #[.int .u64 0, .int .i64 40]) ∧ HeapAt w' p units (usedOf (swK B M.length M)) (swK B M.length M) cv rp F most ∧ Chg (hfoot p cv M F) w w') := by
  obtain ⟨aw, cw, rfl⟩ := Row_form hwr
  obtain ⟨ar, cr, rfl⟩ := Row_form hr
  obtain ⟨kind, view, int, text, bytes, words, base, from_, len, ext, need⟩ := c
  simp only [argV] at *
  subst hv hbs hex
  have H := Mem.Aside.mk h
  have HMW := Mem.Aside.mk hM
  have HWS := Mem.Aside.mk hws
  have HEXT := Mem.Aside.mk hext
  have HW := Mem.Aside.mk hwr
  have HR := Mem.Aside.mk hr
  have HWX := Mem.Aside.mk (And.intro hwl (And.intro hwx (And.intro hbase (And.intro hrl hrx))))
  have HND := Mem.Aside.mk (And.intro hneed hnd)
  have hsm := h.small
  obtain ⟨b, hb⟩ : ∃ b, b = w.heap.size := ⟨_, rfl⟩
  have CR := Mem.Aside.mk (hR (w.alloc (.cells #[.int .i64 kind, .bool false, .int .i64 int, .string text, .slice none 0 0, .slice aw words.length cw, .int .u64 (base : Int), .int .i64 from_, .int .i64 len] 60)) ((Chg.refl [] w).alloc _))
  have CN := Mem.Aside.mk (need_calls kind false int text none aw 0 0 words.length cw base from_ len (by omega) (by omega) (by omega))
  rw [← hneed] at CN
  have CW := Mem.Aside.mk (width_calls kind)
  have HKW := Mem.Aside.mk hk
  rw [hk, show ((0 : Nat) : Int) = 0 from rfl] at CW
  have hCB : Blk (w.alloc (.cells #[.int .i64 kind, .bool false, .int .i64 int, .string text, .slice none 0 0, .slice aw words.length cw, .int .u64 (base : Int), .int .i64 from_, .int .i64 len] 60)) b 60 [.int .i64 kind, .bool false, .int .i64 int, .string text, .slice none 0 0, .slice aw words.length cw, .int .u64 (base : Int), .int .i64 from_, .int .i64 len] := by rw [hb]; exact Blk.newL [_, _, _, _, _, _, _, _, _] rfl
  have HCB := Mem.Aside.mk hCB
  have HCA := Mem.Aside.mk ((Chg.refl [] w).alloc (.cells #[.int .i64 kind, .bool false, .int .i64 int, .string text, .slice none 0 0, .slice aw words.length cw, .int .u64 (base : Int), .int .i64 from_, .int .i64 len] 60))
  have HBB := Mem.Aside.mk hb
  clear h hM hext hws hwr hr hwl hwx hbase hneed hnd hrl hrx hR hk htx hCB
  go_enter Try.func39, Try.ntmps39
  go_upto_region 4 with (first
    | (go_at_call 81; (with_reducible refine CR.out.mono ?_); rintro e w1 ⟨rfl, hc1⟩; have HC1 := Mem.Aside.mk (HCA.out.then hc1 (by simp)); have HB1 := Mem.Aside.mk (HCB.out.chg hc1 (by simp)); have b0 := HB1.out.cellAt (i := 0) rfl; have b1 := HB1.out.cellAt (i := 1) rfl; have b2 := HB1.out.cellAt (i := 2) rfl; have b3 := HB1.out.cellAt (i := 3) rfl; have b4 := HB1.out.cellAt (i := 4) rfl; have b5 := HB1.out.cellAt (i := 5) rfl; have b6 := HB1.out.cellAt (i := 6) rfl; have b7 := HB1.out.cellAt (i := 7) rfl; have b8 := HB1.out.cellAt (i := 8) rfl; rw [hb] at b0 b1 b2 b3 b4 b5 b6 b7 b8; clear hc1)
    | (go_at_call 36; (with_reducible refine (CN.out _).mono ?_); rintro e w2 ⟨rfl, hc2⟩; have HC2 := Mem.Aside.mk (HC1.out.then hc2 (by simp)); have HB2 := Mem.Aside.mk (HB1.out.chg hc2 (by simp)); clear hc2))
  simp only [← hb]
  clear b0 b1 b2 b3 b4 b5 b6 b7 b8 hb
  have hW2 := H.out.chg HC2.out (by simp)
  have c0 := hW2.top.cellAt (i := 0) rfl
  have c1 := hW2.top.cellAt (i := 1) rfl
  obtain ⟨U, hU⟩ : ∃ U, U = usedOf M := ⟨_, rfl⟩
  rw [← hU] at c1
  have HU := Mem.Aside.mk hU
  have hUu : U ≤ units := by rw [hU]; exact hsm.2.1
  have hnd := HND.out.2
  have hwsum : IntKind.i64.wrap ((U : Int) + (need : Int)) = (U : Int) + (need : Int) := IntWalk.i64_in _ (by omega)
  clear hU
  by_cases fit : U + need ≤ units
  case' pos =>
    have g1 : ¬ (units : Int) < (U : Int) + (need : Int) := by omega
    have g2 : decide ((units : Int) < (U : Int) + (need : Int)) = false := decide_eq_false g1
    have g3 : (U : Int) + (need : Int) ≤ (units : Int) := by omega
    refine region_tail 10 (by kernel_rfl) (by kernel_rfl) ?_
    simp only [List.take_succ_cons, List.take_zero, List.drop_succ_cons, List.drop_zero]
    refine StW.out ?_
    iterate 10 (refine still_take (by rfl) (fun K hK => ?_); go_simp; refine hK _ ?_; clear hK K)
    refine still_end ?_
    go_upto_region 9 with fail
    obtain ⟨M5, H5, hfit, HL5, hl5, HSUB⟩ : ∃ M5, Mem.Aside (HeapAt w2.drew p units (usedOf M5) M5 cv rp F most) ∧ usedOf M5 + need ≤ units ∧ Mem.Aside (((usedOf M + need ≤ units ∧ M5 = M) ∨ (units < usedOf M + need ∧ ∃ B, Marks M (rs ++ (words ++ [base])) B ∧ M5 = swK B M.length M ∧ unitsOf (celsOf M) B + need ≤ units))) ∧ Mem.Aside (M5.length = M.length) ∧ Mem.Aside (∀ k ∈ hfoot p cv M5 F, k ∈ hfoot p cv M F) := ⟨M, ⟨hW2.chg (Chg.refl [] w2).drew (by simp)⟩, by rw [← HU.out]; exact fit, ⟨.inl ⟨by rw [← HU.out]; exact fit, rfl⟩⟩, ⟨rfl⟩, ⟨fun k hk => hk⟩⟩
    have HC5 : Mem.Aside (Chg (hfoot p cv M F) w w2.drew) := ⟨(HC2.out.mono (by simp)).drew⟩
    have HB5 := Mem.Aside.mk HB2.out.drew
    generalize w2.drew = w5 at H5 HC5 HB5 ⊢
  case' neg =>
    have g1 : (units : Int) < (U : Int) + (need : Int) := by omega
    have g2 : decide ((units : Int) < (U : Int) + (need : Int)) = true := decide_eq_true g1
    refine region_tail 10 (by kernel_rfl) (by kernel_rfl) ?_
    simp only [List.take_succ_cons, List.take_zero, List.drop_succ_cons, List.drop_zero]
    refine StW.out ?_
    iterate 10 (refine still_take (by rfl) (fun K hK => ?_); go_simp; refine hK _ ?_; clear hK K)
    refine still_end ?_
    have d5 := HB2.out.drew.cellAt (i := 5) rfl
    have d6 := HB2.out.drew.cellAt (i := 6) rfl
    have hc3 : Chg [] w ((w2.alloc (.cells #[.int .u64 (base : Int)] 22)).alloc (.cells #[.slice ar rs.length cr, .slice aw words.length cw, .slice (some ⟨w2.heap.size, 0, none⟩) 1 1] 58)).drew := ((HC2.out.alloc _).alloc _).drew
    have hL : Lists ((w2.alloc (.cells #[.int .u64 (base : Int)] 22)).alloc (.cells #[.slice ar rs.length cr, .slice aw words.length cw, .slice (some ⟨w2.heap.size, 0, none⟩) 1 1] 58)).drew (.slice (some ⟨w2.heap.size + 1, 0, none⟩) 3 3) [(.slice ar rs.length cr, rs), (.slice aw words.length cw, words), (.slice (some ⟨w2.heap.size, 0, none⟩) 1 1, [base])] := by
      have hwx := HWX.out
      refine ⟨Row.mk (rest := []) ((Blk.newL [_, _, _] (by simp)).drew) rfl (Nat.le_refl _) (by decide) rfl, fun q hq => ?_, fun q hq => ?_, by simp⟩
      · simp only [List.mem_cons, List.not_mem_nil, or_false] at hq
        rcases hq with rfl | rfl | rfl
        · exact HR.out.chg hc3 (by simp)
        · exact HW.out.chg hc3 (by simp)
        · exact ((Row.mk (rest := []) (Blk.newL [.int .u64 (base : Int)] rfl) rfl (Nat.le_refl _) (by decide) rfl : Row (w2.alloc (.cells #[.int .u64 (base : Int)] 22)) 22 1 (.slice (some ⟨w2.heap.size, 0, none⟩) 1 1) 1 [.int .u64 (base : Int)]).alloc _).drew
      · simp only [List.mem_cons, List.not_mem_nil, or_false] at hq
        rcases hq with rfl | rfl | rfl
        · exact ⟨hwx.2.2.2.1, hwx.2.2.2.2⟩
        · exact ⟨by have := hwx.1; simp only; omega, hwx.2.1⟩
        · exact ⟨by simp, fun x hx => by simp at hx; subst hx; exact hwx.2.2.1⟩
    have CRE := Mem.Aside.mk (reached_calls (H.out.chg hc3 (by simp)) HMW.out hL)
    simp only [List.flatMap_cons, List.flatMap_nil, List.append_nil] at CRE
    have HC3 := Mem.Aside.mk hc3
    clear hL hc3 hW2 c0 c1
    go_upto_region 6 with (go_at_call 82; (with_reducible refine CRE.out.mono ?_); rintro e w4 ⟨mv, B, rfl, hBl, hBr, hBm, hc4, hBf⟩; obtain ⟨am, cm, rfl⟩ := Row_form hBr; have HMARK : Mem.Aside (Marks M (rs ++ (words ++ [base])) B) := ⟨⟨hBl, hBm⟩⟩; have HC4 := Mem.Aside.mk (HC3.out.then hc4 (by simp)); have CS := Mem.Aside.mk (sweep_calls (H.out.chg HC4.out (by simp)) hBl hBr (fun g hg hm => by have := H.out.lt g hm; have := hBf g hg; have := HC3.out.size; omega) (fun m hm => (HEXT.out m hm).1)); have HCB4 := Mem.Aside.mk ((((HB2.out.alloc _).alloc _).drew).chg hc4 (by simp)); clear hBl hBr hBm hc4 hBf)
    obtain ⟨UB, hUB⟩ : ∃ UB, UB = unitsOf (celsOf M) B := ⟨_, rfl⟩
    rw [← hUB]
    have hUBle : UB ≤ U := by rw [hUB, HU.out]; exact units_le M B
    have HUB := Mem.Aside.mk hUB
    clear hUB
    have hwub : IntKind.i64.wrap ((UB : Int) + (need : Int)) = (UB : Int) + (need : Int) := IntWalk.i64_in _ (by omega)
    go_upto_region 7 with (go_at_call 83; (with_reducible refine CS.out.mono ?_); rintro e w5 ⟨rfl, h5, hc5⟩; have H5 := Mem.Aside.mk h5; have HC5 := Mem.Aside.mk ((HC4.out.mono (F := []) (G := hfoot p cv M F) (by simp)).then hc5 (fun x hx => .inl hx)); have e0 := h5.top.cellAt (i := 0) rfl; have HB5 := Mem.Aside.mk (HCB4.out.chg hc5 (fun hm => by have := H.out.lt _ hm; have := HBB.out; omega)); clear h5 hc5)
    by_cases fit2 : UB + need ≤ units
    case' neg =>
      have g4 : (units : Int) < (UB : Int) + (need : Int) := by omega
      have g5 : decide ((units : Int) < (UB : Int) + (need : Int)) = true := decide_eq_true g4
      go_wp2
      go_ret2
      exact .inr ⟨by rw [← HU.out]; omega, B, HMARK.out, by rw [← HUB.out]; omega, rfl, H5.out, HC5.out⟩
    case' pos =>
      have g4 : ¬ (units : Int) < (UB : Int) + (need : Int) := by omega
      have g5 : decide ((units : Int) < (UB : Int) + (need : Int)) = false := decide_eq_false g4
      go_upto_region 9 with fail
      have H5' := H5
      have hfit2 : usedOf (swK B M.length M) + need ≤ units := by rw [sw_used, ← HUB.out]; exact fit2
      clear H5
      obtain ⟨M5, H5, hfit, HL5, hl5, HSUB⟩ : ∃ M5, Mem.Aside (HeapAt w5 p units (usedOf M5) M5 cv rp F most) ∧ usedOf M5 + need ≤ units ∧ Mem.Aside (((usedOf M + need ≤ units ∧ M5 = M) ∨ (units < usedOf M + need ∧ ∃ B, Marks M (rs ++ (words ++ [base])) B ∧ M5 = swK B M.length M ∧ unitsOf (celsOf M) B + need ≤ units))) ∧ Mem.Aside (M5.length = M.length) ∧ Mem.Aside (∀ k ∈ hfoot p cv M5 F, k ∈ hfoot p cv M F) := ⟨swK B M.length M, ⟨H5'.out⟩, hfit2, ⟨.inr ⟨by rw [← HU.out]; omega, B, HMARK.out, rfl, by rw [← HUB.out]; exact fit2⟩⟩, ⟨swK_length _ _ _⟩, ⟨hfoot_sub fun x hx => sw_mem hx⟩⟩
  all_goals
    have d0 := HB5.out.cellAt (i := 0) rfl
    have d1 := HB5.out.cellAt (i := 1) rfl
    have d2 := HB5.out.cellAt (i := 2) rfl
    have d3 := HB5.out.cellAt (i := 3) rfl
    have d4 := HB5.out.cellAt (i := 4) rfl
    have d5 := HB5.out.cellAt (i := 5) rfl
    have d6 := HB5.out.cellAt (i := 6) rfl
    have d7 := HB5.out.cellAt (i := 7) rfl
    have d8 := HB5.out.cellAt (i := 8) rfl
    go_upto_region 10 with fail
    obtain ⟨xb, hxb⟩ : ∃ xb, xb = w5.heap.size := ⟨_, rfl⟩
    have hbx : Blk (w5.alloc (.cells #[.int .i64 kind, .bool false, .int .i64 int, .string text, .slice none 0 0, .slice aw words.length cw, .int .u64 (base : Int), .int .i64 from_, .int .i64 len, .int .i64 0, .int .i64 (need : Int)] 136)) xb 136 [.int .i64 kind, .bool false, .int .i64 int, .string text, .slice none 0 0, .slice aw words.length cw, .int .u64 (base : Int), .int .i64 from_, .int .i64 len, .int .i64 0, .int .i64 (need : Int)] := by rw [hxb]; exact Blk.newL [_, _, _, _, _, _, _, _, _, _, _] rfl
    simp only [← hxb]
    have hsz5 : w.heap.size ≤ w5.heap.size := HC5.out.size
    have HXB : Mem.Aside (xb = w5.heap.size ∧ w.heap.size ≤ xb) := ⟨hxb, by omega⟩
    have e1 : Chg [] w5 (w5.alloc (.cells #[.int .i64 kind, .bool false, .int .i64 int, .string text, .slice none 0 0, .slice aw words.length cw, .int .u64 (base : Int), .int .i64 from_, .int .i64 len, .int .i64 0, .int .i64 (need : Int)] 136)) := (Chg.refl [] w5).alloc _
    have hbb : Blk (w5.alloc (.cells #[.int .i64 kind, .bool false, .int .i64 int, .string text, .slice none 0 0, .slice aw words.length cw, .int .u64 (base : Int), .int .i64 from_, .int .i64 len, .int .i64 0, .int .i64 (need : Int)] 136)) b 60 [.int .i64 kind, .bool false, .int .i64 int, .string text, .slice none 0 0, .slice aw words.length cw, .int .u64 (base : Int), .int .i64 from_, .int .i64 len] := HB5.out.alloc _
    generalize w5.alloc (.cells #[.int .i64 kind, .bool false, .int .i64 int, .string text, .slice none 0 0, .slice aw words.length cw, .int .u64 (base : Int), .int .i64 from_, .int .i64 len, .int .i64 0, .int .i64 (need : Int)] 136) = W6 at hbx e1 hbb ⊢
    have hrw : Row W6 22 1 (.slice aw words.length cw) words.length (u64V words) := (HW.out.chg HC5.out (fun g hg => HWS.out g hg)).chg e1 (by simp)
    have CL := Mem.Aside.mk (clone64 hrw (by have := HWX.out.1; omega))
    have E1 := Mem.Aside.mk e1
    have HBX := Mem.Aside.mk hbx
    have f4 := hbx.cellAt (i := 4) rfl
    have d0 := hbb.cellAt (i := 0) rfl
    have d1 := hbb.cellAt (i := 1) rfl
    have d5 := hbb.cellAt (i := 5) rfl
    have HBBx := Mem.Aside.mk hbb
    clear hxb hsz5 hrw e1 hbx hbb d2 d3 d4 d6 d7 d8
    have hbx1 : b ≠ xb := by have := HBB.out; have := HB5.out.lt; have := HXB.out; omega
    have hbx2 : xb ≠ b := fun e => hbx1 e.symm
    go_upto_region 11 with (go_at_call 84; (with_reducible refine CL.out.mono ?_); rintro e w7 ⟨v7, rfl, hR7, hc7, ho7⟩; have HR7 := Mem.Aside.mk hR7; have HC7 := Mem.Aside.mk hc7; have HO7 := Mem.Aside.mk ho7; have hx7 := HBX.out.chg hc7 (by simp); have hb7 := HBBx.out.chg hc7 (by simp); have f5 := hx7.cellAt (i := 5) rfl; have f4' := hx7.cellAt (i := 4) rfl; have z5 := hx7.frozen 5; have z4 := hx7.frozen 4; have d0' := hb7.cellAt (i := 0) rfl; have d1' := hb7.cellAt (i := 1) rfl; obtain ⟨a7, c7, rfl⟩ := Row_form hR7; clear hR7 hc7 ho7)
    go_upto_region 15 with (go_at_call 80; (with_reducible refine (CW.out _).mono ?_); rintro e w' ⟨rfl, rfl⟩)
    have hx8 : Blk ((w7.setCell ⟨xb, 5, none⟩ (.slice a7 words.length c7)).setCell ⟨xb, 4, none⟩ (.slice none 0 0)) xb 136 (celV ⟨kind, false, int, text, [], words, base, from_, len, 0, need⟩ (.slice a7 words.length c7)) := (hx7.set 5 _).set 4 _
    have tyx : ∀ {j : Nat} {t : TypeId} {cs : List Value}, t ≠ 136 → Blk w7 j t cs → j ≠ xb := fun ht hb e => by
      rw [e] at hb
      exact ht (hb.inj hx7).1
    have hr8 : Row ((w7.setCell ⟨xb, 5, none⟩ (.slice a7 words.length c7)).setCell ⟨xb, 4, none⟩ (.slice none 0 0)) 22 1 (.slice a7 words.length c7) words.length (u64V words) := (HR7.out.farCell (p := ⟨xb, 5, none⟩) (fun e => by
        obtain ⟨ds, hd⟩ := HR7.out.typed e
        exact tyx (by decide) hd rfl) _).farCell (p := ⟨xb, 4, none⟩) (fun e => by
        obtain ⟨ds, hd⟩ := HR7.out.typed e
        exact tyx (by decide) hd rfl) _
    have e8 : Chg [] w5 ((w7.setCell ⟨xb, 5, none⟩ (.slice a7 words.length c7)).setCell ⟨xb, 4, none⟩ (.slice none 0 0)) := (((E1.out.then HC7.out (by simp)).setCell (p := ⟨xb, 5, none⟩) (.inr (by show w5.heap.size ≤ xb; rw [HXB.out.1]; exact Nat.le_refl _)) _).setCell (p := ⟨xb, 4, none⟩) (.inr (by show w5.heap.size ≤ xb; rw [HXB.out.1]; exact Nat.le_refl _)) _)
    have hw78 : w7.heap.size = ((w7.setCell ⟨xb, 5, none⟩ (.slice a7 words.length c7)).setCell ⟨xb, 4, none⟩ (.slice none 0 0)).heap.size := by simp [World.setCell]
    generalize (w7.setCell ⟨xb, 5, none⟩ (.slice a7 words.length c7)).setCell ⟨xb, 4, none⟩ (.slice none 0 0) = W8 at hx8 hr8 e8 hw78 ⊢
    have h8 := H5.out.chg e8 (by simp)
    obtain ⟨U5, hU5⟩ : ∃ U5, U5 = usedOf M5 := ⟨_, rfl⟩
    have c1 := h8.top.cellAt (i := 1) rfl
    have fz1 := h8.top.frozen 1
    rw [← hU5] at c1 hfit
    have hwu5 : IntKind.i64.wrap ((U5 : Int) + (need : Int)) = (U5 : Int) + (need : Int) := IntWalk.i64_in _ (by omega)
    have hpx : p ≠ xb := fun e => by have := H5.out.top.lt; have := HXB.out.1; omega
    have hpx' : xb ≠ p := fun e => hpx e.symm
    have HU5 := Mem.Aside.mk hU5
    have HX8 := Mem.Aside.mk (And.intro hx8 (And.intro hr8 (And.intro e8 h8)))
    have HW78 := Mem.Aside.mk hw78
    clear hU5 hw78 tyx hx7 hb7 f5 f4' z5 z4 d0' d1' f4 d0 d1 d5
    go_upto_region 16 with fail
    have top9 := h8.top.set 1 (.int .i64 ((U5 : Int) + (need : Int)))
    have e9 : Chg [p] w5 (W8.setCell ⟨p, 1, none⟩ (.int .i64 ((U5 : Int) + (need : Int)))) := (e8.mono (by simp)).setCell (p := ⟨p, 1, none⟩) (.inl (by simp)) _
    have ep : Chg [p] W8 (W8.setCell ⟨p, 1, none⟩ (.int .i64 ((U5 : Int) + (need : Int)))) := (Chg.refl _ W8).setCell (p := ⟨p, 1, none⟩) (.inl (by simp)) _
    have hx9 := hx8.chg ep (by simpa using hpx')
    have hr9 := hr8.chg ep (fun g hg hm => by
      simp at hm
      obtain ⟨ds, hd⟩ := hr8.typed hg
      rw [hm] at hd
      exact absurd (hd.inj h8.top).1 (by decide))
    have row9 := h8.row.chg ep (fun g hg hm => by
      simp at hm
      obtain ⟨ds, hd⟩ := h8.row.typed hg
      rw [hm] at hd
      exact absurd (hd.inj h8.top).1 (by decide))
    have raw9 := h8.raw.chg ep (fun k hk hm => by simp at hm; exact h8.apart k hk (by rw [hm]; simp))
    generalize W8.setCell ⟨p, 1, none⟩ (.int .i64 ((U5 : Int) + (need : Int))) = W9 at top9 e9 hx9 hr9 row9 raw9 ⊢
    obtain ⟨ac, cc, rfl⟩ := Row_form row9
    have c2 := top9.cellAt (i := 2) rfl
    have hM5 := h8.small
    have CI := Mem.Aside.mk (index_calls row9 (by omega))
    have H9 := Mem.Aside.mk (And.intro top9 (And.intro e9 (And.intro hx9 (And.intro hr9 (And.intro row9 raw9)))))
    have hxlow : w.heap.size ≤ xb := HXB.out.2
    clear top9 e9 ep hx9 hr9 row9 raw9 hx8 hr8 e8 h8 c1 fz1
    go_upto_region 17 with (go_at_call 86; (with_reducible refine CI.out.mono ?_); rintro e w10 ⟨⟨z, rfl, hz⟩, rfl⟩; have HZ := Mem.Aside.mk hz; clear hz)
    rcases HZ.out with ⟨i, rfl, hi1, hi2⟩ | ⟨rfl, hi2⟩
    · have hiL := (List.getElem?_eq_some_iff.1 hi1).1
      have hiL' : (i : Int) < (M5.length : Int) := by omega
      have hi0 : ¬ (i : Int) < 0 := by omega
      have hwi : IntKind.u64.wrap (i : Int) = (i : Int) := by rw [IntKind.wrap_u64]; omega
      obtain ⟨gc, capc, hcv, hcc⟩ := row_get1 H9.out.2.2.2.2.1 (i := i) (u := ptrV none) (by rw [List.getElem?_map, hi1]; rfl)
      cases hcv
      have fzc : W9.frozen? ⟨gc, i, none⟩ = false := by
        rcases H9.out.2.2.2.2.1.cases with ⟨h1, _⟩ | ⟨g', cap', rest, h1, hb, _⟩
        · cases h1
        · cases h1; exact hb.frozen i
      simp only [ptrV] at hcc
      have CF := Mem.Aside.mk (fromHandle_calls i (by omega))
      have HI := Mem.Aside.mk (And.intro hi1 hi2)
      clear hi1 hi2
      go_wp2_with (go_at_call 87; (with_reducible refine (CF.out _).mono ?_); rintro e w' ⟨rfl, rfl⟩)
      go_ret2
      have top9 := H9.out.1
      have tyc : ∀ {j : Nat} {t : TypeId} {cs : List Value}, t ≠ 134 → Blk W9 j t cs → j ≠ gc := fun ht hb e => by
        obtain ⟨ds, hd⟩ := H9.out.2.2.2.2.1.typed (g := gc) rfl
        rw [e] at hb
        exact ht (hb.inj hd).1
      have hP : Placed M5 i ⟨⟨kind, false, int, text, [], words, base, from_, len, 0, need⟩, xb, .slice a7 words.length c7⟩ (M5.set i (some ⟨⟨kind, false, int, text, [], words, base, from_, len, 0, need⟩, xb, .slice a7 words.length c7⟩)) := .set HI.out.1
      have eF : Chg [gc] W9 (W9.setCell ⟨gc, i, none⟩ (.pointer (some ⟨xb, 0, none⟩))) := (Chg.refl _ W9).setCell (p := ⟨gc, i, none⟩) (.inl (by simp)) _
      have row10 : Row (W9.setCell ⟨gc, i, none⟩ (.pointer (some ⟨xb, 0, none⟩))) 134 1 (.slice (some ⟨gc, 0, none⟩) M5.length cc) (M5.set i (some ⟨⟨kind, false, int, text, [], words, base, from_, len, 0, need⟩, xb, .slice a7 words.length c7⟩)).length ((M5.set i (some ⟨⟨kind, false, int, text, [], words, base, from_, len, 0, need⟩, xb, .slice a7 words.length c7⟩)).map ptrV) := by
        rw [List.length_set, map_set_ptr]
        exact row_set1 H9.out.2.2.2.2.1 hiL _
      have hgF : gc ∉ F := fun hF => H5.out.apart gc hF (by simp [Value.ownBlock])
      have hU' : usedOf M5 = U5 := HU5.out.symm
      have e10 : Chg [p, gc] w5 (W9.setCell ⟨gc, i, none⟩ (.pointer (some ⟨xb, 0, none⟩))) := (H9.out.2.1.mono (by simp)).then eF (fun x hx => .inl (by simp at hx; simp [hx]))
      have hown7 : ∀ g, (Value.slice a7 words.length c7).ownBlock = some g → w5.heap.size ≤ g := fun g hg => Nat.le_trans E1.out.size (HO7.out g hg)
      have hu' := hP.used
      simp only at hu'
      have hAP := H5.out.apart
      have htop : Blk (W9.setCell ⟨gc, i, none⟩ (.pointer (some ⟨xb, 0, none⟩))) p 130 [.int .i64 (units : Int), .int .i64 ((usedOf (M5.set i (some ⟨⟨kind, false, int, text, [], words, base, from_, len, 0, need⟩, xb, .slice a7 words.length c7⟩)) : Nat) : Int), .slice (some ⟨gc, 0, none⟩) M5.length cc, .pointer (some ⟨rp, 0, none⟩)] := by
        have := top9.far (p := ⟨gc, i, none⟩) (tyc (by decide) top9) (.pointer (some ⟨xb, 0, none⟩))
        rw [hu', hU', show ((U5 + need : Nat) : Int) = (U5 : Int) + (need : Int) by omega]
        exact this
      have hheap := H5.out.placed hP e10 (fun k hk => by
          simp only [List.mem_cons, List.not_mem_nil, or_false] at hk
          rcases hk with e | e
          · exact .inl e
          · exact .inr (.inl (by rw [e]; rfl))) htop row10 (by
          have hb3 := hP.blks.2.2
          have hnb : ¬ Cel.buf (⟨kind, false, int, text, [], words, base, from_, len, 0, need⟩ : Cel) = true := by unfold Cel.buf; rw [HKW.out]; simp
          rw [if_neg hnb] at hb3
          exact (H9.out.2.2.2.2.2.chg eF (fun k hk hm => by simp at hm; exact hgF (hm ▸ hk))).perm hb3.symm)
        (H9.out.2.2.1.far (p := ⟨gc, i, none⟩) (tyc (by decide) H9.out.2.2.1) _) (H9.out.2.2.2.1.farCell (p := ⟨gc, i, none⟩) (fun e => by
          obtain ⟨ds, hd⟩ := H9.out.2.2.2.1.typed e
          exact tyc (by decide) hd rfl) _) (by show w5.heap.size ≤ xb; rw [HXB.out.1]; exact Nat.le_refl _) hown7 (fun k hk => .inl hk) (fun k hk => ⟨fun e => hAP k hk (by rw [e]; simp), fun e => by have h1 := H5.out.raw.lt k hk; have h2 := HXB.out.1; simp only at e; omega, fun e => by have h1 := H5.out.raw.lt k hk; have h2 := hown7 k e; omega, fun e => hAP k hk (by simp only [List.mem_cons, List.mem_append, Option.mem_toList]; exact .inr (.inl e))⟩)
        (by rw [hu', hU']; exact hfit) (by rw [List.length_set]; exact hM5.2.2.1) hM5.2.2.2
      refine .inl ⟨M5, HL5.out, i, ⟨⟨kind, false, int, text, [], words, base, from_, len, 0, need⟩, xb, .slice a7 words.length c7⟩, _, _, rfl, hP, rfl, hheap, HC5.out.then e10 (fun x hx => .inl ?_), fun k hk => ?_⟩
      · simp only [List.mem_cons, List.not_mem_nil, or_false] at hx
        rcases hx with e | e
        · exact mem_hfoot.2 (.inl e)
        · exact mem_hfoot.2 (.inr (.inl (by rw [e]; rfl)))
      · rcases placed_foot (B := w.heap.size) hP (cv := .slice (some ⟨gc, 0, none⟩) M5.length cc) (fun g hg => .inl hg) hxlow (fun g hg => by have := hown7 g hg; have := HC5.out.size; omega) k hk with e | e
        · exact .inl (HSUB.out k e)
        · exact .inr e
    · have hlen := used_ge_len hi2 (fun m hm => (HEXT.out m (by
        rcases HL5.out with ⟨_, e⟩ | ⟨_, B', _, e, _⟩
        · rw [← e]; exact hm
        · rw [e] at hm; exact sw_mem hm)).2)
      have hnp : 1 ≤ need := by have := HND.out.1; rw [this]; exact needN_pos _ _ _ _ _
      rw [← HU5.out] at hlen
      have HI := Mem.Aside.mk (And.intro hi2 (And.intro hlen hnp))
      clear hi2 hlen hnp
      have top9 := H9.out.1
      have row9 := H9.out.2.2.2.2.1
      obtain ⟨v11, w11, hr11, hR11, hC11, hO11⟩ := (row9.alloc (.cells #[.pointer none] 134)).append (c := 1) Try.underlying128 elemPtr (m := 1) (news := [.pointer none]) (ad := ⟨W9.heap.size, 0, none⟩) rfl ((Blk.newL [.pointer none] rfl).from (fun j u hu => by rw [Nat.zero_add]; exact hu)) (by simp [Value.oneCell']) (by omega) (by omega)
      obtain ⟨g11, c11, hv11, _⟩ := row_get1 hR11 (i := M5.length) (u := .pointer none) (by rw [List.getElem?_append_right (by simp)]; simp)
      subst hv11
      have HRUN := Mem.Aside.mk hr11
      have hgF0 : ∀ g, (Value.slice ac M5.length cc).ownBlock = some g → g ∉ F := fun g hg hF => H5.out.apart g hF (by simp only [List.mem_cons, List.mem_append, Option.mem_toList]; exact .inr (.inl hg))
      have ty11 : ∀ {j : Nat} {t : TypeId} {cs : List Value}, t ≠ 134 → Blk W9 j t cs → Blk w11 j t cs := fun ht hb => (hb.alloc _).chg hC11 (fun hm => by
        obtain ⟨ds, hd⟩ := row9.typed (Option.mem_toList.1 hm)
        exact ht (hb.inj hd).1)
      have top11 := ty11 (by decide) top9
      have p2 := top11.cellAt (i := 2) rfl
      have pf2 := top11.frozen 2
      have ne11 : ∀ {j : Nat} {t : TypeId} {cs : List Value}, t ≠ 134 → Blk w11 j t cs → j ≠ g11 := fun ht hb e => by
        obtain ⟨ds, hd⟩ := hR11.typed (g := g11) rfl
        rw [e] at hb
        exact ht (hb.inj hd).1
      have hpg : p ≠ g11 := ne11 (by decide) top11
      have hgp : g11 ≠ p := fun e => hpg e.symm
      have row12 : Row (w11.setCell ⟨p, 2, none⟩ (.slice (some ⟨g11, 0, none⟩) (M5.length + 1) c11)) 134 1 (.slice (some ⟨g11, 0, none⟩) (M5.length + 1) c11) (M5.length + 1) (M5.map ptrV ++ [.pointer none]) := hR11.farCell (p := ⟨p, 2, none⟩) (fun e => by cases e; exact hpg rfl) _
      have q2 : (w11.setCell ⟨p, 2, none⟩ (.slice (some ⟨g11, 0, none⟩) (M5.length + 1) c11)).cell? ⟨p, 2, none⟩ = some (.slice (some ⟨g11, 0, none⟩) (M5.length + 1) c11) := (top11.set 2 _).cellAt (i := 2) rfl
      have fzc : (w11.setCell ⟨p, 2, none⟩ (.slice (some ⟨g11, 0, none⟩) (M5.length + 1) c11)).frozen? ⟨g11, M5.length, none⟩ = false ∧ (w11.setCell ⟨p, 2, none⟩ (.slice (some ⟨g11, 0, none⟩) (M5.length + 1) c11)).cell? ⟨g11, M5.length, none⟩ = some (.pointer none) := by
        obtain ⟨g', c', e', hc'⟩ := row_get1 row12 (i := M5.length) (u := .pointer none) (by rw [List.getElem?_append_right (by simp)]; simp)
        cases e'
        refine ⟨?_, hc'⟩
        rcases row12.cases with ⟨h1, _⟩ | ⟨g', cap', rest, h1, hb, _⟩
        · cases h1
        · cases h1; exact hb.frozen _
      obtain ⟨fz1, fz2⟩ := fzc
      have eA : Chg [p] w5 (W9.alloc (.cells #[.pointer none] 134)) := H9.out.2.1.alloc _
      have e11 : Chg (p :: (Value.slice ac M5.length cc).ownBlock.toList) w5 (w11.setCell ⟨p, 2, none⟩ (.slice (some ⟨g11, 0, none⟩) (M5.length + 1) c11)) := ((eA.mono (by simp)).then hC11 (fun x hx => .inl (by simp only [List.mem_cons]; exact .inr hx))).setCell (p := ⟨p, 2, none⟩) (.inl (by simp)) _
      have hcvn : ∀ g, (Value.slice (some ⟨g11, 0, none⟩) (M5.length + 1) c11).ownBlock = some g → (Value.slice ac M5.length cc).ownBlock = some g ∨ w5.heap.size ≤ g := fun g hg => by
        rcases hO11 with e | e
        · rw [e] at hg; exact .inl hg
        · rw [e] at hg
          cases hg
          right
          exact eA.size
      have hx12 := (ty11 (by decide) H9.out.2.2.1).far (p := ⟨p, 2, none⟩) (show xb ≠ p from hpx') (.slice (some ⟨g11, 0, none⟩) (M5.length + 1) c11)
      have hrw12 : Row (w11.setCell ⟨p, 2, none⟩ (.slice (some ⟨g11, 0, none⟩) (M5.length + 1) c11)) 22 1 (.slice a7 words.length c7) words.length (u64V words) := ((H9.out.2.2.2.1.alloc _).chg hC11 (fun g hg hm => by
          obtain ⟨ds, hd⟩ := H9.out.2.2.2.1.typed hg
          obtain ⟨es, he⟩ := row9.typed (Option.mem_toList.1 hm)
          exact absurd (hd.inj he).1 (by decide))).farCell (p := ⟨p, 2, none⟩) (fun e => by
          obtain ⟨ds, hd⟩ := H9.out.2.2.2.1.typed e
          exact absurd (hd.inj top9).1 (by decide)) _
      have raw12 : Holds (w11.setCell ⟨p, 2, none⟩ (.slice (some ⟨g11, 0, none⟩) (M5.length + 1) c11)) rp F (bufs M5) most := by
        have a1 : Holds (W9.alloc (.cells #[.pointer none] 134)) rp F (bufs M5) most := H9.out.2.2.2.2.2.chg ((Chg.refl [] W9).alloc _) (by simp)
        have a2 : Holds w11 rp F (bufs M5) most := a1.chg hC11 (fun k hk hm => hgF0 k (Option.mem_toList.1 hm) hk)
        exact a2.chg ((Chg.refl [p] w11).setCell (p := ⟨p, 2, none⟩) (.inl (by simp)) _) (fun k hk hm => by simp at hm; exact H5.out.apart k hk (by rw [hm]; simp))
      have top12 := top11.set 2 (.slice (some ⟨g11, 0, none⟩) (M5.length + 1) c11)
      have H12 := Mem.Aside.mk (And.intro top12 (And.intro row12 (And.intro hx12 (And.intro hrw12 (And.intro raw12 (And.intro e11 hcvn))))))
      have HG := Mem.Aside.mk (And.intro hpg hgF0)
      have hwi : IntKind.u64.wrap (M5.length : Int) = (M5.length : Int) := by rw [IntKind.wrap_u64]; omega
      have hlt1 : (M5.length : Int) < (M5.length : Int) + 1 := by omega
      have CF := Mem.Aside.mk (fromHandle_calls M5.length (by omega))
      clear top9 row9 hr11 hR11 hC11 hO11 hgF0 ty11 top11 ne11 row12 eA e11 hcvn hx12 hrw12 raw12 top12
      go_wp2_with (first
        | (at_builtin; refine wpList_builtin2 _ (by rfl) .append _ _ _ (by rfl) _ _ (by rfl) (by rfl) _ _ (HRUN.out _) ?_)
        | (go_at_call 87; (with_reducible refine (CF.out _).mono ?_); rintro e w' ⟨rfl, rfl⟩))
      go_ret2
      have hP : Placed M5 M5.length (⟨⟨kind, false, int, text, [], words, base, from_, len, 0, need⟩, xb, .slice a7 words.length c7⟩ : MC) (M5 ++ [some (⟨⟨kind, false, int, text, [], words, base, from_, len, 0, need⟩, xb, .slice a7 words.length c7⟩ : MC)]) := .push rfl HI.out.1
      have hu' := hP.used
      simp only at hu'
      have hU' : usedOf M5 = U5 := HU5.out.symm
      have hown7 : ∀ g, (Value.slice a7 words.length c7).ownBlock = some g → w5.heap.size ≤ g := fun g hg => Nat.le_trans E1.out.size (HO7.out g hg)
      have hAP := H5.out.apart
      have tyc : ∀ {j : Nat} {t : TypeId} {cs : List Value}, t ≠ 134 → Blk (w11.setCell ⟨p, 2, none⟩ (.slice (some ⟨g11, 0, none⟩) (M5.length + 1) c11)) j t cs → j ≠ g11 := fun ht hb e => by
        obtain ⟨ds, hd⟩ := H12.out.2.1.typed (g := g11) rfl
        rw [e] at hb
        exact ht (hb.inj hd).1
      have hg11F : g11 ∉ F := fun hF => by
        rcases H12.out.2.2.2.2.2.2 g11 rfl with e | e
        · exact HG.out.2 g11 e hF
        · have := H5.out.raw.lt g11 hF; omega
      have e13 : Chg (p :: (Value.slice ac M5.length cc).ownBlock.toList) w5 ((w11.setCell ⟨p, 2, none⟩ (.slice (some ⟨g11, 0, none⟩) (M5.length + 1) c11)).setCell ⟨g11, M5.length, none⟩ (.pointer (some ⟨xb, 0, none⟩))) := H12.out.2.2.2.2.2.1.setCell (p := ⟨g11, M5.length, none⟩) (by
        rcases H12.out.2.2.2.2.2.2 g11 rfl with e | e
        · exact .inl (by simp [e])
        · exact .inr e) _
      have htop : Blk ((w11.setCell ⟨p, 2, none⟩ (.slice (some ⟨g11, 0, none⟩) (M5.length + 1) c11)).setCell ⟨g11, M5.length, none⟩ (.pointer (some ⟨xb, 0, none⟩))) p 130 [.int .i64 (units : Int), .int .i64 ((usedOf (M5 ++ [some (⟨⟨kind, false, int, text, [], words, base, from_, len, 0, need⟩, xb, .slice a7 words.length c7⟩ : MC)]) : Nat) : Int), .slice (some ⟨g11, 0, none⟩) (M5.length + 1) c11, .pointer (some ⟨rp, 0, none⟩)] := by
        have := H12.out.1.far (p := ⟨g11, M5.length, none⟩) HG.out.1 (.pointer (some ⟨xb, 0, none⟩))
        rw [hu', hU', show ((U5 + need : Nat) : Int) = (U5 : Int) + (need : Int) by omega]
        exact this
      have row13 : Row ((w11.setCell ⟨p, 2, none⟩ (.slice (some ⟨g11, 0, none⟩) (M5.length + 1) c11)).setCell ⟨g11, M5.length, none⟩ (.pointer (some ⟨xb, 0, none⟩))) 134 1 (.slice (some ⟨g11, 0, none⟩) (M5.length + 1) c11) (M5 ++ [some (⟨⟨kind, false, int, text, [], words, base, from_, len, 0, need⟩, xb, .slice a7 words.length c7⟩ : MC)]).length ((M5 ++ [some (⟨⟨kind, false, int, text, [], words, base, from_, len, 0, need⟩, xb, .slice a7 words.length c7⟩ : MC)]).map ptrV) := by
        have := row_set1 H12.out.2.1 (i := M5.length) (by omega) (.pointer (some ⟨xb, 0, none⟩))
        rw [List.length_append, List.length_cons, List.length_nil, List.map_append]
        have e : (M5.map ptrV ++ [Value.pointer none]).set M5.length (Value.pointer (some ⟨xb, 0, none⟩)) = M5.map ptrV ++ [some (⟨⟨kind, false, int, text, [], words, base, from_, len, 0, need⟩, xb, .slice a7 words.length c7⟩ : MC)].map ptrV := by
          rw [List.set_append_right _ _ (by simp)]
          simp [ptrV]
        rw [e] at this
        exact this
      have hheap := H5.out.placed hP e13 (fun k hk => by
          simp only [List.mem_cons, Option.mem_toList] at hk
          rcases hk with e | e
          · exact .inl e
          · exact .inr (.inl e)) htop row13 (by
          have hb3 := hP.blks.2.2
          have hnb : ¬ Cel.buf (⟨kind, false, int, text, [], words, base, from_, len, 0, need⟩ : Cel) = true := by unfold Cel.buf; rw [HKW.out]; simp
          rw [if_neg hnb] at hb3
          exact (H12.out.2.2.2.2.1.chg ((Chg.refl [g11] (w11.setCell ⟨p, 2, none⟩ (.slice (some ⟨g11, 0, none⟩) (M5.length + 1) c11))).setCell (p := ⟨g11, M5.length, none⟩) (.inl (by simp)) _) (fun k hk hm => by simp at hm; exact hg11F (hm ▸ hk))).perm hb3.symm)
        (H12.out.2.2.1.far (p := ⟨g11, M5.length, none⟩) (tyc (by decide) H12.out.2.2.1) _) (H12.out.2.2.2.1.farCell (p := ⟨g11, M5.length, none⟩) (fun e => by
          obtain ⟨ds, hd⟩ := H12.out.2.2.2.1.typed e
          exact tyc (by decide) hd rfl) _) (by show w5.heap.size ≤ xb; rw [HXB.out.1]; exact Nat.le_refl _) hown7 (fun k hk => .inl hk) (fun k hk => ⟨fun e => hAP k hk (by rw [e]; simp), fun e => by have h1 := H5.out.raw.lt k hk; have h2 := HXB.out.1; simp only at e; omega, fun e => by have h1 := H5.out.raw.lt k hk; have h2 := hown7 k e; omega, fun e => by cases e; exact hg11F hk⟩)
        (by rw [hu', hU']; exact hfit) (by have := HI.out.2; rw [List.length_append, List.length_cons, List.length_nil]; omega) hM5.2.2.2
      refine .inl ⟨M5, HL5.out, M5.length, (⟨⟨kind, false, int, text, [], words, base, from_, len, 0, need⟩, xb, .slice a7 words.length c7⟩ : MC), _, _, rfl, hP, rfl, hheap, HC5.out.then e13 (fun x hx => .inl ?_), fun k hk => ?_⟩
      · simp only [List.mem_cons, Option.mem_toList] at hx
        rcases hx with e | e
        · exact mem_hfoot.2 (.inl e)
        · exact mem_hfoot.2 (.inr (.inl e))
      · rcases placed_foot (B := w.heap.size) hP (cv := .slice ac M5.length cc) (fun g hg => (H12.out.2.2.2.2.2.2 g hg).imp (fun h => h) (fun h => Nat.le_trans HC5.out.size h)) hxlow (fun g hg => by have := hown7 g hg; have := HC5.out.size; omega) k hk with e | e
        · exact .inl (HSUB.out k e)
        · exact .inr e
end
end Go.Proofs.Ytgimcpnelogadaa.Hp
/- Chapter 6: New; Get of what has no bytes. -/
namespace Go.Proofs.Ytgimcpnelogadaa.Hp
open Go.RowKit Go.Proofs.Ytgimcpnelogadaa.Mem Go.Proofs.Ytgimcpnelogadaa.Sto Go.Proofs.Ytgimcpnelogadaa.Wd
set_option linter.unusedVariables false
set_option linter.unusedSimpArgs false
attribute [local go_sem] Option.isNone_some Option.isNone_none

theorem hnew_calls (n : Nat) (hn : n ≤ 1048576) (w : World) : Calls Try.prog 38 #[.int .i64 (n : Int)] w fun e w' => ∃ p rp F, e = .returned (.tuple #[.pointer (some ⟨p, 0, none⟩), .int .i64 0]) ∧ HeapAt w' p n 0 [] (.slice none 0 0) rp F 0 ∧ Chg [] w w' ∧ ∀ k ∈ hfoot p (.slice none 0 0) [] F, w.heap.size ≤ k := by
  have CN := Mem.Aside.mk (new_holds w)
  have h0 : ¬ (n : Int) < 0 := by omega
  have h1 : ¬ (1048576 : Int) < (n : Int) := by omega
  go_enter Try.func38, Try.ntmps38
  go_wp2_with (go_at_call 21; (with_reducible refine CN.out.mono ?_); rintro e w1 ⟨rp, F, rfl, hh1, hc1, hF⟩; have HH := Mem.Aside.mk (And.intro hh1 (And.intro hc1 hF)); clear hh1 hc1 hF)
  go_ret2
  obtain ⟨hh1, hc1, hF⟩ := HH.out
  refine ⟨w1.heap.size, rp, F, rfl, ⟨Blk.newL [_, _, _, _] rfl, Row.nil _ _ _, by simp, by simp, hh1.chg ((Chg.refl [] w1).alloc _) (by simp), by simp [blks], by simp [owns], fun k hk hm => ?_, ⟨hn, Nat.zero_le _, Nat.zero_le _, by omega⟩⟩, hc1.alloc _, fun k hk => ?_⟩
  · have := hh1.lt k hk
    simp [blks, owns, Value.ownBlock] at hm
    omega
  · rcases mem_hfoot.1 hk with e | e | ⟨m, hm, _⟩ | ⟨m, hm, _⟩ | e
    · rw [e]; exact hc1.size
    · cases e
    · cases hm
    · cases hm
    · exact hF k e
def isRowD (d : TypeDesc) : Bool := match d with | .struct _ | .array _ _ => true | _ => false
theorem results_row_tmp {P : Program} {fn : Func} {w : World} {q u : Tmp} {ty : TypeId} (h : fn.results = #[.cell q ty, .tmp u]) {tmps : Array Value} {b : Nat} (hp : tmps.getD q undef = .pointer (some ⟨b, 0, none⟩)) {cs : List Value} (hb : Blk w b ty cs) {d : TypeDesc}
    (hu : P.underlying ty = some d) (hd : isRowD d = true) (hi : (P.info? ty).map (·.size) = some cs.toArray.size) : (results fn tmps).run P w = .ok (.tuple #[.agg cs.toArray, tmps.getD u undef]) w := by
  have hl := run_loadVar_row (P := P) w b ty ty cs.toArray (0, 0) d hb hu (by unfold isRowD at hd; cases d <;> first | rfl | cases hd) hi
  rw [results_cell_tmp h, hp]
  simp [asAddr, hl]
section
variable {w w' : World} {p units used rp most : Nat} {M : List (Option MC)} {cv : Value} {F : List Nat}
theorem underCell : ∃ d, Try.prog.underlying 60 = some d ∧ isRowD d = true := by
  refine ⟨_, Try.underlying60, rfl⟩
set_option maxHeartbeats 8000000 in
set_option maxRecDepth 100000 in
theorem get_plain (h : HeapAt w p units used M cv rp F most) {x : Nat} (hx : x < 18446744073709551616) {m : MC} (hm : atM M x = some m) (hv : m.c.view = false) (hk : widthN m.c.kind = 0) (hl : m.c.words.length ≤ 1000000000) :
    Calls Try.prog 41 #[.pointer (some ⟨p, 0, none⟩), .int .u64 (x : Int)] w fun e w' => ∃ wv, e = .returned (.tuple #[argV m.c (.slice none 0 0) wv, .int .i64 0]) ∧ Row w' 22 1 wv m.c.words.length (u64V m.c.words) ∧ Chg [] w w' ∧ ∀ g, wv.ownBlock = some g → w.heap.size ≤ g := by
  have hM := atM_mem hm
  have CF := Mem.Aside.mk (find_calls (h.chg ((Chg.refl [] w).alloc (.cells #[.int .i64 0, .bool false, .int .i64 0, .string noText, .slice none 0 0, .slice none 0 0, .int .u64 0, .int .i64 0, .int .i64 0] 60)) (by simp)) x hx)
  rw [hm] at CF
  have hc := (h.cells m hM).alloc (.cells #[.int .i64 0, .bool false, .int .i64 0, .string noText, .slice none 0 0, .slice none 0 0, .int .u64 0, .int .i64 0, .int .i64 0] 60)
  have hw := (h.words m hM).alloc (.cells #[.int .i64 0, .bool false, .int .i64 0, .string noText, .slice none 0 0, .slice none 0 0, .int .u64 0, .int .i64 0, .int .i64 0] 60)
  have hr : Blk (w.alloc (.cells #[.int .i64 0, .bool false, .int .i64 0, .string noText, .slice none 0 0, .slice none 0 0, .int .u64 0, .int .i64 0, .int .i64 0] 60)) w.heap.size 60 [.int .i64 0, .bool false, .int .i64 0, .string noText, .slice none 0 0, .slice none 0 0, .int .u64 0, .int .i64 0, .int .i64 0] := Blk.newL [_, _, _, _, _, _, _, _, _] rfl
  have e1 : Chg [] w (w.alloc (.cells #[.int .i64 0, .bool false, .int .i64 0, .string noText, .slice none 0 0, .slice none 0 0, .int .u64 0, .int .i64 0, .int .i64 0] 60)) := (Chg.refl [] w).alloc _
  have CW := Mem.Aside.mk (width_calls m.c.kind)
  rw [hk, show ((0 : Nat) : Int) = 0 from rfl] at CW
  obtain ⟨c, blk, wv⟩ := m
  obtain ⟨kind, view, int, text, bytes, words, base, from_, len, ext, need⟩ := c
  simp only at hv hk hl CW CF hc hw
  subst hv
  obtain ⟨aw, cw, rfl⟩ := Row_form hw
  clear h hm hM
  go_enter Try.func41, Try.ntmps41
  go_upto_region 2 with (go_at_call 88; (with_reducible refine CF.out.mono ?_); rintro e w1 ⟨rfl, rfl⟩)
  obtain ⟨b, hb⟩ : ∃ b, b = w.heap.size := ⟨_, rfl⟩
  have hb1 : b < (w.alloc (.cells #[.int .i64 0, .bool false, .int .i64 0, .string noText, .slice none 0 0, .slice none 0 0, .int .u64 0, .int .i64 0, .int .i64 0] 60)).heap.size := by rw [hb]; simp
  rw [← hb] at hr
  simp only [← hb]
  generalize (w.alloc (.cells #[.int .i64 0, .bool false, .int .i64 0, .string noText, .slice none 0 0, .slice none 0 0, .int .u64 0, .int .i64 0, .int .i64 0] 60)) = W1 at hr hc hw e1 hb1 CF ⊢
  have HB := Mem.Aside.mk hb
  have HE := Mem.Aside.mk e1
  have HR := Mem.Aside.mk hr
  have CL := Mem.Aside.mk (fun (W2 : World) (hc2 : Chg [] W1 W2) => clone64 (hw.chg hc2 (by simp)) hl)
  have HC := Mem.Aside.mk hc
  have HB1 := Mem.Aside.mk hb1
  have k0 := hc.cellAt (i := 0) rfl
  have k1 := hc.cellAt (i := 1) rfl
  have k2 := hc.cellAt (i := 2) rfl
  have k3 := hc.cellAt (i := 3) rfl
  have k4 := hc.cellAt (i := 4) rfl
  have k5 := hc.cellAt (i := 5) rfl
  have k6 := hc.cellAt (i := 6) rfl
  have k7 := hc.cellAt (i := 7) rfl
  have k8 := hc.cellAt (i := 8) rfl
  have k5a := (hc.alloc (.cells #[.int .i64 kind, .bool false, .int .i64 int, .string text, .slice none 0 0, .slice aw words.length cw, .int .u64 (base : Int), .int .i64 from_, .int .i64 len] 60)).cellAt (i := 5) rfl
  clear hb hb1 hr e1 hw hc
  go_upto_region 5 with fail
  go_upto_region 6 with (go_at_call 84; (with_reducible refine (CL.out _ ((Chg.refl [] W1).alloc _)).mono ?_); rintro e w2 ⟨v2, rfl, hR2, hc2, ho2⟩; obtain ⟨a2, c2, rfl⟩ := Row_form hR2; have HR2 := Mem.Aside.mk hR2; have HC2 := Mem.Aside.mk hc2; have HO2 := Mem.Aside.mk ho2; clear hR2 hc2 ho2; have hN : Blk w2 W1.heap.size 60 [.int .i64 kind, .bool false, .int .i64 int, .string text, .slice none 0 0, .slice aw words.length cw, .int .u64 (base : Int), .int .i64 from_, .int .i64 len] := (Blk.newL [_, _, _, _, _, _, _, _, _] rfl).chg HC2.out (by simp); have f5 := hN.cellAt (i := 5) rfl; have fz5 := hN.frozen 5; have HN := Mem.Aside.mk hN; clear hN)
  obtain ⟨y, hy⟩ : ∃ y, y = W1.heap.size := ⟨_, rfl⟩
  have hby : b ≠ y := by have := HB1.out; omega
  have hyb : y ≠ b := fun e => hby e.symm
  have hly : blk ≠ y := by have := HC.out.lt; omega
  have hN := HN.out
  rw [← hy] at hN
  simp only [← hy]
  have n3 : Blk (w2.setCell ⟨y, 5, none⟩ (.slice a2 words.length c2)) y 60 [.int .i64 kind, .bool false, .int .i64 int, .string text, .slice none 0 0, .slice a2 words.length c2, .int .u64 (base : Int), .int .i64 from_, .int .i64 len] := hN.set 5 _
  have b3 : Blk (w2.setCell ⟨y, 5, none⟩ (.slice a2 words.length c2)) b 60 [.int .i64 0, .bool false, .int .i64 0, .string noText, .slice none 0 0, .slice none 0 0, .int .u64 0, .int .i64 0, .int .i64 0] := ((HR.out.alloc _).chg HC2.out (by simp)).far (p := ⟨y, 5, none⟩) hby _
  have l3 : Blk (w2.setCell ⟨y, 5, none⟩ (.slice a2 words.length c2)) blk 136 (celV ⟨kind, false, int, text, bytes, words, base, from_, len, ext, need⟩ (.slice aw words.length cw)) := ((HC.out.alloc _).chg HC2.out (by simp)).far (p := ⟨y, 5, none⟩) hly _
  have r3 : Row (w2.setCell ⟨y, 5, none⟩ (.slice a2 words.length c2)) 22 1 (.slice a2 words.length c2) words.length (u64V words) := HR2.out.farCell (p := ⟨y, 5, none⟩) (fun e => by
    obtain ⟨ds, hd⟩ := HR2.out.typed e
    exact absurd (hd.inj hN).1 (by decide)) _
  have e3 : Chg [] w (w2.setCell ⟨y, 5, none⟩ (.slice a2 words.length c2)) := (((HE.out.alloc _).then HC2.out (by simp)).setCell (p := ⟨y, 5, none⟩) (.inr (by have := HE.out.size; show w.heap.size ≤ y; omega)) _)
  generalize w2.setCell ⟨y, 5, none⟩ (.slice a2 words.length c2) = W3 at n3 b3 l3 r3 e3 ⊢
  clear hy hN f5 fz5 k0 k1 k2 k3 k4 k5 k6 k7 k8 k5a
  have k0 := l3.cellAt (i := 0) rfl
  have k1 := l3.cellAt (i := 1) rfl
  have n0 := n3.cellAt (i := 0) rfl
  have n1 := n3.cellAt (i := 1) rfl
  have n2 := n3.cellAt (i := 2) rfl
  have n3' := n3.cellAt (i := 3) rfl
  have n4 := n3.cellAt (i := 4) rfl
  have n5 := n3.cellAt (i := 5) rfl
  have n6 := n3.cellAt (i := 6) rfl
  have n7 := n3.cellAt (i := 7) rfl
  have n8 := n3.cellAt (i := 8) rfl
  have q0 := b3.cellAt (i := 0) rfl
  have q1 := b3.cellAt (i := 1) rfl
  have q2 := b3.cellAt (i := 2) rfl
  have q3 := b3.cellAt (i := 3) rfl
  have q4 := b3.cellAt (i := 4) rfl
  have q5 := b3.cellAt (i := 5) rfl
  have q6 := b3.cellAt (i := 6) rfl
  have q7 := b3.cellAt (i := 7) rfl
  have q8 := b3.cellAt (i := 8) rfl
  have z0 := b3.frozen 0
  have z1 := b3.frozen 1
  have z2 := b3.frozen 2
  have z3 := b3.frozen 3
  have z4 := b3.frozen 4
  have z5 := b3.frozen 5
  have z6 := b3.frozen 6
  have z7 := b3.frozen 7
  have z8 := b3.frozen 8
  have HF := Mem.Aside.mk (And.intro b3 (And.intro r3 e3))
  clear n3 b3 l3 r3 e3
  go_wp2_with (go_at_call 80; (with_reducible refine (CW.out _).mono ?_); rintro e w' ⟨rfl, rfl⟩)
  obtain ⟨d, hd1, hd2⟩ := underCell
  have hbF := ((((((((HF.out.1.set 0 (.int .i64 kind)).set 1 (.bool false)).set 2 (.int .i64 int)).set 3 (.string text)).set 4 (.slice none 0 0)).set 5 (.slice a2 words.length c2)).set 6 (.int .u64 (base : Int))).set 7 (.int .i64 from_)).set 8 (.int .i64 len)
  have hwb : w.heap.size ≤ b := by rw [HB.out]; exact Nat.le_refl _
  have hnb : ∀ i, (Value.slice a2 words.length c2).ownBlock ≠ some (⟨b, i, none⟩ : Addr).block := fun i e => by
    obtain ⟨ds, hd⟩ := HF.out.2.1.typed e
    exact absurd (hd.inj HF.out.1).1 (by decide)
  have hrF := ((((((((HF.out.2.1.farCell (hnb 0) (.int .i64 kind)).farCell (hnb 1) (.bool false)).farCell (hnb 2) (.int .i64 int)).farCell (hnb 3) (.string text)).farCell (hnb 4) (.slice none 0 0)).farCell (hnb 5) (.slice a2 words.length c2)).farCell (hnb 6) (.int .u64 (base : Int))).farCell (hnb 7) (.int .i64 from_)).farCell (hnb 8) (.int .i64 len)
  have hcF := ((((((((HF.out.2.2.setCell (p := ⟨b, 0, none⟩) (.inr hwb) (.int .i64 kind)).setCell (p := ⟨b, 1, none⟩) (.inr hwb) (.bool false)).setCell (p := ⟨b, 2, none⟩) (.inr hwb) (.int .i64 int)).setCell (p := ⟨b, 3, none⟩) (.inr hwb) (.string text)).setCell (p := ⟨b, 4, none⟩) (.inr hwb) (.slice none 0 0)).setCell (p := ⟨b, 5, none⟩) (.inr hwb) (.slice a2 words.length c2)).setCell (p := ⟨b, 6, none⟩) (.inr hwb) (.int .u64 (base : Int))).setCell (p := ⟨b, 7, none⟩) (.inr hwb) (.int .i64 from_)).setCell (p := ⟨b, 8, none⟩) (.inr hwb) (.int .i64 len)
  refine bodyPost_ret (results_row_tmp rfl rfl hbF hd1 hd2 (by kernel_rfl)) rfl ⟨.slice a2 words.length c2, rfl, hrF, hcF, fun g hg => ?_⟩
  have h1 := HO2.out g hg
  have h2 := HE.out.size
  have h3 : W1.heap.size ≤ (W1.alloc (.cells #[.int .i64 kind, .bool false, .int .i64 int, .string text, .slice none 0 0, .slice aw words.length cw, .int .u64 (base : Int), .int .i64 from_, .int .i64 len] 60)).heap.size := ((Chg.refl [] W1).alloc _).size
  omega
end
end Go.Proofs.Ytgimcpnelogadaa.Hp
/- Chapter 6: a heap as a law has it: Put, Reach, Get over it. -/
namespace Go.Proofs.Ytgimcpnelogadaa.Hp
open Go.RowKit Go.Proofs.Ytgimcpnelogadaa.Mem Go.Proofs.Ytgimcpnelogadaa.Sto Go.Proofs.Ytgimcpnelogadaa.Wd
set_option linter.unusedVariables false
set_option linter.unusedSimpArgs false

/-- Of a cell what every one keeps. -/
structure GoodC (c : Cel) : Prop where
  len : c.words.length ≤ 1048576
  words : ∀ x ∈ c.words, x < 18446744073709551616
  base : c.base < 18446744073709551616
  ext : c.ext ≤ 1000000000
  need : 1 ≤ c.need
/-- A heap of the cells M that a law (begun at w) has made. -/
structure LawH (w : World) (p units : Nat) (M : List (Option MC)) (W : World) : Prop where
  ex : ∃ cv rp F most, HeapAt W p units (usedOf M) M cv rp F most ∧ ∀ k ∈ hfoot p cv M F, w.heap.size ≤ k
  chg : Chg [] w W
  good : ∀ m, some m ∈ M → GoodC m.c
section
variable {w W W' : World} {p units : Nat} {M : List (Option MC)}
theorem LawH.same (h : LawH w p units M W) (hc : Chg [] W W') : LawH w p units M W' := by
  obtain ⟨cv, rp, F, most, h1, h2⟩ := h.ex
  exact ⟨⟨cv, rp, F, most, h1.chg hc (by simp), h2⟩, h.chg.then hc (by simp), h.good⟩
theorem HeapAt.wordsOk {cv : Value} {rp most : Nat} {F : List Nat} (h : HeapAt W p units (usedOf M) M cv rp F most) (hg : ∀ m, some m ∈ M → GoodC m.c) : WordsOk M :=
  ⟨fun m hm => ⟨(hg m hm).len, (hg m hm).words, (hg m hm).base⟩, fun B => by have := units_le M B; have := h.small; omega⟩
theorem new_law (n : Nat) (hn : n ≤ 1048576) (w : World) : Calls Try.prog 38 #[.int .i64 (n : Int)] w fun e w' => ∃ p, e = .returned (.tuple #[.pointer (some ⟨p, 0, none⟩), .int .i64 0]) ∧ LawH w p n [] w' := by
  refine (hnew_calls n hn w).mono ?_
  rintro e w' ⟨p, rp, F, rfl, h1, h2, h3⟩
  exact ⟨p, rfl, ⟨⟨_, rp, F, 0, h1, h3⟩, h2, by simp⟩⟩
theorem put_law (h : LawH w p units M W) {W1 : World} (hc : Chg [] W W1) (c : Cel) (hg : GoodC c) (hv : c.view = false) (hk : widthN c.kind = 0) (htx : c.text.size ≤ 1000000000) {wv : Value} (hwr : Row W1 22 1 wv c.words.length (u64V c.words))
    (hws : ∀ g, wv.ownBlock = some g → W.heap.size ≤ g) (hbs : c.bytes = []) (hex : c.ext = 0) (hneed : c.need = needN false c.kind c.text.size 0 c.words.length)
    {rv : Value} {rs : List Nat} (hr : Row W1 22 1 rv rs.length (u64V rs)) (hrl : rs.length ≤ 1000000000) (hrx : ∀ x ∈ rs, x < 18446744073709551616)
    (hR : ∀ W2 cv rp F most, HeapAt W2 p units (usedOf M) M cv rp F most → Chg [] W1 W2 → Calls Try.prog 81 #[.pointer (some ⟨p, 0, none⟩), argV c (.slice none 0 0) wv] W2 fun e w' => e = .returned (.bool true) ∧ Chg [] W2 w') :
    Calls Try.prog 39 #[.pointer (some ⟨p, 0, none⟩), argV c (.slice none 0 0) wv, rv] W1 fun e w' =>
      (∃ M5, ((usedOf M + c.need ≤ units ∧ M5 = M) ∨ (units < usedOf M + c.need ∧ ∃ B, Marks M (rs ++ (c.words ++ [c.base])) B ∧ M5 = swK B M.length M ∧ unitsOf (celsOf M) B + c.need ≤ units)) ∧
        ∃ n m M', m.c = c ∧ Placed M5 n m M' ∧ e = .returned (.tuple #[.int .u64 (hw n : Nat), .int .i64 0]) ∧ LawH w p units M' w') ∨
      (units < usedOf M + c.need ∧ ∃ B, Marks M (rs ++ (c.words ++ [c.base])) B ∧ units < unitsOf (celsOf M) B + c.need ∧ e = .returned (.tuple #[.int .u64 0, .int .i64 40]) ∧ LawH w p units (swK B M.length M) w') := by
  obtain ⟨cv, rp, F, most, h1, h2⟩ := h.ex
  have hcw := h.chg.then hc (by simp)
  have h1' := h1.chg hc (by simp)
  have hnd : c.need ≤ 2000000000 := by
    have := hg.len
    rw [hneed]
    unfold needN
    repeat (first | omega | split)
  refine (put_plain h1' (h1.wordsOk h.good) (fun m hm => ⟨(h.good m hm).ext, (h.good m hm).need⟩) c hv hk htx hwr hg.len hg.words (fun g hgo hm => by have := h1.lt g hm; have := hws g hgo; omega) hg.base hbs hex hneed hnd hr hrl hrx (fun W2 hc2 => hR W2 cv rp F most (h1'.chg hc2 (by simp)) hc2)).mono ?_
  rintro e w' (⟨M5, hM5, n, m, M', cv', hm, hP, he, hh, hch, hf⟩ | ⟨hlt, B, hB, hu, he, hh, hch⟩)
  · refine .inl ⟨M5, hM5, n, m, M', hm, hP, he, ⟨cv', rp, F, most, hh, fun k hk => ?_⟩, hcw.then hch (fun x hx => .inr (h2 x hx)), fun x hx => ?_⟩
    · rcases hf k hk with e | e
      · exact h2 k e
      · have := hcw.size; omega
    · rcases hP.mem.1 hx with rfl | hx
      · rw [hm]; exact hg
      · refine h.good x ?_
        rcases hM5 with ⟨_, e⟩ | ⟨_, B, _, e, _⟩
        · rw [← e]; exact hx
        · rw [e] at hx; exact sw_mem hx
  · exact .inr ⟨hlt, B, hB, hu, he, ⟨cv, rp, F, most, hh, fun k hk => h2 k (hfoot_sub (fun x hx => sw_mem hx) k hk)⟩, hcw.then hch (fun x hx => .inr (h2 x hx)), fun x hx => h.good x (sw_mem hx)⟩
theorem reach_law (h : LawH w p units M W) {W1 : World} (hc : Chg [] W W1) {rv : Value} {rs : List Nat} (hr : Row W1 22 1 rv rs.length (u64V rs)) (hl : rs.length ≤ 1000000000) (hx : ∀ x ∈ rs, x < 18446744073709551616) :
    Calls Try.prog 40 #[.pointer (some ⟨p, 0, none⟩), rv] W1 fun e w' => ∃ B : List Bool, e = .returned (.int .i64 (unitsOf (celsOf M) B : Nat)) ∧ Marks M rs B ∧ LawH w p units M w' ∧ Chg [] W1 w' := by
  obtain ⟨cv, rp, F, most, h1, h2⟩ := h.ex
  refine (reach_calls (h1.chg hc (by simp)) (h1.wordsOk h.good) hr hl hx).mono ?_
  rintro e w' ⟨B, he, hb1, hb2, hc2⟩
  exact ⟨B, he, ⟨hb1, hb2⟩, (h.same hc).same hc2, hc2⟩
theorem get_law (h : LawH w p units M W) {x : Nat} (hx : x < 18446744073709551616) {m : MC} (hm : atM M x = some m) (hv : m.c.view = false) (hk : widthN m.c.kind = 0) :
    Calls Try.prog 41 #[.pointer (some ⟨p, 0, none⟩), .int .u64 (x : Int)] W fun e w' => ∃ wv, e = .returned (.tuple #[argV m.c (.slice none 0 0) wv, .int .i64 0]) ∧ Row w' 22 1 wv m.c.words.length (u64V m.c.words) ∧ LawH w p units M w' ∧ Chg [] W w' ∧ ∀ g, wv.ownBlock = some g → W.heap.size ≤ g := by
  obtain ⟨cv, rp, F, most, h1, h2⟩ := h.ex
  have := (h.good m (atM_mem hm)).len
  refine (get_plain h1 hx hm hv hk (by omega)).mono ?_
  rintro e w' ⟨wv, he, hr, hc, hf⟩
  exact ⟨wv, he, hr, h.same hc, hc, hf⟩
end
end Go.Proofs.Ytgimcpnelogadaa.Hp
/- Chapter 6: awake. -/
namespace Go.Proofs.Ytgimcpnelogadaa.Hp
open Go.RowKit Go.Proofs.Ytgimcpnelogadaa.Mem Go.Proofs.Ytgimcpnelogadaa.Sto Go.Proofs.Ytgimcpnelogadaa.Wd
set_option linter.unusedVariables false
set_option linter.unusedSimpArgs false

def intC (i : Int) : Cel := ⟨2, false, i, noText, [], [], 0, 0, 0, 0, 2⟩
def rowC (l : List Nat) : Cel := ⟨9, false, 0, noText, [], l, 0, 0, 0, 0, 1 + l.length⟩
/-- What Put answers of a cell. -/
def PutPost (w : World) (p units : Nat) (M : List (Option MC)) (c : Cel) (rs : List Nat) (e : Ending) (w' : World) : Prop :=
  (∃ M5, ((usedOf M + c.need ≤ units ∧ M5 = M) ∨ (units < usedOf M + c.need ∧ ∃ B, Marks M (rs ++ (c.words ++ [c.base])) B ∧ M5 = swK B M.length M ∧ unitsOf (celsOf M) B + c.need ≤ units)) ∧
    ∃ n m M', m.c = c ∧ Placed M5 n m M' ∧ e = .returned (.tuple #[.int .u64 (hw n : Nat), .int .i64 0]) ∧ LawH w p units M' w') ∨
  (units < usedOf M + c.need ∧ ∃ B, Marks M (rs ++ (c.words ++ [c.base])) B ∧ units < unitsOf (celsOf M) B + c.need ∧ e = .returned (.tuple #[.int .u64 0, .int .i64 40]) ∧ LawH w p units (swK B M.length M) w')
section
variable {w W W' W1 : World} {p units : Nat} {M : List (Option MC)}
theorem put_int (h : LawH w p units M W) (hc : Chg [] W W1) (i : Int) {rv : Value} {rs : List Nat} (hr : Row W1 22 1 rv rs.length (u64V rs)) (hrl : rs.length ≤ 1000000000) (hrx : ∀ x ∈ rs, x < 18446744073709551616) :
    Calls Try.prog 39 #[.pointer (some ⟨p, 0, none⟩), .agg #[.int .i64 2, .bool false, .int .i64 i, .string noText, .slice none 0 0, .slice none 0 0, .int .u64 0, .int .i64 0, .int .i64 0], rv] W1 (PutPost w p units M (intC i) rs) :=
  put_law h hc (intC i) ⟨by simp [intC], by simp [intC], by simp [intC], by simp [intC], by simp [intC]⟩ rfl rfl (by show noText.size ≤ 1000000000; decide) (Row.nil _ _ _) (fun g hg => by cases hg) rfl rfl rfl hr hrl hrx (fun W2 cv rp F most h2 hc2 => right_int i h2)
theorem put_row (h : LawH w p units M W) (hc : Chg [] W W1) {wv : Value} {l : List Nat} (hwr : Row W1 22 1 wv l.length (u64V l)) (hws : ∀ g, wv.ownBlock = some g → W.heap.size ≤ g) (hl : l.length ≤ 1048576) (hx : ∀ x ∈ l, x < 18446744073709551616) (hs : l.all (soundB M) = true)
    {rv : Value} {rs : List Nat} (hr : Row W1 22 1 rv rs.length (u64V rs)) (hrl : rs.length ≤ 1000000000) (hrx : ∀ x ∈ rs, x < 18446744073709551616) :
    Calls Try.prog 39 #[.pointer (some ⟨p, 0, none⟩), .agg #[.int .i64 9, .bool false, .int .i64 0, .string noText, .slice none 0 0, wv, .int .u64 0, .int .i64 0, .int .i64 0], rv] W1 (PutPost w p units M (rowC l) rs) :=
  put_law h hc (rowC l) ⟨hl, hx, by simp [rowC], by simp [rowC], by simp [rowC]⟩ rfl rfl (by show noText.size ≤ 1000000000; decide) hwr hws rfl rfl rfl hr hrl hrx (fun W2 cv rp F most h2 hc2 => by
    have := right_row h2 (hwr.chg hc2 (by simp)) (by omega) hx
    rw [decide_eq_true hl, hs] at this
    exact this)
theorem LawH.at_hw (h : LawH w p units M W) {n : Nat} {m : MC} (hm : M[n]? = some (some m)) : atM M (hw n) = some m ∧ (celsOf M).at_ (hw n) = some n ∧ hw n < 18446744073709551616 := by
  obtain ⟨cv, rp, F, most, h1, _⟩ := h.ex
  have hn := (List.getElem?_eq_some_iff.1 hm).1
  have hs := h1.small
  have hh : hdl (hw n) = some n := hdl_hw (by omega)
  refine ⟨by unfold atM; rw [hh, Option.bind_some, hm]; rfl, atM_at.2 ⟨hh, m, hm⟩, by unfold hw; omega⟩
/-- A row that is made now of words. -/
theorem row_new (W : World) (l : List Nat) : Row (W.alloc (.cells (u64V l).toArray 22)) 22 1 (.slice (some ⟨W.heap.size, 0, none⟩) l.length l.length) l.length (u64V l) ∨ 9223372036854775807 < l.length := by
  by_cases c : l.length ≤ 9223372036854775807
  · left
    have hb : Blk (W.alloc (.cells (u64V l).toArray 22)) W.heap.size 22 (u64V l ++ []) := by rw [List.append_nil]; exact Blk.newL (u64V l) rfl
    exact Row.mk (rest := []) hb (by simp [u64V]) (Nat.le_refl _) c (by simp [u64V])
  · right; omega
theorem placed_nil {n : Nat} {m : MC} {M' : List (Option MC)} (h : Placed [] n m M') : n = 0 ∧ M' = [some m] := by
  cases h with
  | set h => simp at h
  | push h _ => exact ⟨h, rfl⟩
theorem placed_full {n : Nat} {m : MC} {M M' : List (Option MC)} (h : Placed M n m M') (hf : ∀ j : Nat, M[j]? ≠ some none) : n = M.length ∧ M' = M ++ [some m] := by
  cases h with
  | set h => exact absurd h (hf n)
  | push h _ => exact ⟨h, rfl⟩
theorem two_marks {m1 m2 : MC} {a : Nat} {R : List Nat} {B : List Bool} (h : LawH w p units [some m1, some m2] W) (h2 : m2.c.words = [hw 0, a]) (hR : hw 1 ∈ R) (hM : Marks [some m1, some m2] R B) : B = [true, true] := by
  have r1 : Rch (celsOf [some m1, some m2]) R 1 := .root hR (h.at_hw (n := 1) (m := m2) rfl).2.1
  have r0 : Rch (celsOf [some m1, some m2]) R 0 := .next r1 (by show hw 0 ∈ m2.c.refs; unfold Cel.refs; rw [h2]; simp) (h.at_hw (n := 0) (m := m1) rfl).2.1
  have b1 := (hM.2 1).2 r1
  have b0 := (hM.2 0).2 r0
  have hl := hM.1
  match B, hl with
  | [x, y], _ =>
    simp at b0 b1
    rw [b0, b1]
end
theorem sound_canon (M : List (Option MC)) : soundB M 9221120237041090560 = true := by unfold soundB; rw [show cls 9221120237041090560 = 1 by decide]; rfl
theorem sound_hw {M : List (Option MC)} {x : Nat} {m : MC} (hx : x < 18446744073709551616) (h : atM M x = some m) : soundB M x = true := by
  obtain ⟨n, hn, _⟩ := atM_some h
  unfold soundB
  rw [(cls_hdl hx).2 (by rw [hn]; rfl), h]
  rfl

set_option maxHeartbeats 8000000 in
set_option maxRecDepth 100000 in
theorem awake6_calls (w : World) : Calls Try.prog 37 #[] w fun e w' => e = .returned (.bool true) ∧ Chg [] w w' := by
  have CN := Mem.Aside.mk (new_law 6 (by decide) w)
  rw [show ((6 : Nat) : Int) = 6 from rfl] at CN
  go_enter Try.func37, Try.ntmps37
  go_upto_region 5 with (first
    | (go_at_call 38; (with_reducible refine CN.out.mono ?_); rintro e w1 ⟨p, rfl, h1⟩; have H1 := Mem.Aside.mk h1; have CP1 := Mem.Aside.mk (put_int h1 (Chg.refl _ _) 5 (rv := .slice none 0 0) (rs := []) (Row.nil _ _ _) (by simp) (by simp)); clear h1)
    | (go_at_call 39; (with_reducible refine CP1.out.mono ?_); intro e w2 hp; obtain ⟨m1, hm1, rfl, h2⟩ : ∃ m1 : MC, m1.c = intC 5 ∧ e = .returned (.tuple #[.int .u64 (hw 0 : Nat), .int .i64 0]) ∧ LawH w p 6 [some m1] w2 := (by
        rcases hp with ⟨M5, (⟨_, rfl⟩ | ⟨hlt, _⟩), n, m, M', hm, hP, he, hh⟩ | ⟨hlt, _⟩
        · obtain ⟨rfl, rfl⟩ := placed_nil hP
          exact ⟨m, hm, he, hh⟩
        · exact absurd hlt (by decide)
        · exact absurd hlt (by decide)); have H2 := Mem.Aside.mk h2; have HM1 := Mem.Aside.mk hm1; clear hp h2 hm1))
  have a1 := H2.out.at_hw (n := 0) (m := m1) rfl
  have hrA : Row ((w2.alloc (.cells #[.int .u64 (hw 0 : Nat), .int .u64 9221120237041090560] 22)).alloc (.cells #[.int .u64 (hw 0 : Nat)] 22)) 22 1 (.slice (some ⟨w2.heap.size, 0, none⟩) 2 2) [hw 0, 9221120237041090560].length (u64V [hw 0, 9221120237041090560]) :=
    (Row.mk (rest := []) (Blk.newL [.int .u64 (hw 0 : Nat), .int .u64 9221120237041090560] rfl) rfl (Nat.le_refl _) (by decide) rfl : Row (w2.alloc (.cells #[.int .u64 (hw 0 : Nat), .int .u64 9221120237041090560] 22)) 22 1 (.slice (some ⟨w2.heap.size, 0, none⟩) 2 2) 2 [.int .u64 (hw 0 : Nat), .int .u64 9221120237041090560]).alloc _
  have hrR : Row ((w2.alloc (.cells #[.int .u64 (hw 0 : Nat), .int .u64 9221120237041090560] 22)).alloc (.cells #[.int .u64 (hw 0 : Nat)] 22)) 22 1 (.slice (some ⟨w2.heap.size + 1, 0, none⟩) 1 1) [hw 0].length (u64V [hw 0]) :=
    Row.mk (rest := []) (Blk.newL [.int .u64 (hw 0 : Nat)] (by simp)) rfl (Nat.le_refl _) (by decide) rfl
  have CP2 := Mem.Aside.mk (put_row H2.out (((Chg.refl [] w2).alloc _).alloc _) hrA (fun g hg => by cases hg; exact Nat.le_refl _) (by simp) (by intro x hx; simp at hx; rcases hx with rfl | rfl; exact a1.2.2; decide) (by simp only [List.all_cons, List.all_nil, sound_canon, sound_hw a1.2.2 a1.1, Bool.and_self]) hrR (by simp) (by intro x hx; simp at hx; subst hx; exact a1.2.2))
  clear a1 hrA hrR
  go_upto_region 6 with (go_at_call 39; (with_reducible refine CP2.out.mono ?_); intro e w3 hp; obtain ⟨m2, hm2, rfl, h3⟩ : ∃ m2 : MC, m2.c = rowC [hw 0, 9221120237041090560] ∧ e = .returned (.tuple #[.int .u64 (hw 1 : Nat), .int .i64 0]) ∧ LawH w p 6 [some m1, some m2] w3 := (by
    have hu : usedOf [some m1] = 2 := by simp [usedOf, HM1.out, intC]
    rcases hp with ⟨M5, (⟨_, rfl⟩ | ⟨hlt, _⟩), n, m, M', hm, hP, he, hh⟩ | ⟨hlt, _⟩
    · obtain ⟨rfl, rfl⟩ := placed_full hP (fun j hj => by
        cases j with
        | zero => simp at hj
        | succ j => simp at hj)
      exact ⟨m, hm, he, hh⟩
    · rw [hu] at hlt; exact absurd hlt (by decide)
    · rw [hu] at hlt; exact absurd hlt (by decide)); have H3 := Mem.Aside.mk h3; have HM2 := Mem.Aside.mk hm2; clear hp h3 hm2)
  have b1 := H3.out.at_hw (n := 1) (m := m2) rfl
  have hrB : Row (w3.alloc (.cells #[.int .u64 (hw 1 : Nat)] 22)) 22 1 (.slice (some ⟨w3.heap.size, 0, none⟩) 1 1) [hw 1].length (u64V [hw 1]) := Row.mk (rest := []) (Blk.newL [.int .u64 (hw 1 : Nat)] rfl) rfl (Nat.le_refl _) (by decide) rfl
  have CP3 := Mem.Aside.mk (put_int H3.out ((Chg.refl [] w3).alloc _) 6 hrB (by simp) (by intro x hx; simp at hx; subst hx; exact b1.2.2))
  clear b1 hrB
  go_upto_region 7 with (go_at_call 39; (with_reducible refine CP3.out.mono ?_); intro e w4 hp; obtain ⟨rfl, h4⟩ : e = .returned (.tuple #[.int .u64 0, .int .i64 40]) ∧ LawH w p 6 [some m1, some m2] w4 := (by
    have hu : usedOf [some m1, some m2] = 5 := by simp [usedOf, HM1.out, HM2.out, intC, rowC]
    have hun : unitsOf (celsOf [some m1, some m2]) [true, true] = 5 := by simp [unitsOf, celsOf, Cells.need, HM1.out, HM2.out, intC, rowC, List.range_succ]
    have hsw : swK [true, true] [some m1, some m2].length [some m1, some m2] = [some m1, some m2] := by simp [swK]
    have hw2 : m2.c.words = [hw 0, 9221120237041090560] := by rw [HM2.out]; rfl
    rcases hp with ⟨M5, (⟨hle, _⟩ | ⟨hlt, B, hB, _, hle⟩), _⟩ | ⟨hlt, B, hB, _, he, hh⟩
    · rw [hu] at hle; exact absurd hle (by decide)
    · have := two_marks H3.out hw2 (by simp) hB
      rw [this, hun] at hle
      exact absurd hle (by decide)
    · have := two_marks H3.out hw2 (by simp) hB
      rw [this, hsw] at hh
      exact (show _ ∧ _ from ⟨he, hh⟩)); have H4 := Mem.Aside.mk h4; clear hp h4)
  have c0 := H4.out.at_hw (n := 0) (m := m1) rfl
  have c1 := H4.out.at_hw (n := 1) (m := m2) rfl
  have CG := Mem.Aside.mk (get_law H4.out c0.2.2 c0.1 (by rw [HM1.out]; rfl) (by rw [HM1.out]; rfl))
  rw [HM1.out] at CG
  simp only [argV, intC] at CG
  have HX1 := Mem.Aside.mk c1.2.2
  clear c0 c1
  go_upto_region 8 with (go_at_call 41; (with_reducible refine CG.out.mono ?_); rintro e w5 ⟨wv, rfl, hr5, h5, hc5, _⟩; obtain ⟨a5, c5, rfl⟩ := Row_form hr5; have H5 := Mem.Aside.mk h5; clear hr5 h5 hc5)
  have CRE := Mem.Aside.mk (fun (W6 : World) (hc : Chg [] w5 W6) (o : Obj) (ho : o = .cells #[.int .u64 (hw 1 : Nat)] 22) (k : Nat) (hk : k = W6.heap.size) => reach_law H5.out (hc.alloc o) (rv := .slice (some ⟨k, 0, none⟩) 1 1) (rs := [hw 1]) (by rw [ho, hk]; exact Row.mk (rest := []) (Blk.newL [.int .u64 (hw 1 : Nat)] rfl) rfl (Nat.le_refl _) (by decide) rfl) (by simp) (by intro x hx; simp at hx; subst hx; exact HX1.out))
  go_wp2_with (go_at_call 40; (with_reducible refine (CRE.out _ ((Chg.refl [] w5).alloc _) _ rfl (w5.heap.size + 1) (by simp)).mono ?_); rintro e w7 ⟨B, rfl, hB, h7, hc7⟩; have hw2 : m2.c.words = [hw 0, 9221120237041090560] := (by rw [HM2.out]; rfl); have hBt := two_marks H5.out hw2 (by simp) hB; have hun : unitsOf (celsOf [some m1, some m2]) B = 5 := (by rw [hBt]; simp [unitsOf, celsOf, Cells.need, HM1.out, HM2.out, intC, rowC, List.range_succ]); rw [hun]; have H7 := Mem.Aside.mk h7; clear hB h7 hc7 hw2 hBt hun)
  go_ret
  exact ⟨rfl, H7.out.chg⟩
end Go.Proofs.Ytgimcpnelogadaa.Hp
