/- Chapter 6: reached. -/
import Derived.Test.YtgimcpnelogadaaHpD
namespace Go.Proofs.Ytgimcpnelogadaa.Hp
open Go.RowKit Go.Proofs.Ytgimcpnelogadaa.Mem Go.Proofs.Ytgimcpnelogadaa.Sto Go.Proofs.Ytgimcpnelogadaa.Wd
set_option linter.unusedVariables false
set_option linter.unusedSimpArgs false

theorem elemBool : Elem Try.prog 4 1 1 (.bool false) := Elem.of (by kernel_rfl) rfl (by intro v hv; simp [Value.cells] at hv; subst hv; rfl) (by decide)
def isF : Value → Bool | .bool false => true | _ => false
/-- How much there is to do, read in memory. -/
def leftW (gm n tb : Nat) (w : World) : Nat :=
  2 * (match w.heap[gm]? with | some (.cells cs _ _) => ((cs.toList.take n).filter isF).length | _ => 0) + (match w.cell? ⟨tb, 0, none⟩ with | some (.slice _ k _) => k | _ => 0)
theorem filter_isF (l : List Bool) : ((l.map Value.bool).filter isF).length = (l.filter fun b => !b).length := by
  induction l with
  | nil => rfl
  | cons b l ih => cases b with
    | false => rw [List.map_cons, List.filter_cons_of_pos (by rfl), List.filter_cons_of_pos (by rfl), List.length_cons, List.length_cons, ih]
    | true => rw [List.map_cons, List.filter_cons_of_neg (by simp [isF]), List.filter_cons_of_neg (by simp), ih]
theorem left_at {w : World} {hb p mb ub tb gm n cap : Nat} {s : Mk} {tv : Value} (h : MkAt w hb p mb ub tb s (.slice (some ⟨gm, 0, none⟩) n cap) tv) (hn : s.marks.length = n) : leftW gm n tb w = s.left := by
  subst hn
  obtain ⟨a, c, rfl⟩ := Row_form h.tr
  unfold leftW Mk.left
  rw [h.t.cellAt (i := 0) rfl]
  rcases h.mr.cases with ⟨h1, _⟩ | ⟨g', cap', rest, h1, hb, hn, hc, hl⟩
  · cases h1
  · cases h1
    have e : w.heap[gm]? = some (.cells ((s.marks.map Value.bool) ++ rest).toArray 4 (0, 0)) := hb
    rw [e]
    simp only
    rw [List.take_left' (by simp), filter_isF]
theorem Mk.list_left {cs : Cells} : ∀ (l : List Nat) {s : Mk}, s.marks.length = cs.length → (s.list cs l).left ≤ s.left
  | [], _, _ => Nat.le_refl _
  | w :: l, s, h => by
    have h1 := Mk.step_left (s := s) w h
    have h2 : (s.step cs w).marks.length = cs.length := by
      unfold Mk.step
      split
      · split
        · exact h
        · simpa using h
      · exact h
    exact Nat.le_trans (Mk.list_left l h2) h1
theorem Mk.list_append {cs : Cells} (s : Mk) (l m : List Nat) : s.list cs (l ++ m) = (s.list cs l).list cs m := by simp [Mk.list]
theorem Mk.list_len {cs : Cells} {s : Mk} (h : MkS cs s) (l : List Nat) : (s.list cs l).marks.length = s.marks.length := by rw [(MkS.list l h).len, h.len]
theorem Rch.live {M : List (Option MC)} {R : List Nat} {n : Nat} (h : Rch (celsOf M) R n) : ∃ m, M[n]? = some (some m) := by
  cases h with
  | root _ h => exact (atM_at.1 h).2
  | next _ _ h => exact (atM_at.1 h).2

/-- Lists of words as they are handed to reached. -/
structure Lists (w : World) (v : Value) (LS : List (Value × List Nat)) : Prop where
  row : Row w 58 1 v LS.length (LS.map Prod.fst)
  each : ∀ q ∈ LS, Row w 22 1 q.1 q.2.length (u64V q.2)
  fit : ∀ q ∈ LS, q.2.length ≤ 1000000000 ∧ ∀ x ∈ q.2, x < 18446744073709551616
  few : LS.length ≤ 1000
theorem Lists.chg {w w' : World} {v : Value} {LS : List (Value × List Nat)} (h : Lists w v LS) (hc : Chg [] w w') : Lists w' v LS :=
  ⟨h.row.chg hc (by simp), fun q hq => (h.each q hq).chg hc (by simp), h.fit, h.few⟩
/-- What of a heap a walk needs to know of its cells. -/
structure WordsOk (M : List (Option MC)) : Prop where
  words : ∀ m, some m ∈ M → m.c.words.length ≤ 1048576 ∧ (∀ x ∈ m.c.words, x < 18446744073709551616) ∧ m.c.base < 18446744073709551616
  units : ∀ B : List Bool, unitsOf (celsOf M) B ≤ 1048576

section
variable {w : World} {p units used rp most : Nat} {M : List (Option MC)} {cv : Value} {F : List Nat}
/-- What stands at a walk's loops. -/
structure MkI (w : World) (hb p mb ub tb gm cap : Nat) (M : List (Option MC)) (R E D : List Nat) (s : Mk) (tv : Value) (W : World) : Prop where
  at_ : MkAt W hb p mb ub tb s (.slice (some ⟨gm, 0, none⟩) M.length cap) tv
  ok : MkOk (celsOf M) R E D s
  keeps : MkS (celsOf M) s
  chg : Chg [] w W
  fresh : ∀ g, tv.ownBlock = some g → w.heap.size ≤ g
  low : w.heap.size ≤ hb ∧ w.heap.size ≤ mb ∧ w.heap.size ≤ ub ∧ w.heap.size ≤ tb ∧ w.heap.size ≤ gm
theorem MkI.sep {hb mb ub tb gm cap : Nat} {R E D : List Nat} {s : Mk} {tv : Value} {W : World} (h : MkI w hb p mb ub tb gm cap M R E D s tv W) : ∀ k ∈ mkFoot ub tb (.slice (some ⟨gm, 0, none⟩) M.length cap) tv, w.heap.size ≤ k := by
  intro k hk
  obtain ⟨h1, h2, h3, h4, h5⟩ := h.low
  simp only [mkFoot, List.mem_cons, List.mem_append, Option.mem_toList] at hk
  rcases hk with rfl | rfl | hk | hk
  · exact h3
  · exact h4
  · cases hk; exact h5
  · exact h.fresh k hk
theorem MkI.alloc {hb mb ub tb gm cap : Nat} {R E D : List Nat} {s : Mk} {tv : Value} {W : World} (h : MkI w hb p mb ub tb gm cap M R E D s tv W) (o : Obj) : MkI w hb p mb ub tb gm cap M R E D s tv (W.alloc o) :=
  ⟨⟨h.at_.h.alloc o, h.at_.m.alloc o, h.at_.mr.alloc o, h.at_.u.alloc o, h.at_.t.alloc o, h.at_.tr.alloc o⟩, h.ok, h.keeps, h.chg.alloc o, h.fresh, h.low⟩
/-- The last that is to be looked at is taken. -/
theorem MkI.pop {hb mb ub tb gm cap gt ct : Nat} {R D : List Nat} {Ms : List Bool} {Us j : Nat} {t2 : List Nat} {W : World} (h : MkI w hb p mb ub tb gm cap M R [] D ⟨Ms, Us, t2 ++ [j]⟩ (.slice (some ⟨gt, 0, none⟩) (t2 ++ [j]).length ct) W) :
    MkI w hb p mb ub tb gm cap M R [j] D ⟨Ms, Us, t2⟩ (.slice (some ⟨gt, 0, none⟩) t2.length ct) (W.setCell ⟨tb, 0, none⟩ (.slice (some ⟨gt, 0, none⟩) t2.length ct)).drew := by
  have ntb : ∀ {j : Nat} {t : TypeId} {cs : List Value}, t ≠ 58 → Blk W j t cs → j ≠ tb := fun ht hb e => by
    rw [e] at hb
    exact ht (hb.inj h.at_.t).1
  have hcut := h.at_.tr.cut (m := t2.length) (by simp)
  have he : (u64V (t2 ++ [j])).take (t2.length * 1) = u64V t2 := by rw [Nat.mul_one]; unfold u64V; rw [List.map_append]; exact List.take_left' (by simp)
  rw [he] at hcut
  have hroom := h.keeps.room
  refine ⟨⟨(h.at_.h.far (p := ⟨tb, 0, none⟩) (ntb (by decide) h.at_.h) _).drew, (h.at_.m.far (p := ⟨tb, 0, none⟩) (ntb (by decide) h.at_.m) _).drew, (h.at_.mr.farCell (p := ⟨tb, 0, none⟩) (fun e => by
      obtain ⟨cs, h1⟩ := h.at_.mr.typed e
      exact ntb (by decide) h1 rfl) _).drew, (h.at_.u.far (p := ⟨tb, 0, none⟩) (ntb (by decide) h.at_.u) _).drew, (h.at_.t.set 0 _).drew, (hcut.farCell (p := ⟨tb, 0, none⟩) (fun e => by
      obtain ⟨cs, h1⟩ := hcut.typed e
      exact ntb (by decide) h1 rfl) _).drew⟩, h.ok.pop.1, ⟨h.keeps.len, h.keeps.units, by simp at hroom ⊢; omega⟩, (h.chg.setCell (p := ⟨tb, 0, none⟩) (.inr h.low.2.2.2.1) _).drew, fun g hg => h.fresh g hg, h.low⟩
/-- mark, at a walk's loops. -/
theorem MkI.mark (h : HeapAt w p units used M cv rp F most) (hM : WordsOk M) {hb mb ub tb gm cap : Nat} {R E D : List Nat} {s : Mk} {tv : Value} {W : World} (hi : MkI w hb p mb ub tb gm cap M R E D s tv W)
    {lv : Value} {l : List Nat} (hl : Row W 22 1 lv l.length (u64V l)) (hlen : l.length ≤ 1000000000) (hx : ∀ x ∈ l, x < 18446744073709551616) (hlt : ∀ g, lv.ownBlock = some g → tv.ownBlock ≠ some g)
    (hr : ∀ x ∈ l, ∀ n, (celsOf M).at_ x = some n → Rch (celsOf M) R n) :
    Calls Try.prog 120 #[lv, .pointer (some ⟨hb, 0, none⟩), .pointer (some ⟨mb, 0, none⟩), .pointer (some ⟨ub, 0, none⟩), .pointer (some ⟨tb, 0, none⟩)] W fun e w' => ∃ tv', e = .returned (.tuple #[]) ∧
      MkI w hb p mb ub tb gm cap M R E (D ++ l) (s.list (celsOf M) l) tv' w' := by
  have hs := hi.sep
  have hl1 : s.marks.length = M.length := by rw [hi.keeps.len]; simp [celsOf]
  have hat := hi.at_
  refine (mark_calls (h.chg hi.chg (by simp)) hat hi.keeps hM.units hl hlen hx (fun k hk hm => by have := h.lt k hm; have := hs k hk; omega) hlt).mono ?_
  rintro e w' ⟨tv', rfl, h1, h2, h3⟩
  exact ⟨tv', rfl, h1, MkOk.list l D s hi.ok hr, hi.keeps.list l, hi.chg.then h2 (fun k hk => .inr (hs k hk)), fun g hg => (h3 g hg).elim (hi.fresh g) (fun e => Nat.le_trans hi.chg.size e), hi.low⟩

set_option maxHeartbeats 8000000 in
set_option maxRecDepth 100000 in
theorem reached_calls (h : HeapAt w p units used M cv rp F most) (hM : WordsOk M) {lsv : Value} {LS : List (Value × List Nat)} (hL : Lists w lsv LS) :
    Calls Try.prog 82 #[.pointer (some ⟨p, 0, none⟩), lsv] w fun e w' => ∃ (mv : Value) (B : List Bool), e = .returned (.tuple #[mv, .int .i64 (unitsOf (celsOf M) B : Nat)]) ∧ B.length = M.length ∧
      Row w' 4 1 mv M.length (B.map Value.bool) ∧ (∀ n, B.getD n false = true ↔ Rch (celsOf M) (LS.flatMap Prod.snd) n) ∧ Chg [] w w' ∧ ∀ g, mv.ownBlock = some g → w.heap.size ≤ g := by
  obtain ⟨al, cl, rfl⟩ := Row_form hL.row
  have H := Mem.Aside.mk h
  have HM := Mem.Aside.mk hM
  have HL := Mem.Aside.mk hL
  have c2 := h.top.cellAt (i := 2) rfl
  obtain ⟨ac, cc, rfl⟩ := Row_form h.row
  have hsm := h.small
  have c2a := (h.top.alloc (.cells #[.pointer (some ⟨p, 0, none⟩)] 63)).cellAt (i := 2) rfl
  clear h hM hL
  go_enter Try.func82, Try.ntmps82
  go_upto_region 2 with (at_make; refine wpList_make1 (z := .bool false) rfl _ _ rfl Try.underlying50 elemBool rfl M.length rfl rfl (by omega) (by omega) ?_; intro w1 hb1 hc1 hs1; have HB1 := Mem.Aside.mk hb1; have HC1 := Mem.Aside.mk hc1; have HS1 := Mem.Aside.mk hs1; clear hb1 hc1 hs1)
  go_upto_region 5 with fail
  obtain ⟨b, hb⟩ : ∃ b, b = w.heap.size := ⟨_, rfl⟩
  obtain ⟨m, hm⟩ : ∃ m, m = w1.heap.size := ⟨_, rfl⟩
  have hs1 := HS1.out
  have hb1 := HB1.out
  have hsa : (w.alloc (.cells #[.pointer (some ⟨p, 0, none⟩)] 63)).heap.size = b + 1 := by rw [hb]; simp
  rw [hsa] at hs1 hb1
  have hcl : (celsOf M).length = M.length := by simp [celsOf]
  have i0 : MkI w b p m (m + 1) (m + 2) (b + 1) M.length M (LS.flatMap Prod.snd) [] [] ⟨List.replicate (celsOf M).length false, 0, []⟩ (.slice none 0 0) (((w1.alloc (.cells #[.slice (some ⟨b + 1, 0, none⟩) M.length M.length] 50)).alloc (.cells #[.int .i64 0] 3)).alloc (.cells #[.slice none 0 0] 58)) := by
    have z0 : Blk w1 b 63 [.pointer (some ⟨p, 0, none⟩)] := by rw [hb]; exact (Blk.newL [_] rfl).chg HC1.out (by simp)
    have hrow : Row w1 4 1 (.slice (some ⟨b + 1, 0, none⟩) M.length M.length) M.length (List.replicate M.length (.bool false)) := Row.mk (rest := []) (by simpa using hb1) (by simp) (Nat.le_refl _) (by omega) (by simp)
    refine ⟨⟨((z0.alloc _).alloc _).alloc _, ?_, ?_, ?_, ?_, Row.nil _ _ _⟩, MkOk.start _ _, ⟨by simp, (MkOk.start (celsOf M) (LS.flatMap Prod.snd)).units, by simp⟩, (((((Chg.refl [] w).alloc _).then HC1.out (by simp)).alloc _).alloc _).alloc _, (fun g hg => by cases hg), ⟨by omega, by omega, by omega, by omega, by omega⟩⟩
    · rw [hm]; exact ((Blk.newL [_] rfl).alloc _).alloc _
    · show Row _ _ _ _ (List.replicate (celsOf M).length false).length ((List.replicate (celsOf M).length false).map Value.bool)
      rw [List.length_replicate, List.map_replicate, hcl]
      exact ((hrow.alloc _).alloc _).alloc _
    · rw [hm]; exact (Blk.newL [_] (by simp)).alloc _
    · rw [hm]; exact Blk.newL [_] (by simp)
  have I0 := Mem.Aside.mk i0
  simp only [← hb, ← hm, Nat.add_assoc, Nat.reduceAdd]
  generalize (((w1.alloc (.cells #[.slice (some ⟨b + 1, 0, none⟩) M.length M.length] 50)).alloc (.cells #[.int .i64 0] 3)).alloc (.cells #[.slice none 0 0] 58)) = W3 at I0 ⊢
  clear i0 hb hm hs1 hb1 hsa hcl HS1 HB1 HC1 c2 c2a
  go_upto_region 6 with fail
  go_loopw [22] (fun i wr => ∃ (k : Nat) (s : Mk) (tv : Value), i = .int .i64 (k : Int) ∧ k ≤ LS.length ∧ Mem.Aside (MkI w b p m (m + 1) (m + 2) (b + 1) M.length M (LS.flatMap Prod.snd) [] ((LS.take k).flatMap Prod.snd) s tv wr)) (fun i _ => LS.length - (intOf i).toNat)
  case atStart => exact ⟨0, _, _, rfl, Nat.zero_le _, I0⟩
  case round =>
    obtain ⟨k, s, tv, rfl, hk, HI⟩ := hrel
    have hfew := HL.out.few
    by_cases d : k < LS.length
    · have d' : (k : Int) < (LS.length : Int) := by omega
      have hwk := (IntWalk.i64_in ((k : Int) + 1) (by omega) : IntKind.i64.wrap ((k : Int) + 1) = ((k + 1 : Nat) : Int))
      have hLw := HL.out.chg HI.out.chg
      obtain ⟨gl, capl, hal, hcell⟩ := row_get1 hLw.row (i := k) (u := LS[k].1) (by rw [List.getElem?_map, List.getElem?_eq_getElem d]; rfl)
      cases hal
      have hq := List.getElem_mem d
      have hrow := hLw.each _ hq
      have hrow0 := HL.out.each _ hq
      have hfit := HL.out.fit _ hq
      have CM := Mem.Aside.mk (MkI.mark H.out HM.out HI.out hrow hfit.1 hfit.2 (fun g hg e => by have := hrow0.lt hg; have := HI.out.fresh g e; omega) (fun x hx n hn => .root (List.mem_flatMap.2 ⟨_, hq, hx⟩) hn))
      have HTK : Mem.Aside ((LS.take (k + 1)).flatMap Prod.snd = (LS.take k).flatMap Prod.snd ++ LS[k].2) := ⟨by rw [List.take_succ_eq_append_getElem d, List.flatMap_append]; simp⟩
      obtain ⟨lv, hlv⟩ : ∃ lv, lv = LS[k].1 := ⟨_, rfl⟩
      obtain ⟨l2, hl2⟩ : ∃ l2, l2 = LS[k].2 := ⟨_, rfl⟩
      rw [← hl2] at HTK
      rw [← hlv, ← hl2] at CM
      rw [← hlv] at hcell
      have hone : lv.oneCell' = true := by
        rw [hlv]
        obtain ⟨a, c, e⟩ := Row_form hrow0
        rw [e]; rfl
      obtain ⟨al2, cl2, hlf⟩ := Row_form hrow0
      rw [← hlv] at hlf
      subst hlf
      clear hlv hl2 hLw hq hrow hrow0 hfit
      go_wp2_with (go_at_call 120; (with_reducible refine CM.out.mono ?_); rintro e w5 ⟨tv5, rfl, hi5⟩; have HI5 := Mem.Aside.mk hi5; clear hi5)
      exact ⟨⟨k + 1, _, _, by go_num, by omega, by rw [HTK.out]; exact HI5⟩, by simp [intOf]; omega⟩
    · have d' : decide ((k : Int) < (LS.length : Int)) = false := decide_eq_false (by omega)
      have hi := HI.out
      rw [List.take_of_length_le (by omega)] at hi
      have HI2 := Mem.Aside.mk hi
      clear hi
      go_wp2
      go_loopw [12] (fun _ wr => ∃ (s : Mk) (tv : Value) (D : List Nat), Mem.Aside (MkI w b p m (m + 1) (m + 2) (b + 1) M.length M (LS.flatMap Prod.snd) [] D s tv wr) ∧ Mem.Aside (∀ x ∈ LS.flatMap Prod.snd, x ∈ D)) (fun _ wr => leftW (b + 1) M.length (m + 2) wr)
      case atStart => exact ⟨s, tv, _, HI2, ⟨fun x hx => hx⟩⟩
      case round =>
        obtain ⟨s2, tv2, D, HJ, HD⟩ := hrel
        have hcl : (celsOf M).length = M.length := by simp [celsOf]
        have hlen2 : s2.marks.length = M.length := by rw [HJ.out.keeps.len, hcl]
        obtain ⟨at2, ct2, rfl⟩ := Row_form HJ.out.at_.tr
        have ct := HJ.out.at_.t.cellAt (i := 0) rfl
        have ch := HJ.out.at_.h.cellAt (i := 0) rfl
        have cm := HJ.out.at_.m.cellAt (i := 0) rfl
        have cu := HJ.out.at_.u.cellAt (i := 0) rfl
        have hroom := HJ.out.keeps.room
        rw [hcl] at hroom
        rcases List.eq_nil_or_concat s2.todo with he | ⟨t2, j, he⟩
        · have hz : s2.todo.length = 0 := by rw [he]; rfl
          rw [hz] at ct
          have hi := HJ.out
          obtain ⟨Ms, Us, Ts⟩ := s2
          simp only at he hlen2 cu hz
          subst he
          have HJJ := Mem.Aside.mk hi
          clear hi HJ ch
          go_upto_region 16 with fail
          go_region
          go_wp2
          go_ret2
          have hi := HJJ.out
          have hU : Us = unitsOf (celsOf M) Ms := hi.keeps.units
          refine ⟨.slice (some ⟨b + 1, 0, none⟩) M.length M.length, Ms, ?_, hlen2, ?_, hi.ok.ends HD.out, hi.chg.drew, fun g hg => ?_⟩
          · rw [hU]; rfl
          · have := hi.at_.mr
            simp only at this
            rw [hlen2] at this
            exact this.drew
          · cases hg; exact hi.low.2.2.2.2
        · obtain ⟨Ms, Us, Ts⟩ := s2
          simp only at he hlen2 hroom ct cu
          subst he
          simp only [List.concat_eq_append] at *
          have hlt2 : (t2 ++ [j]).length = t2.length + 1 := by simp
          rw [hlt2] at ct hroom
          obtain ⟨hpop, hrch⟩ := HJ.out.ok.pop
          obtain ⟨mj, hmj⟩ := hrch.live
          have hMj : some mj ∈ M := List.mem_of_getElem? hmj
          have hW := H.out.chg HJ.out.chg (by simp)
          have c2 := hW.top.cellAt (i := 2) rfl
          obtain ⟨gc, capc, hcv, hcc⟩ := row_get1 hW.row (i := j) (u := ptrV (some mj)) (by rw [List.getElem?_map, hmj]; rfl)
          simp only [ptrV] at hcc
          cases hcv
          have htr := HJ.out.at_.tr
          obtain ⟨gt, capt, htv, hct⟩ := row_get1 htr (i := t2.length) (u := .int .u64 (j : Int)) (by simp [u64V])
          cases htv
          have hj : j < M.length := (List.getElem?_eq_some_iff.1 hmj).1
          have hj' : (j : Int) < (M.length : Int) := by omega
          have hw0 : IntKind.i64.wrap (t2.length : Int) = (t2.length : Int) := IntWalk.i64_in _ (by omega)
          have hpos : (0 : Int) < (t2.length : Int) + 1 := by omega
          have hlt3 : (t2.length : Int) < (t2.length : Int) + 1 := by omega
          have hcap : t2.length ≤ ct2 := by
            rcases htr.cases with ⟨h1, _⟩ | ⟨g', cap', rest, h1, _, hn, _⟩
            · cases h1
            · cases h1; simp at hn; omega
          have hcap' : (t2.length : Int) ≤ (ct2 : Int) := by omega
          have ft := HJ.out.at_.t.frozen 0
          have HJI := Mem.Aside.mk (And.intro hpop (And.intro hmj hMj))
          clear hpop hrch htr
          go_upto_region 11 with fail
          refine region_tail 12 (by kernel_rfl) (by kernel_rfl) ?_
          simp only [List.take_succ_cons, List.take_zero, List.drop_succ_cons, List.drop_zero]
          refine StW.out ?_
          iterate 12 (refine still_take (by rfl) (fun K hK => ?_); go_simp; refine hK _ ?_; clear hK K)
          refine still_end ?_
          go_upto_region 13 with fail
          have hrch := HJ.out.ok.pop.2
          have i1 := HJ.out.pop
          have hdist : ∀ g, mj.wv.ownBlock = some g → g < w.heap.size := fun g hg => (H.out.words mj hMj).lt hg
          have hrefs : (celsOf M).refs j = mj.c.refs := by unfold Cells.refs celsOf; rw [List.getElem?_map, hmj]; rfl
          have hleft0 : Mk.left ⟨Ms, Us, t2⟩ + 1 = Mk.left ⟨Ms, Us, t2 ++ [j]⟩ := by simp [Mk.left]; omega
          have hleft1 := left_at HJ.out.at_ hlen2
          have HLEFT := Mem.Aside.mk (And.intro hleft0 hleft1)
          have HREF := Mem.Aside.mk (And.intro hrch hrefs)
          generalize (wr.setCell ⟨m + 2, 0, none⟩ (.slice (some ⟨gt, 0, none⟩) t2.length ct2)).drew = W5 at i1 ⊢
          have HW5 := Mem.Aside.mk (H.out.chg i1.chg (by simp))
          obtain ⟨aw, cw, hwf⟩ := Row_form (HW5.out.words mj hMj)
          have hfit := HM.out.words mj hMj
          have CM1 := Mem.Aside.mk (MkI.mark H.out HM.out i1 (HW5.out.words mj hMj) (by omega) hfit.2.1 (fun g hg e => by have := hdist g hg; have := i1.fresh g e; omega) (fun x hx n hn => .next hrch (by rw [hrefs]; exact List.mem_append_left _ hx) hn))
          have d5 := (HW5.out.cells mj hMj).cellAt (i := 5) rfl
          rw [hwf] at CM1 d5
          have HMJ := Mem.Aside.mk (And.intro hMj hfit)
          have I1 := Mem.Aside.mk i1
          clear i1 hdist hrefs hleft0 hleft1 hrch hwf hfit hMj hmj HJI hcc hct hW c2 ch ct cm cu ft hcap hcap' hj hj' hroom HJ HI2 HI I0
          go_upto_region 14 with (go_at_call 120; (with_reducible refine CM1.out.mono ?_); rintro e w6 ⟨tv6, rfl, hi6⟩; have HI6 := Mem.Aside.mk hi6; have HW6 := Mem.Aside.mk (H.out.chg hi6.chg (by simp)); have d1 := (HW6.out.cells mj HMJ.out.1).cellAt (i := 1) rfl; have d6 := (HW6.out.cells mj HMJ.out.1).cellAt (i := 6) rfl; clear hi6)
          have hend : ∀ {D' : List Nat} {l : List Nat} {tv' : Value} {w' : World}, MkI w b p m (m + 1) (m + 2) (b + 1) M.length M (LS.flatMap Prod.snd) [j] D' (Mk.list (celsOf M) ⟨Ms, Us, t2⟩ l) tv' w' → (∀ x ∈ D, x ∈ D') → (∀ x ∈ mj.c.refs, x ∈ D') →
              (Mem.Aside (MkI w b p m (m + 1) (m + 2) (b + 1) M.length M (LS.flatMap Prod.snd) [] D' (Mk.list (celsOf M) ⟨Ms, Us, t2⟩ l) tv' w') ∧ Mem.Aside (∀ x ∈ LS.flatMap Prod.snd, x ∈ D')) ∧ leftW (b + 1) M.length (m + 2) w' < leftW (b + 1) M.length (m + 2) wr := by
            intro D' l tv' w' hi hd hr
            have h1 := Mk.list_left (cs := celsOf M) l (s := ⟨Ms, Us, t2⟩) (by show Ms.length = _; rw [hlen2]; simp [celsOf])
            have h2 := Mk.list_len I1.out.keeps l
            have h3 := left_at hi.at_ (h2.trans hlen2)
            have h4 := HLEFT.out
            exact ⟨⟨⟨⟨hi.at_, hi.ok.settle (by rw [HREF.out.2]; exact hr), hi.keeps, hi.chg, hi.fresh, hi.low⟩⟩, ⟨fun x hx => hd x (HD.out x hx)⟩⟩, by omega⟩
          have HEND := Mem.Aside.mk (@hend)
          clear hend
          cases hv : mj.c.view with
          | false =>
            rw [hv] at d1
            have HV := Mem.Aside.mk hv
            clear hv
            go_wp2
            obtain ⟨⟨q1, q2⟩, q3⟩ := HEND.out HI6.out (fun x hx => List.mem_append_left _ hx) (fun x hx => by
              unfold Cel.refs at hx
              rw [HV.out] at hx
              simp at hx
              exact List.mem_append_right _ hx)
            exact ⟨⟨_, _, _, q1, q2⟩, q3⟩
          | true =>
            rw [hv] at d1
            have HV := Mem.Aside.mk hv
            clear hv
            have i7 := HI6.out.alloc (.cells #[.int .u64 (mj.c.base : Int)] 22)
            have hrow : Row (w6.alloc (.cells #[.int .u64 (mj.c.base : Int)] 22)) 22 1 (.slice (some ⟨w6.heap.size, 0, none⟩) 1 1) [mj.c.base].length (u64V [mj.c.base]) := Row.mk (rest := []) (Blk.newL [_] rfl) rfl (Nat.le_refl _) (by decide) rfl
            have hbr : mj.c.base ∈ mj.c.refs := by unfold Cel.refs; rw [HV.out]; simp
            have CM2 := Mem.Aside.mk (MkI.mark H.out HM.out i7 hrow (by simp) (by simpa using HMJ.out.2.2.2) (fun g hg e => by
              cases hg
              exact absurd (HI6.out.at_.tr.lt e) (Nat.lt_irrefl _)) (fun x hx n hn => .next HREF.out.1 (by rw [HREF.out.2]; simp at hx; subst hx; exact hbr) hn))
            rw [← Mk.list_append] at CM2
            clear i7 hrow
            go_wp2_with (go_at_call 120; (with_reducible refine CM2.out.mono ?_); rintro e w7 ⟨tv7, rfl, hi7⟩; have HI7 := Mem.Aside.mk hi7; clear hi7)
            obtain ⟨⟨q1, q2⟩, q3⟩ := HEND.out HI7.out (fun x hx => List.mem_append_left _ (List.mem_append_left _ hx)) (fun x hx => by
              unfold Cel.refs at hx
              rw [HV.out] at hx
              simp only [if_true] at hx
              rcases List.mem_append.1 hx with hx | hx
              · exact List.mem_append_left _ (List.mem_append_right _ hx)
              · exact List.mem_append_right _ hx)
            exact ⟨⟨_, _, _, q1, q2⟩, q3⟩
end
end Go.Proofs.Ytgimcpnelogadaa.Hp
