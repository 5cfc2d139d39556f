/- Chapter 5, the store, by hand: slices.Insert of one extent. -/
import Derived.Lib.Overlaps
import Derived.Test.YtgimcpnelogadaaStM
import Derived.Test.YtgimcpnelogadaaMemD
namespace Go.Proofs.Ytgimcpnelogadaa.Sto
open Go.RowKit Go.Proofs.Ytgimcpnelogadaa.Mem
set_option linter.unusedVariables false
set_option linter.unusedSimpArgs false

theorem elemExt : Elem Try.prog 114 3 24 zExt := Elem.of infoExt rfl zExt_one (by decide)
theorem sizeExt (w : World) : (Go.sizeOf 114).run Try.prog w = .ok 3 w := by kernel_rfl
theorem blk_shape {w : World} {g : Nat} {t : TypeId} {cs : List Value} (h : Blk w g t cs) : w.shape? g = some (t, cs.length) := by simp [World.shape?, show w.heap[g]? = _ from h]
theorem extV_one (x : Ext) : ∀ v ∈ extV x, v.oneCell' = true := by
  intro v hv
  simp [extV] at hv
  rcases hv with rfl | rfl | rfl <;> rfl
theorem extV_length (x : Ext) : (extV x).length = 3 := rfl

/-- The same block, or the next new one. -/
def SameNew (w : World) (v v' : Value) : Prop := v'.ownBlock = v.ownBlock ∨ v'.ownBlock = some w.heap.size

/-- A list with one more at i. -/
def insAt (l : List Ext) (i : Nat) (x : Ext) : List Ext := l.take i ++ x :: l.drop i
theorem insAt_length {l : List Ext} {i : Nat} (hi : i ≤ l.length) (x : Ext) : (insAt l i x).length = l.length + 1 := by simp [insAt]; omega
theorem rowV_insAt (l : List Ext) (i : Nat) (x : Ext) : rowV (insAt l i x) = rowV (l.take i) ++ (extV x ++ rowV (l.drop i)) := by rw [insAt, rowV_append, rowV_cons]

set_option maxRecDepth 100000 in
theorem insert_end {w : World} {v : Value} {l : List Ext} (h : Row w 114 3 v l.length (rowV l)) (hl : l.length ≤ 1000000000) (x : Ext) {nb : Nat} (hx : Blk w nb 114 (extV x)) :
    Calls Try.prog 65 #[v, .int .i64 (l.length : Int), .slice (some ⟨nb, 0, none⟩) 1 1] w fun e w' => ∃ v', e = .returned v' ∧ Row w' 114 3 v' (l.length + 1) (rowV l ++ extV x) ∧
      SameNew w v v' ∧ Chg v.ownBlock.toList w w' := by
  obtain ⟨v', w', hr, hR, hC, hO⟩ := h.append (c := 1) Try.underlying109 elemExt (m := 1) (extV_length x) (hx.from (o := 0) (fun j u hu => by rw [Nat.zero_add]; exact hu)) (extV_one x) (by omega) (by omega)
  have HR := Aside.mk hr
  have HO : Aside (SameNew w v v') := Aside.mk hO
  have HX := Aside.mk (And.intro hR hC)
  obtain ⟨a, cp, rfl⟩ := Row_form h
  have hcp : l.length ≤ cp := by
    rcases h.cases with ⟨h1, h2, _⟩ | ⟨g, cap, rest, h1, _, hn, _⟩
    · simp at h1; omega
    · cases h1; exact hn
  clear hr hR hC hO h hx
  go_enter Try.func65, Try.ntmps65
  go_wp2_with (refine wpList_builtin2 _ (by rfl) .append _ _ _ (by rfl) (.slice a l.length cp) (.slice (some ⟨nb, 0, none⟩) 1 1) (by rfl) (by rfl) _ _ (HR.out _) ?_)
  all_goals go_ret
  all_goals exact ⟨v', rfl, HX.out.1, by first | exact HO.out | (cases a <;> exact HO.out), by first | exact HX.out.2 | (cases a <;> exact HX.out.2)⟩

set_option maxRecDepth 100000 in
theorem insert_grow {w : World} {l : List Ext} {g cap : Nat} {rest : List Value} (hb : Blk w g 114 (rowV l ++ rest)) (hn : l.length ≤ cap) (hcap : cap ≤ 9223372036854775807) (hlen : (rowV l ++ rest).length = cap * 3) (hl : l.length ≤ 1000000000)
    {i : Nat} (hi : i < l.length) (hfull : cap < l.length + 1) (x : Ext) {nb : Nat} (hx : Blk w nb 114 (extV x)) :
    Calls Try.prog 65 #[.slice (some ⟨g, 0, none⟩) l.length cap, .int .i64 (i : Int), .slice (some ⟨nb, 0, none⟩) 1 1] w fun e w' => ∃ v', e = .returned v' ∧ Row w' 114 3 v' (l.length + 1) (rowV (insAt l i x)) ∧
      v'.ownBlock = some w.heap.size ∧ Chg [] w w' := by
  have hik : i + (l.length + 1 - i) = l.length + 1 := by omega
  have hkc : ((l.length + 1 - i : Nat) : Int) = (l.length : Int) + 1 - (i : Int) := by omega
  have hsplit : rowV l = rowV (l.take i) ++ rowV (l.drop i) := by rw [← rowV_append, List.take_append_drop]
  have hR0 : Row w 114 3 (.slice (some ⟨g, 0, none⟩) i cap) i (rowV (l.take i)) := by
    refine Row.mk (rest := rowV (l.drop i) ++ rest) ?_ (by rw [rowV_length, List.length_take]; omega) (by omega) hcap ?_
    · rw [← List.append_assoc, ← hsplit]; exact hb
    · rw [← List.append_assoc, ← hsplit]; exact hlen
  obtain ⟨v2, w1, hr, hR, hC, hO⟩ := hR0.appendZeros (kq := .i64) (kn := .i64) Try.underlying109 Try.underlying3 elemExt (k := l.length + 1 - i) (by omega) (by omega) (by omega)
  obtain ⟨hown, hC1⟩ : v2.ownBlock = some w.heap.size ∧ Chg [] w w1 := by
    rcases hO with ⟨⟨a, cp, he, hroom⟩, _⟩ | h
    · cases he; omega
    · exact h
  rcases hR.cases with ⟨rfl, _, _⟩ | ⟨g2, cap2, rest2, rfl, hb2, hn2, hcap2, hlen2⟩
  · cases hown
  obtain rfl : g2 = w.heap.size := by simpa [Value.ownBlock] using hown
  rw [hik] at hn2 hr
  rw [hkc] at hr
  have hgl := hb.lt
  have HR := Aside.mk hr
  have HC := Aside.mk hC1
  have hB2 := Aside.mk hb2
  have hBg := Aside.mk (hb.chg hC1 (by simp))
  have hBx := Aside.mk (hx.chg hC1 (by simp))
  have HL2 := Aside.mk hlen2
  have HN2 := Aside.mk (And.intro hn2 hcap2)
  have HL := Aside.mk hlen
  clear hr hR hC hO hR0 hb hx hb2 hlen2 hlen hC1 hown hcap2
  have q1 : i ≤ cap := by omega
  have q2 : ¬ cap = i := by omega
  have q3 : (l.length : Int) ≤ (cap : Int) := by omega
  have q4 : ¬ cap2 = i := by omega
  have q5 : ¬ cap2 = i + 1 := by omega
  have q6 : ¬ ((i : Int) = (l.length : Int)) := by omega
  have hz : (Builtin.zeroCells zExt.cells (l.length + 1 - i)).toList.length = (l.length + 1 - i) * 3 := zeros3_length _
  have htl : (rowV (l.take i)).length = i * 3 := by rw [rowV_length, List.length_take, Nat.min_eq_left (by omega)]
  obtain ⟨Z, hZ⟩ : ∃ Z, Z = (Builtin.zeroCells zExt.cells (l.length + 1 - i)).toList := ⟨_, rfl⟩
  rw [← hZ] at hB2 HL2 hz
  clear hZ
  have szE : (Try.prog.info? 114).map (·.size) = some 3 := by kernel_rfl
  have hcl := HL2.out
  rw [List.length_append, List.length_append, htl, hz] at hcl
  have hfit1 : i * 3 + (extV x).length ≤ (rowV (l.take i) ++ Z ++ rest2).length := by rw [List.length_append, List.length_append, htl, hz, extV_length]; omega
  have hd1 : Nat.min 1 (l.length + 1 - i) = 1 := Nat.min_eq_left (by omega)
  have R1 := Aside.mk (fun consts ty => run_copy_blk (P := Try.prog) w1 (dT := 109) (sT := 109) (ty := ty) Try.underlying109 szE (g := w.heap.size) (o := i * 3) (dLen := l.length + 1 - i) (dCap := cap2 - i) (ad := ⟨nb, 0, none⟩) (sLen := 1) (sCap := 1) hB2.out (cs := extV x)
    (by rw [hd1]; rfl) (hBx.out.from (o := 0) (fun j u hu => by rw [Nat.zero_add]; exact hu)) hfit1 (extV_one x) consts)
  rw [hd1] at R1
  have hB3 := Aside.mk (hB2.out.setRow (splice (rowV (l.take i) ++ Z ++ rest2) (i * 3) (extV x)))
  have hB3g := Aside.mk (hBg.out.farRow (k := w.heap.size) (by omega) (splice (rowV (l.take i) ++ Z ++ rest2) (i * 3) (extV x)).toArray)
  have hC3 := Aside.mk (HC.out.setRow (g := w.heap.size) (.inr (Nat.le_refl _)) (splice (rowV (l.take i) ++ Z ++ rest2) (i * 3) (extV x)).toArray)
  obtain ⟨W2, hW2⟩ : ∃ W2, W2 = w1.setRow w.heap.size (splice (rowV (l.take i) ++ Z ++ rest2) (i * 3) (extV x)).toArray := ⟨_, rfl⟩
  rw [← hW2] at R1 hB3 hB3g hC3
  clear hW2
  have hl3 : (splice (rowV (l.take i) ++ Z ++ rest2) (i * 3) (extV x)).length = cap2 * 3 := by rw [length_splice _ _ _ hfit1]; exact HL2.out
  have hdd : (rowV (l.drop i)).length = (l.length - i) * 3 := by rw [rowV_length, List.length_drop]
  have hd2 : Nat.min (l.length - i) (l.length - i) = l.length - i := Nat.min_eq_left (Nat.le_refl _)
  have R2 := Aside.mk (fun consts ty => run_copy_blk (P := Try.prog) W2.drew (dT := 109) (sT := 109) (ty := ty) Try.underlying109 szE (g := w.heap.size) (o := (i + 1) * 3) (dLen := l.length - i) (dCap := cap2 - (i + 1)) (ad := ⟨g, i * 3, none⟩) (sLen := l.length - i) (sCap := cap - i) hB3.out.drew (cs := rowV (l.drop i))
    (by rw [hd2, hdd]) (hB3g.out.drew.from (fun j u hu => by
      rw [List.getElem?_append_left (by have := (List.getElem?_eq_some_iff.1 hu).1; rw [hdd] at this; rw [rowV_length]; omega), hsplit, List.getElem?_append_right (by omega), htl, show i * 3 + j - i * 3 = j by omega]
      exact hu)) (by rw [hl3, hdd]; omega) (oneExt _) consts)
  rw [hd2] at R2
  have hfin : splice (splice (rowV (l.take i) ++ Z ++ rest2) (i * 3) (extV x)) ((i + 1) * 3) (rowV (l.drop i)) = rowV (insAt l i x) ++ rest2 := by
    have e1 := splice_mid (rowV (l.take i)) (Z.take 3) (Z.drop 3 ++ rest2) (extV x) (by rw [List.length_take, hz, extV_length]; omega)
    rw [htl, ← List.append_assoc (Z.take 3), List.take_append_drop] at e1
    rw [List.append_assoc, e1, rowV_insAt]
    have e2 := splice_mid (rowV (l.take i) ++ extV x) (Z.drop 3) rest2 (rowV (l.drop i)) (by rw [List.length_drop, hz, hdd]; omega)
    rw [List.length_append, htl, extV_length, show i * 3 + 3 = (i + 1) * 3 by omega] at e2
    simpa only [List.append_assoc] using e2
  have hw := (IntWalk.i64_in ((i : Int) + 1) (by omega) : IntKind.i64.wrap ((i : Int) + 1) = ((i + 1 : Nat) : Int))
  have hfinA := Aside.mk hfin
  clear hfin hd1 hd2 hdd hl3 hfit1 hcl hz htl hsplit szE hik hkc
  have q7 : i + 1 ≤ l.length + 1 := by omega
  have q8 : i ≤ l.length := by omega
  have q9 : l.length + 1 ≤ cap2 := hn2
  have p1 : i + 1 ≤ cap2 := by omega
  have p2 : (0 : Int) ≤ (i : Int) + 1 := by omega
  go_enter Try.func65, Try.ntmps65
  go_wp2_with (first
    | (refine wpList_builtin2 _ (by rfl) .append _ _ _ (by rfl) (.slice (some ⟨g, 0, none⟩) i cap) (.int .i64 ((l.length : Int) + 1 - (i : Int))) (by rfl) (by rfl) _ _ (HR.out _) ?_)
    | (refine wpList_builtin2 _ (by rfl) .copy _ _ _ (by rfl) (.slice (some ⟨w.heap.size, i * 3, none⟩) (l.length + 1 - i) (cap2 - i)) (.slice (some ⟨nb, 0, none⟩) 1 1) (by rfl) (by rfl) _ _ (fun c => R1.out c _) ?_))
  refine region_tail 8 (by kernel_rfl) (by kernel_rfl) ?_
  simp only [List.take_succ_cons, List.take_zero, List.drop_succ_cons, List.drop_zero]
  repeat still_step
  refine wpStill_nil ?_
  refine wpList_builtin2 _ rfl .copy _ _ _ rfl (.slice (some ⟨w.heap.size, (i + 1) * 3, none⟩) (l.length - i) (cap2 - (i + 1))) (.slice (some ⟨g, i * 3, none⟩) (l.length - i) (cap - i)) rfl rfl _ _ (fun c => R2.out c _) ?_
  go_wp2
  go_ret
  have hf := hfinA.out
  refine ⟨_, rfl, ?_, rfl, hC3.out.drew.setRow (g := w.heap.size) (.inr (Nat.le_refl _)) _⟩
  have hB4 := hB3.out.drew.setRow (splice (splice (rowV (l.take i) ++ Z ++ rest2) (i * 3) (extV x)) ((i + 1) * 3) (rowV (l.drop i)))
  have hlf := congrArg List.length hf
  simp only [List.append_assoc] at hB4 hf hlf ⊢
  rw [hf] at hB4 ⊢
  have hl2 := HL2.out
  refine Row.mk hB4 (by rw [rowV_length, insAt_length (by omega)]) (by omega) HN2.out.2 ?_
  rw [← hlf, length_splice _ _ _ ?_, length_splice _ _ _ ?_]
  · simpa only [List.append_assoc] using hl2
  · rw [List.append_assoc] at hl2
    rw [hl2, extV_length]; omega
  · rw [List.append_assoc] at hl2
    rw [length_splice _ _ _ (by rw [hl2, extV_length]; omega), hl2, rowV_length, List.length_drop]; omega

theorem overlapsFalse {w : World} {a b : Addr} (la ca lb cb : Nat) (hne : a.block ≠ b.block) {tA tB : TypeId} {kA kB : Nat} (hsa : w.shape? a.block = some (tA, kA)) (hsb : w.shape? b.block = some (tB, kB)) (hkB : kB ≠ 0)
    (hfa : w.frozen? a = false) (hfe : w.frozen? { block := a.block, off := kA } = false) :
    (callFunc 112 #[.slice (some a) la ca, .slice (some b) lb cb]).run Try.prog w = .ok (.value (.bool false)) w := by
  rw [run_callFunc_extern Try.func112 (by kernel_rfl) (by kernel_rfl) (by kernel_rfl) (e := Extern.SlicesOverlaps.overlaps #[109, 109] #[4]) (by kernel_rfl),
    Lib.run_overlaps_apart w 109 4 114 Try.underlying109 3 sizeExt a b la ca lb cb hne tA tB kA kB hsa hsb hkB hfa hfe]
  rfl

set_option maxRecDepth 100000 in
theorem insert_shift {w : World} {l : List Ext} {g cap : Nat} {rest : List Value} (hb : Blk w g 114 (rowV l ++ rest)) (hcap : cap ≤ 9223372036854775807) (hlen : (rowV l ++ rest).length = cap * 3) (hl : l.length ≤ 1000000000)
    {i : Nat} (hi : i < l.length) (hroom : l.length + 1 ≤ cap) (x : Ext) {nb : Nat} (hx : Blk w nb 114 (extV x)) (hne : nb ≠ g) :
    Calls Try.prog 65 #[.slice (some ⟨g, 0, none⟩) l.length cap, .int .i64 (i : Int), .slice (some ⟨nb, 0, none⟩) 1 1] w fun e w' => e = .returned (.slice (some ⟨g, 0, none⟩) (l.length + 1) cap) ∧
      Row w' 114 3 (.slice (some ⟨g, 0, none⟩) (l.length + 1) cap) (l.length + 1) (rowV (insAt l i x)) ∧ Chg [g] w w' := by
  have hsplit : rowV l = rowV (l.take i) ++ rowV (l.drop i) := by rw [← rowV_append, List.take_append_drop]
  have htl : (rowV (l.take i)).length = i * 3 := by rw [rowV_length, List.length_take, Nat.min_eq_left (by omega)]
  have hdd : (rowV (l.drop i)).length = (l.length - i) * 3 := by rw [rowV_length, List.length_drop]
  have szE : (Try.prog.info? 114).map (·.size) = some 3 := by kernel_rfl
  have OV := Aside.mk (fun (lb cb : Nat) => overlapsFalse (w := w) (a := ⟨nb, 0, none⟩) (b := ⟨g, (i + 1) * 3, none⟩) 1 1 lb cb hne (blk_shape hx) (blk_shape hb) (by rw [hlen]; omega) (hx.frozen 0) (hx.frozen _))
  have hd1 : Nat.min (l.length + 1 - i) (l.length - i) = l.length - i := Nat.min_eq_right (by omega)
  have R1 := Aside.mk (fun consts ty => run_copy_blk (P := Try.prog) w.drew (dT := 109) (sT := 109) (ty := ty) Try.underlying109 szE (g := g) (o := (i + 1) * 3) (dLen := l.length - i) (dCap := cap - (i + 1)) (ad := ⟨g, i * 3, none⟩) (sLen := l.length + 1 - i) (sCap := cap - i) hb.drew (cs := rowV (l.drop i))
    (by rw [hd1, hdd]) (hb.drew.from (fun j u hu => by
      rw [List.getElem?_append_left (by have := (List.getElem?_eq_some_iff.1 hu).1; rw [hdd] at this; rw [rowV_length]; omega), hsplit, List.getElem?_append_right (by omega), htl, show i * 3 + j - i * 3 = j by omega]
      exact hu)) (by rw [hlen, hdd]; omega) (oneExt _) consts)
  rw [hd1] at R1
  have hl1 : (splice (rowV l ++ rest) ((i + 1) * 3) (rowV (l.drop i))).length = cap * 3 := by rw [length_splice _ _ _ (by rw [hlen, hdd]; omega)]; exact hlen
  have hB1 := Aside.mk (hb.drew.setRow (splice (rowV l ++ rest) ((i + 1) * 3) (rowV (l.drop i))))
  have hBx := Aside.mk (hx.drew.farRow hne (splice (rowV l ++ rest) ((i + 1) * 3) (rowV (l.drop i))).toArray)
  have hC1 := Aside.mk (((Chg.refl [g] w).drew).setRow (g := g) (by simp) (splice (rowV l ++ rest) ((i + 1) * 3) (rowV (l.drop i))).toArray)
  obtain ⟨W1, hW1⟩ : ∃ W1, W1 = w.drew.setRow g (splice (rowV l ++ rest) ((i + 1) * 3) (rowV (l.drop i))).toArray := ⟨_, rfl⟩
  rw [← hW1] at R1 hB1 hBx hC1
  clear hW1
  have hd2 : Nat.min 1 (l.length + 1 - i) = 1 := Nat.min_eq_left (by omega)
  have R2 := Aside.mk (fun consts ty => run_copy_blk (P := Try.prog) W1 (dT := 109) (sT := 109) (ty := ty) Try.underlying109 szE (g := g) (o := i * 3) (dLen := l.length + 1 - i) (dCap := cap - i) (ad := ⟨nb, 0, none⟩) (sLen := 1) (sCap := 1) hB1.out (cs := extV x)
    (by rw [hd2]; rfl) (hBx.out.from (o := 0) (fun j u hu => by rw [Nat.zero_add]; exact hu)) (by rw [hl1, extV_length]; omega) (extV_one x) consts)
  rw [hd2] at R2
  have hrl : 3 ≤ rest.length := by rw [List.length_append, rowV_length] at hlen; omega
  have hfin : splice (splice (rowV l ++ rest) ((i + 1) * 3) (rowV (l.drop i))) (i * 3) (extV x) = rowV (insAt l i x) ++ rest.drop 3 := by
    have e0 : rowV l ++ rest = (rowV (l.take i) ++ (rowV (l.drop i) ++ rest).take 3) ++ (((rowV (l.drop i) ++ rest).drop 3).take ((l.length - i) * 3) ++ ((rowV (l.drop i) ++ rest).drop 3).drop ((l.length - i) * 3)) := by
      rw [List.take_append_drop, List.append_assoc, List.take_append_drop, hsplit, List.append_assoc]
    have e1 := splice_mid (rowV (l.take i) ++ (rowV (l.drop i) ++ rest).take 3) (((rowV (l.drop i) ++ rest).drop 3).take ((l.length - i) * 3)) (((rowV (l.drop i) ++ rest).drop 3).drop ((l.length - i) * 3)) (rowV (l.drop i))
      (by rw [List.length_take, List.length_drop, List.length_append, hdd]; omega)
    rw [← e0, List.length_append, htl, List.length_take, List.length_append, hdd, Nat.min_eq_left (by omega), show i * 3 + 3 = (i + 1) * 3 by omega] at e1
    rw [e1, rowV_insAt, List.append_assoc]
    have e2 := splice_mid (rowV (l.take i)) ((rowV (l.drop i) ++ rest).take 3) (rowV (l.drop i) ++ ((rowV (l.drop i) ++ rest).drop 3).drop ((l.length - i) * 3)) (extV x) (by rw [List.length_take, List.length_append, hdd, extV_length]; omega)
    rw [htl] at e2
    have e3 : ((rowV (l.drop i) ++ rest).drop 3).drop ((l.length - i) * 3) = rest.drop 3 := by
      rw [List.drop_drop, ← hdd, Nat.add_comm 3, List.drop_append, List.drop_eq_nil_of_le (Nat.le_add_right (rowV (l.drop i)).length 3), List.nil_append, show (rowV (l.drop i)).length + 3 - (rowV (l.drop i)).length = 3 by omega]
    rw [e2, e3]
    simp only [List.append_assoc]
  have hfinA := Aside.mk hfin
  have hw := (IntWalk.i64_in ((i : Int) + 1) (by omega) : IntKind.i64.wrap ((i : Int) + 1) = ((i + 1 : Nat) : Int))
  have HL := Aside.mk hlen
  have HC := Aside.mk hcap
  clear hfin hd1 hd2 hdd hl1 htl hsplit szE hlen hb hx hcap hrl
  have q1 : i ≤ cap := by omega
  have q2 : ¬ cap = i := by omega
  have q3 : (l.length : Int) ≤ (cap : Int) := by omega
  have q5 : ¬ cap = i + 1 := by omega
  have q6 : ¬ ((i : Int) = (l.length : Int)) := by omega
  have q7 : i + 1 ≤ l.length + 1 := by omega
  have q8 : i ≤ l.length + 1 := by omega
  have p1 : i + 1 ≤ cap := by omega
  have p2 : (0 : Int) ≤ (i : Int) + 1 := by omega
  have p3 : (l.length : Int) + 1 ≤ (cap : Int) := by omega
  have p4 : i ≤ l.length := by omega
  have p5 : (i : Int) ≤ (l.length : Int) + 1 := by omega
  go_enter Try.func65, Try.ntmps65
  go_wp2_with (simp only [OV.out])
  refine region_tail 8 (by kernel_rfl) (by kernel_rfl) ?_
  simp only [List.take_succ_cons, List.take_zero, List.drop_succ_cons, List.drop_zero]
  repeat still_step
  refine wpStill_nil ?_
  refine wpList_builtin2 _ rfl .copy _ _ _ rfl (.slice (some ⟨g, (i + 1) * 3, none⟩) (l.length - i) (cap - (i + 1))) (.slice (some ⟨g, i * 3, none⟩) (l.length + 1 - i) (cap - i)) rfl rfl _ _ (fun c => R1.out c _) ?_
  go_wp2_with (refine wpList_builtin2 _ (by rfl) .copy _ _ _ (by rfl) (.slice (some ⟨g, i * 3, none⟩) (l.length + 1 - i) (cap - i)) (.slice (some ⟨nb, 0, none⟩) 1 1) (by rfl) (by rfl) _ _ (fun c => R2.out c _) ?_)
  go_ret
  have hf := hfinA.out
  have hB2 := hB1.out.setRow (splice (splice (rowV l ++ rest) ((i + 1) * 3) (rowV (l.drop i))) (i * 3) (extV x))
  refine ⟨rfl, ?_, hC1.out.setRow (g := g) (by simp) _⟩
  rw [hf] at hB2 ⊢
  have hl2 := HL.out
  rw [List.length_append, rowV_length] at hl2
  refine Row.mk hB2 (by rw [rowV_length, insAt_length (by omega)]) hroom HC.out ?_
  rw [List.length_append, rowV_length, insAt_length (by omega), List.length_drop]
  omega

/-- slices.Insert of one extent. -/
theorem insert_calls {w : World} {v : Value} {l : List Ext} (h : Row w 114 3 v l.length (rowV l)) (hl : l.length ≤ 1000000000) {i : Nat} (hi : i ≤ l.length) (x : Ext) {nb : Nat} (hx : Blk w nb 114 (extV x)) (hne : v.ownBlock ≠ some nb) :
    Calls Try.prog 65 #[v, .int .i64 (i : Int), .slice (some ⟨nb, 0, none⟩) 1 1] w fun e w' => ∃ v', e = .returned v' ∧ Row w' 114 3 v' (insAt l i x).length (rowV (insAt l i x)) ∧
      SameNew w v v' ∧ Chg v.ownBlock.toList w w' := by
  rw [insAt_length hi]
  by_cases c : i = l.length
  · subst c
    refine (insert_end h hl x hx).mono ?_
    rintro e w' ⟨v', rfl, h1, h2, h3⟩
    refine ⟨v', rfl, ?_, h2, h3⟩
    rw [rowV_insAt, List.take_length, List.drop_length]
    simpa [rowV] using h1
  · rcases h.cases with ⟨rfl, h2, _⟩ | ⟨g, cap, rest, rfl, hb, hn, hcap, hlen⟩
    · omega
    · by_cases d : l.length + 1 ≤ cap
      · refine (insert_shift hb hcap hlen hl (by omega) d x hx (fun e => hne (by rw [e]; rfl))).mono ?_
        rintro e w' ⟨rfl, h1, h2⟩
        exact ⟨_, rfl, h1, .inl rfl, h2.mono (by simp [Value.ownBlock])⟩
      · refine (insert_grow hb hn hcap hlen hl (by omega) (by omega) x hx).mono ?_
        rintro e w' ⟨v', rfl, h1, h2, h3⟩
        exact ⟨v', rfl, h1, .inr h2, h3.mono (by simp)⟩
end Go.Proofs.Ytgimcpnelogadaa.Sto
