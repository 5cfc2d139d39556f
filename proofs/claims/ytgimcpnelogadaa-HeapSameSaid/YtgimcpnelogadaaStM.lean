/- Chapter 5, the store, by hand: gap. -/
import Derived.Test.YtgimcpnelogadaaStL
import Derived.Test.YtgimcpnelogadaaMemC
namespace Go.Proofs.Ytgimcpnelogadaa.Sto
open Go.RowKit Go.Shelf Go.Proofs.Ytgimcpnelogadaa.Mem
set_option linter.unusedVariables false
set_option linter.unusedSimpArgs false
attribute [local go_sem] Oper.semAt_some

theorem extents_calls (p : Nat) (w : World) : Calls Try.prog 34 #[.pointer (some ⟨p, 0, none⟩)] w fun e w' =>
    e = .returned (.func (.func 77) #[] #[.pointer (some ⟨w.heap.size, 0, none⟩)]) ∧ w' = w.alloc (.cells #[.pointer (some ⟨p, 0, none⟩)] 23) := by
  go_enter Try.func34, Try.ntmps34
  go_wp2
  go_ret
  exact ⟨rfl, rfl⟩

theorem wide_scope {n : Nat} {P : Program} {c : Code} {Q : Exit → Act → World → Prop} {a : Act} {w : World} (h : c.wpIn Fence.wide n P (Exit.noGoto Q) a w) : (Code.scope c).wpIn Fence.wide n P Q a w :=
  wpIn_wide.2 (wp_scope_straight (wpIn_wide.1 h))
/-- What is told by cells stays where a walk's own record turns. -/
theorem blk_own {β : Type} (f : β → Nat) (t : β → TypeId) (cs : β → List Value) : Own (fun s W => Blk W (f s) (t s) (cs s)) := fun s X Y row hs hg hr =>
  hs.keep (hg.block _ hs.lt (fun e => by
    obtain ⟨o, ho, hc⟩ := hr _ e.symm
    have := hs.symm.trans ho
    cases this
    cases hc))
theorem chg_own {β : Type} (F : List Nat) (w : World) {B : Nat} (hB : w.heap.size ≤ B) : OwnFrom B (fun (_ : β) W => Chg F w W) := fun s X Y row hs hg hr =>
  hs.then (G := row.toList) (Chg.of_grown hg (fun k hk => .inl (by simp [hk]))) (fun x hx => by
    cases row with
    | none => simp at hx
    | some r => simp at hx; subst hx; exact .inr (Nat.le_trans hB (hr _ rfl).1))

theorem Chg_putObj {F : List Nat} {w W : World} (h : Chg F w W) {D : Nat} (hD : w.heap.size ≤ D) (o : Obj) : Chg F w (W.putObj D o) :=
  h.then (G := [D]) (Chg.of_grown (grownBy_putObj' W D o) (fun k hk => .inl (by cases hk; simp))) (fun x hx => .inr (by simp at hx; omega))
/-- How a store lies, whatever its counters say. -/
structure Lies (s : St) : Prop where
  lay : Lay s.all s.raw.length
theorem Ok.lies {s : St} (h : Ok s) : Lies s := ⟨h.lay⟩
set_option maxRecDepth 100000 in
theorem gap_calls {w : World} {p : Nat} {s : St} {F : List Nat} (h : Sto w p s F) (ho : Lies s) (hl : s.all.length ≤ 1000000000) (hr : s.raw.length ≤ 1000000000000) (need : Nat) (hneed : need ≤ 1000000000000) :
    Calls Try.prog 62 #[.pointer (some ⟨p, 0, none⟩), .int .i64 (need : Int)] w fun e w' => e = .returned (.int .i64 (gapGo need 0 s.all : Nat)) ∧ Chg [] w w' := by
  obtain ⟨rawv, allv, mb, h, rfl⟩ := h
  refine (callsIn_wide (n := 9)).1 ?_
  refine callsIn_of_wp_marks Try.func62 rfl trivial ?_ rfl
  simp only [Try.ntmps62, List.size_toArray, List.length_cons, List.length_nil, Nat.reduceAdd, Nat.reduceSub, Array.replicate_succ, Array.replicate_zero, List.push_toArray, List.append_toArray, List.nil_append, List.cons_append]
  gi_wp2
  refine wide_scope ?_
  gi_wp2
  apply wpIn_label
  gi_wp2_with (refine ⟨trivial, ?_⟩; gi_at_call 34; refine (callsIn_wide.2 (extents_calls p _)).mono ?_; rintro e w' ⟨rfl, rfl⟩)
  obtain ⟨W0, hW0⟩ : ∃ W0, W0 = (((w.alloc (.cells #[.int .i64 (need : Int)] 3)).alloc (.cells #[.int .i64 0] 3)).alloc (.cells #[.pointer (some ⟨p, 0, none⟩)] 23)) := ⟨_, rfl⟩
  rw [← hW0]
  have hn0 : Blk W0 w.heap.size 3 [.int .i64 (need : Int)] := by rw [hW0]; exact ((Blk.newL _ rfl).alloc _).alloc _
  have he0 : Blk W0 (w.heap.size + 1) 3 [.int .i64 0] := by rw [hW0]; exact (Blk.newL _ (by simp)).alloc _
  have hb0 : Blk W0 (w.heap.size + 1 + 1) 23 [.pointer (some ⟨p, 0, none⟩)] := by rw [hW0]; exact Blk.newL _ (by simp)
  have hc0 : Chg [] w W0 := by rw [hW0]; exact (((Chg.refl _ _).alloc _).alloc _).alloc _
  have hs0 : W0.heap.size = w.heap.size + 3 := by rw [hW0]; simp
  have hA0 := h.chg hc0 (by simp)
  clear hW0
  have HIn := Aside.mk ho.lay.inside
  have HR := Aside.mk hr
  refine wpIn_rangeFunc_ownH (α := { x : Ext // x ∈ s.all }) rfl (by omega) (gf := 77) (lb := #[.pointer (some ⟨w.heap.size + 1 + 1, 0, none⟩)]) rfl trivial (enters_of Try.func77 (by kernel_rfl) rfl)
    (ext_stops Subtype.val s.all.attach (9 - 1) (by omega) W0.heap.size (w.heap.size + 1 + 1) p (List.attach_map_subtype_val s.all) W0 (Nat.le_refl _) (hb0.cellAt rfl) hA0.c1 hA0.all hl) KpE.trans (fun W l o o' _ h1 h2 _ => KpE.put W l o o' h1 h2) (Below.refl _ _) (fun _ => rfl)
    (fun (pre : List { x : Ext // x ∈ s.all }) W => (∃ e : Nat, Blk W (w.heap.size + 1) 3 [.int .i64 (e : Int)] ∧ e ≤ 1000000000000 ∧ ∀ rest, gapGo need 0 (pre.unattach ++ rest) = gapGo need e rest) ∧ Blk W w.heap.size 3 [.int .i64 (need : Int)] ∧ Chg [] w W)
    (fun c (pre : List { x : Ext // x ∈ s.all }) W => c = .exit 0 ∧ (∃ e : Nat, Blk W (w.heap.size + 1) 3 [.int .i64 (e : Int)] ∧ ∀ rest, gapGo need 0 (pre.unattach ++ rest) = e) ∧ Chg [] w W)
    ?ownI (fun c => ?ownX) ⟨⟨0, he0, by omega, fun _ => rfl⟩, hn0, hc0⟩
    (fun (x : { x : Ext // x ∈ s.all }) a' W => ∃ tb, Blk W tb 114 (extV x.1) ∧ a' = { tmps := #[.pointer (some ⟨p, 0, none⟩), .int .i64 (need : Int), undef, .pointer (some ⟨w.heap.size, 0, none⟩), .int .i64 0, .pointer (some ⟨w.heap.size + 1, 0, none⟩), .pointer (some ⟨tb, 0, none⟩), .pointer (some ⟨p, 0, none⟩), .func (.func 77) #[] #[.pointer (some ⟨w.heap.size + 1 + 1, 0, none⟩)], .agg #[.int .i64 (x.1.id : Int), .int .i64 (x.1.at_ : Int), .int .i64 (x.1.len : Int)], undef, undef, undef, undef, undef, undef, undef, undef, undef, undef, undef, undef, undef, undef, undef], defers := [] })
    (fun x a' => ?ownA) ?assign ?body ?done ?stop
  case ownI =>
    intro pre X Y row ⟨⟨e, h1, h2, h3⟩, h4, h5⟩ hg hr
    exact ⟨⟨e, blk_own (fun (_ : Unit) => _) (fun _ => _) (fun _ => _) () X Y row h1 hg (fun r e => (hr r e).2), h2, h3⟩, blk_own (fun (_ : Unit) => _) (fun _ => _) (fun _ => _) () X Y row h4 hg (fun r e => (hr r e).2), chg_own [] w (B := W0.heap.size) (by omega) () X Y row h5 hg hr⟩
  case ownX =>
    intro pre X Y row ⟨h0, ⟨e, h1, h3⟩, h5⟩ hg hr
    exact ⟨h0, ⟨e, blk_own (fun (_ : Unit) => _) (fun _ => _) (fun _ => _) () X Y row h1 hg (fun r e => (hr r e).2), h3⟩, chg_own [] w (B := W0.heap.size) (by omega) () X Y row h5 hg hr⟩
  case ownA =>
    intro _ X Y row ⟨tb, h1, h2⟩ hg hr
    exact ⟨tb, blk_own (fun (_ : Unit) => _) (fun _ => _) (fun _ => _) () X Y row h1 hg (fun r e => (hr r e).2), h2⟩
  case assign =>
    rintro l pre ⟨x, hx⟩ W K ⟨⟨e, h1, h2, h3⟩, h4, h5⟩ hK
    gi_wp2
    exact hK _ _ (((KeepsOthers.alloc W _)).from _) (fun k cs _ hb => hb.alloc _) ⟨⟨e, h1.alloc _, h2, h3⟩, h4.alloc _, h5.alloc _⟩ ⟨W.heap.size, Blk.newL (extV x) rfl, rfl⟩
  case body =>
    rintro l pre ⟨x, hx⟩ a' W hl0 ⟨r, hr0⟩ ⟨⟨e, h1, h2, h3⟩, h4, h5⟩ ⟨tb, hbx, rfl⟩ hlt
    have x0 := hbx.cellAt (i := 0) rfl
    have x1 := hbx.cellAt (i := 1) rfl
    have x2 := hbx.cellAt (i := 2) rfl
    have e0 := h1.cellAt (i := 0) rfl
    have f0 := h1.frozen 0
    have n0 := h4.cellAt (i := 0) rfl
    have hin := HIn.out x hx
    have hup := up_ge x.len
    have hxa : x.at_ ≤ 1000000000000 := by have := HR.out; omega
    have hxl : x.len ≤ 1000000000000 := by have := HR.out; omega
    have HU := Aside.mk (fun (w : World) => up_calls x.len w hxl)
    have hxu : x.at_ + up x.len ≤ 1000000000000 := by have := HR.out; omega
    obtain ⟨U, hU⟩ : ∃ U, U = up x.len := ⟨_, rfl⟩
    rw [← hU] at HU hxu
    have HUU := Aside.mk hU
    clear hU
    by_cases c : e + need ≤ x.at_
    · have c' : (need : Int) ≤ (x.at_ : Int) - (e : Int) := by omega
      clear hin hup
      gi_wp2
      exact ⟨KeepsFrom.refl _ _, ⟨rfl, ⟨e, h1, fun rest => by rw [List.unattach_append, List.append_assoc, h3]; simp [gapGo, c]⟩, h5⟩⟩
    · have c' : (x.at_ : Int) - (e : Int) < (need : Int) := by omega
      clear hin hup
      gi_wp2
      have hw : IntKind.i64.wrap ((x.at_ : Int) + (U : Int)) = ((x.at_ + U : Nat) : Int) := IntWalk.i64_in _ (by omega)
      refine region_tailIn 8 (by kernel_rfl) (by kernel_rfl) (by kernel_rfl) ?_
      simp only [List.take_succ_cons, List.take_zero, List.drop_succ_cons, List.drop_zero]
      repeat (first | still_step | still_call (calls_same (HU.out _)))
      have hmx : (if (e : Int) < (x.at_ : Int) + (U : Int) then (x.at_ : Int) + (U : Int) else (e : Int)) = ((max e (x.at_ + U) : Nat) : Int) := by split <;> omega
      rw [hmx]
      refine wpStill_nil ?_
      gi_wp2
      refine ⟨?_, ?_, ⟨max e (x.at_ + U), (h1.drew.set 0 _), by omega, fun rest => ?_⟩, ?_, ?_⟩
      · exact (KeepsOthers.drew W).trans (KeepsOthers.setCell _ _ _) |>.from _
      · intro k cs hk hb
        refine hb.drew.far (p := ⟨w.heap.size + 1, 0, none⟩) ?_ _
        show k ≠ w.heap.size + 1
        omega
      · rw [List.unattach_append, List.append_assoc, h3]
        simp [gapGo, c, HUU.out]
      · exact h4.drew.far (p := ⟨w.heap.size + 1, 0, none⟩) (by show w.heap.size ≠ w.heap.size + 1; omega) _
      · exact h5.drew.setCell (p := ⟨w.heap.size + 1, 0, none⟩) (.inr (by show w.heap.size ≤ w.heap.size + 1; omega)) _
  case done =>
    rintro D ys W hD rfl ⟨⟨e, h1, h2, h3⟩, h4, h5⟩ hK
    have e0 := h1.cellAt (i := 0) rfl
    gi_wp2
    rw [Exit.noGoto_ret]
    refine ⟨by simp, .inl ⟨_, _, rfl, run_takeDeferred hK, ?_⟩⟩
    refine ⟨.int .i64 (e : Int), by simp [results, Try.f62, go_sem], ret_int ?_, Chg_putObj h5 (by omega) _⟩
    have := h3 []
    simp [gapGo] at this
    rw [this]
  case stop =>
    rintro D c pre W hD hpre ⟨rfl, ⟨e, h1, h3⟩, h5⟩ hK
    have e0 := h1.cellAt (i := 0) rfl
    gi_wp2
    rw [Exit.noGoto_ret]
    refine ⟨by simp, .inl ⟨_, _, rfl, run_takeDeferred hK, ?_⟩⟩
    refine ⟨.int .i64 (e : Int), by simp [results, Try.f62, go_sem], ret_int ?_, Chg_putObj h5 (by omega) _⟩
    obtain ⟨t, ht⟩ := hpre
    have := h3 t.unattach
    rw [← List.unattach_append, ht] at this
    simp at this
    rw [this]
end Go.Proofs.Ytgimcpnelogadaa.Sto
