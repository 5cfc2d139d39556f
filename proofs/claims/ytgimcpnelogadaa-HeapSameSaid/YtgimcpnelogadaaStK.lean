/- Chapter 5, the store, by hand: Give. -/
import Derived.Test.YtgimcpnelogadaaStJ
namespace Go.Proofs.Ytgimcpnelogadaa.Sto
open Go.RowKit Go.Proofs.Ytgimcpnelogadaa.Mem
set_option linter.unusedVariables false
set_option linter.unusedSimpArgs false

theorem give_none {w : World} {p : Nat} {s : St} {F : List Nat} (h : Sto w p s F) (k : Int) (hk : I64 k) (hn : atOf s.all k = none) :
    Calls Try.prog 26 #[.pointer (some ⟨p, 0, none⟩), .int .i64 k] w fun e w' => e = .returned (.int .i64 30) ∧ w = w' := by
  have C := Aside.mk (find_none h k hk hn)
  clear h hn hk
  go_enter Try.func26, Try.ntmps26
  go_wp2_with (go_at_call 67; (with_reducible refine C.out.mono ?_); rintro e w' ⟨rfl, rfl⟩)
  go_ret
  exact ⟨rfl, rfl⟩

/-- The state behind giving back the i-th extent. -/
def St.gave (s : St) (i : Nat) : St := { s with all := s.all.eraseIdx i, used := s.used - up (s.all.getD i default).len }

theorem atOf_erase {l : List Ext} (hn : (l.map Ext.id).Nodup) {i : Nat} (hi : i < l.length) (k : Int) : atOf (l.eraseIdx i) k = if k = (l[i].id : Int) then none else atOf l k := by
  have hn' : ((l.eraseIdx i).map Ext.id).Nodup := hn.sublist ((List.eraseIdx_sublist _ _).map _)
  split
  · rename_i e
    subst e
    refine atOf_none fun x hx e => ?_
    obtain ⟨j, hj, rfl⟩ := List.getElem_of_mem hx
    rw [List.getElem_eraseIdx] at e
    rw [List.length_eraseIdx_of_lt hi] at hj
    rw [List.Nodup, List.pairwise_iff_getElem] at hn
    split at e
    · have := hn j i (by simp; omega) (by simpa using hi) (by omega)
      simp at this; omega
    · have := hn i (j + 1) (by simpa using hi) (by simp; omega) (by omega)
      simp at this; omega
  · rename_i e
    by_cases c : ∃ x ∈ l, (x.id : Int) = k
    · obtain ⟨x, hx, rfl⟩ := c
      rw [atOf_some hn hx]
      refine atOf_some hn' ?_
      obtain ⟨j, hj, rfl⟩ := List.getElem_of_mem hx
      rw [List.mem_eraseIdx_iff_getElem]
      exact ⟨j, hj, fun h => e (by subst h; rfl), rfl⟩
    · rw [atOf_none (fun x hx e' => c ⟨x, hx, e'⟩), atOf_none (fun x hx e' => c ⟨x, (List.eraseIdx_sublist _ _).subset hx, e'⟩)]

set_option maxRecDepth 100000 in
theorem give_some {w : World} {p mb : Nat} {s : St} {rawv allv : Value} (h : StoAt w p s rawv allv mb) (ho : Ok s) (hl : s.all.length ≤ 1000000000) (hr : s.raw.length ≤ 1000000000000) (hmost : s.most ≤ 1000000000000) {i : Nat} (hi : i < s.all.length) (hk : I64 (s.all[i].id : Int)) :
    Calls Try.prog 26 #[.pointer (some ⟨p, 0, none⟩), .int .i64 (s.all[i].id : Int)] w fun e w' => ∃ allv', e = .returned (.int .i64 0) ∧ StoAt w' p (s.gave i) rawv allv' mb ∧ allv'.ownBlock = allv.ownBlock ∧ Chg (foot p rawv allv mb) w w' := by
  have C := Aside.mk (find_some ⟨_, _, _, h, rfl⟩ ho hl hi hk)
  have hin := ho.lay.inside _ (List.getElem_mem hi)
  have hup := up_ge s.all[i].len
  have HU := Aside.mk (fun (w : World) => up_calls s.all[i].len w (by omega))
  have hut : up s.all[i].len ≤ s.used := by
    rw [ho.used]
    have := congrArg total (show s.all = s.all.take i ++ s.all[i] :: s.all.drop (i + 1) by rw [← List.drop_eq_getElem_cons hi, List.take_append_drop])
    rw [total_append, total_cons] at this
    omega
  have hum : s.used ≤ 1000000000000 := by have := ho.most; omega
  have H := Aside.mk h
  have HI := Aside.mk ho.lay.ids
  have HK := Aside.mk hk
  obtain ⟨N, hN⟩ : ∃ N, N = s.all[i].len := ⟨_, rfl⟩
  have HN := Aside.mk hN
  obtain ⟨U, hU⟩ : ∃ U, U = up s.all[i].len := ⟨_, rfl⟩
  rw [← hU, ← hN] at HU
  rw [← hU] at hut
  have HUU := Aside.mk hU
  have HL := Aside.mk hl
  clear h ho hr hk hin hup hmost hN hU
  go_enter Try.func26, Try.ntmps26
  go_wp2_with (go_at_call 67; (with_reducible refine C.out.mono ?_); rintro e w1 ⟨rfl, hc⟩)
  have H1 := Aside.mk (H.out.chg hc (by simp))
  obtain ⟨g, cap, rfl, e0, e1, e2⟩ := H1.out.ext hi
  have k1 := H1.out.c1
  have k3 := H1.out.c3
  have f3 := H1.out.cells.frozen 3
  rw [← HN.out] at e2
  clear e0 e1
  have hi' : (i : Int) < (s.all.length : Int) := by omega
  refine region_tail 16 (by kernel_rfl) (by kernel_rfl) ?_
  simp only [List.take_succ_cons, List.take_zero, List.drop_succ_cons, List.drop_zero]
  repeat (first | still_step | still_call (calls_same (HU.out _)))
  refine wpStill_nil ?_
  have HP2 := Aside.mk ((H1.out.cells.set 3 (.int .i64 ((s.used : Int) - (U : Int)))).drew)
  have hpa : (Value.slice (some ⟨g, 0, none⟩) s.all.length cap).ownBlock ≠ some p := H1.out.p_all
  have HA2 := Aside.mk ((H1.out.all.farCell (p := ⟨p, 3, none⟩) hpa (.int .i64 ((s.used : Int) - (U : Int)))).drew)
  have HR2 := Aside.mk ((H1.out.raw.farCell (p := ⟨p, 3, none⟩) H1.out.p_raw (.int .i64 ((s.used : Int) - (U : Int)))).drew)
  have HM2 := Aside.mk ((H1.out.by_.farCell (p := ⟨p, 3, none⟩) (fun e => H1.out.p_mb e.symm) (.int .i64 ((s.used : Int) - (U : Int)))).drew)
  have HC2 := Aside.mk (((hc.mono (G := foot p rawv (.slice (some ⟨g, 0, none⟩) s.all.length cap) mb) (by simp)).setCell (p := ⟨p, 3, none⟩) (.inl (mem_foot.2 (.inl rfl))) (.int .i64 ((s.used : Int) - (U : Int)))).drew)
  generalize hW : (w1.setCell ⟨p, 3, none⟩ (.int .i64 ((s.used : Int) - (U : Int)))).drew = W2 at HP2 HA2 HR2 HM2 HC2
  have HW := Aside.mk hW
  clear hW
  have CD := Aside.mk (delete_calls HA2.out hl hi rfl)
  rw [show ((i + 1 : Nat) : Int) = (i : Int) + 1 from rfl] at CD
  have hpg : p ∉ (Value.slice (some ⟨g, 0, none⟩) s.all.length cap).ownBlock.toList := by simpa [Value.ownBlock] using fun e => hpa (by rw [e]; rfl)
  have hmg : mb ∉ (Value.slice (some ⟨g, 0, none⟩) s.all.length cap).ownBlock.toList := by simpa [Value.ownBlock] using fun e => H1.out.mb_all (by rw [e]; rfl)
  have hmp : mb ≠ p := fun e => H1.out.p_mb e.symm
  go_wp2_with (first
    | (go_at_call 68; rw [HW.out]; (with_reducible refine CD.out.mono ?_); rintro e w3 ⟨v', rfl, hA3, ho3, hc3⟩; obtain ⟨a3, cp3, rfl⟩ := Row_form hA3; have HP3 := Aside.mk (HP2.out.chg hc3 hpg); have c3 : w3.cell? ⟨p, 1, none⟩ = some (.slice (some ⟨g, 0, none⟩) s.all.length cap) := HP3.out.cellAt rfl; have d3 : w3.cell? ⟨p, 2, none⟩ = some (.map (some mb)) := HP3.out.cellAt rfl; have f3 := HP3.out.frozen 1; obtain ⟨w5, hrun, hM5, hc5⟩ := ((HM2.out.chg hc3 hmg).farCell (p := ⟨p, 1, none⟩) hmp (.slice a3 (s.all.eraseIdx i).length cp3)).drops Try.underlying52 Try.underlying3 (s.all[i].id : Int) HK.out.wf; have HRUN := Aside.mk hrun; clear hrun)
    | (refine wpList_builtin2 _ (by rfl) .delete _ _ _ (by rfl) (.map (some mb)) (.int .i64 (s.all[i].id : Int)) (by rfl) (by rfl) _ _ (HRUN.out _) ?_))
  go_ret
  refine ⟨.slice a3 (s.all.eraseIdx i).length cp3, rfl, ⟨?_, ?_, ?_, ?_⟩, ho3, ?_⟩
  · have h5 := (HP3.out.set 1 (.slice a3 (s.all.eraseIdx i).length cp3)).chg hc5 (by simpa using H1.out.p_mb)
    have eU : ((s.gave i).used : Int) = (s.used : Int) - (U : Int) := by
      show ((s.used - up (s.all.getD i default).len : Nat) : Int) = _
      rw [List.getD_eq_getElem?_getD, List.getElem?_eq_getElem hi, Option.getD_some, ← HUU.out]
      omega
    unfold stV
    rw [eU]
    exact h5
  · refine ((HR2.out.chg hc3 ?_).farCell H1.out.p_raw _).chg hc5 ?_
    · intro k hk
      simpa [Value.ownBlock] using fun e => H1.out.raw_all hk (by rw [e]; rfl)
    · intro k hk
      simpa using fun e => H1.out.mb_raw (by rw [hk, e])
  · refine (hA3.farCell (by rw [ho3]; exact hpa) _).chg hc5 ?_
    intro k hk
    rw [ho3] at hk
    simpa using fun e => H1.out.mb_all (by rw [hk, e])
  · refine (hM5.congr (fun k hk => atOf_erase HI.out hi k)).tight Try.underlying3 ((s.all.eraseIdx i).map fun x => (x.id : Int)) ?_ |>.mono (by simp [St.gave])
    intro k hk
    obtain ⟨x, hx, rfl⟩ := atOf_isSome hk
    exact List.mem_map_of_mem hx
  · refine ((HC2.out.trans (hc3.mono ?_)).setCell (p := ⟨p, 1, none⟩) (.inl (mem_foot.2 (.inl rfl))) _).trans (hc5.mono ?_)
    · intro k hk
      exact mem_foot.2 (.inr (.inr (.inr (by simpa [Option.mem_toList] using hk))))
    · intro k hk
      exact mem_foot.2 (.inr (.inl (by simpa using hk)))
end Go.Proofs.Ytgimcpnelogadaa.Sto
