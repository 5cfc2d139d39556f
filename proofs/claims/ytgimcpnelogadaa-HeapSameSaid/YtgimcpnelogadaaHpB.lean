/- Chapter 6: a heap in memory: its laws; find, sound. -/
import Derived.Test.YtgimcpnelogadaaHpA
namespace Go.Proofs.Ytgimcpnelogadaa.Hp
open Go.RowKit Go.Proofs.Ytgimcpnelogadaa.Mem Go.Proofs.Ytgimcpnelogadaa.Sto Go.Proofs.Ytgimcpnelogadaa.Wd
set_option linter.unusedVariables false
set_option linter.unusedSimpArgs false

section
variable {w w' : World} {p units used rp most : Nat} {M : List (Option MC)} {cv : Value} {F G : List Nat}
theorem mem_hfoot {k : Nat} : k ∈ hfoot p cv M F ↔ k = p ∨ cv.ownBlock = some k ∨ (∃ m, some m ∈ M ∧ m.blk = k) ∨ (∃ m, some m ∈ M ∧ m.wv.ownBlock = some k) ∨ k ∈ F := by
  simp only [hfoot, List.mem_cons, List.mem_append, Option.mem_toList, blks, owns, List.mem_filterMap, Option.map_eq_some_iff, Option.bind_eq_some_iff]
  refine or_congr Iff.rfl (or_congr Iff.rfl (or_congr ?_ (or_congr ?_ Iff.rfl)))
  · constructor
    · rintro ⟨_, h, m, rfl, e⟩; exact ⟨m, h, e⟩
    · rintro ⟨m, h, e⟩; exact ⟨_, h, m, rfl, e⟩
  · constructor
    · rintro ⟨_, h, m, rfl, e⟩; exact ⟨m, h, e⟩
    · rintro ⟨m, h, e⟩; exact ⟨_, h, m, rfl, e⟩
theorem HeapAt.lt (h : HeapAt w p units used M cv rp F most) : ∀ k ∈ hfoot p cv M F, k < w.heap.size := by
  intro k hk
  rcases mem_hfoot.1 hk with rfl | hk | ⟨m, hm, rfl⟩ | ⟨m, hm, hk⟩ | hk
  · exact h.top.lt
  · exact h.row.lt hk
  · exact (h.cells m hm).lt
  · exact (h.words m hm).lt hk
  · exact h.raw.lt k hk
theorem HeapAt.chg (h : HeapAt w p units used M cv rp F most) (hc : Chg G w w') (hG : ∀ k ∈ hfoot p cv M F, k ∉ G) : HeapAt w' p units used M cv rp F most :=
  ⟨h.top.chg hc (hG p (mem_hfoot.2 (.inl rfl))), h.row.chg hc fun k hk => hG k (mem_hfoot.2 (.inr (.inl hk))), fun m hm => (h.cells m hm).chg hc (hG _ (mem_hfoot.2 (.inr (.inr (.inl ⟨m, hm, rfl⟩))))),
    fun m hm => (h.words m hm).chg hc fun k hk => hG k (mem_hfoot.2 (.inr (.inr (.inr (.inl ⟨m, hm, hk⟩))))), h.raw.chg hc fun k hk => hG k (mem_hfoot.2 (.inr (.inr (.inr (.inr hk))))), h.nblk, h.nown, h.apart, h.small⟩

/-- The cell of a word, in memory. -/
def atM (M : List (Option MC)) (x : Nat) : Option MC := (hdl x).bind fun n => M[n]?.getD none
theorem atM_at {x n : Nat} : (celsOf M).at_ x = some n ↔ hdl x = some n ∧ ∃ m, M[n]? = some (some m) := by
  unfold Cells.at_ celsOf
  cases hx : hdl x with
  | none => simp
  | some k =>
    simp only [List.getElem?_map]
    cases hk : M[k]? with
    | none =>
      simp only [Option.map_none, Option.getD_none, Option.isSome_none, Bool.false_eq_true, ite_false]
      constructor
      · intro h; cases h
      · rintro ⟨h, m, hm⟩; cases h; rw [hk] at hm; cases hm
    | some o =>
      cases o with
      | none =>
        simp only [Option.map_some, Option.map_none, Option.getD_some, Option.isSome_none, Bool.false_eq_true, ite_false]
        constructor
        · intro h; cases h
        · rintro ⟨h, m, hm⟩; cases h; rw [hk] at hm; cases hm
      | some m =>
        simp only [Option.map_some, Option.getD_some, Option.isSome_some, ite_true]
        constructor
        · intro h; cases h; exact ⟨rfl, m, hk⟩
        · rintro ⟨h, _⟩; cases h; rfl
theorem atM_some {x : Nat} {m : MC} (h : atM M x = some m) : ∃ n, hdl x = some n ∧ M[n]? = some (some m) := by
  unfold atM at h
  obtain ⟨n, hn, e⟩ := Option.bind_eq_some_iff.1 h
  cases hk : M[n]? with
  | none => rw [hk] at e; cases e
  | some o => rw [hk] at e; exact ⟨n, hn, by simp only [Option.getD_some] at e; rw [hk, e]⟩
theorem atM_mem {x : Nat} {m : MC} (h : atM M x = some m) : some m ∈ M := by
  obtain ⟨n, _, h⟩ := atM_some h
  exact List.mem_of_getElem? h

set_option maxHeartbeats 4000000 in
theorem find_calls (h : HeapAt w p units used M cv rp F most) (x : Nat) (hx : x < 18446744073709551616) :
    Calls Try.prog 88 #[.pointer (some ⟨p, 0, none⟩), .int .u64 (x : Int)] w fun e w' => e = .returned (.pointer ((atM M x).map fun m => ⟨m.blk, 0, none⟩)) ∧ w = w' := by
  have h2 := h.top.cellAt (i := 2) rfl
  have hsm := h.small
  obtain ⟨a, c, rfl⟩ := Row_form h.row
  cases hh : hdl x with
  | none =>
    have e : atM M x = none := by unfold atM; rw [hh]; rfl
    have CT := Mem.Aside.mk (toHandle_none hx hh)
    rw [e]
    clear e h hsm hh
    go_enter Try.func88, Try.ntmps88
    go_wp2_with (go_at_call 121; (with_reducible refine (CT.out _).mono ?_); rintro e w' ⟨rfl, rfl⟩)
    go_ret
    exact ⟨rfl, rfl⟩
  | some n =>
    have CT := Mem.Aside.mk (toHandle_some hx hh)
    have hwl : IntKind.u64.wrap (M.length : Int) = (M.length : Int) := by rw [IntKind.wrap_u64]; omega
    by_cases c1 : n < M.length
    · have e : atM M x = M[n] := by unfold atM; rw [hh, Option.bind_some, List.getElem?_eq_getElem c1]; rfl
      obtain ⟨g, cap, hac, hcell⟩ := row_get1 h.row (i := n) (u := ptrV M[n]) (by rw [List.getElem?_map, List.getElem?_eq_getElem c1]; rfl)
      cases hac
      have ep : ptrV M[n] = .pointer (M[n].map fun m => ⟨m.blk, 0, none⟩) := by cases M[n] <;> rfl
      rw [ep] at hcell
      rw [e]
      have c1' : (n : Int) < (M.length : Int) := by omega
      clear e h hh ep
      obtain ⟨o, ho⟩ : ∃ o, o = M[n].map fun m => (⟨m.blk, 0, none⟩ : Addr) := ⟨_, rfl⟩
      rw [← ho] at hcell ⊢
      clear ho
      go_enter Try.func88, Try.ntmps88
      go_wp2_with (go_at_call 121; (with_reducible refine (CT.out _).mono ?_); rintro e w' ⟨rfl, rfl⟩)
      go_ret
      exact ⟨rfl, rfl⟩
    · have e : atM M x = none := by unfold atM; rw [hh, Option.bind_some, List.getElem?_eq_none (by omega)]; rfl
      rw [e]
      have c1' : (M.length : Int) ≤ (n : Int) := by omega
      clear e h hh
      go_enter Try.func88, Try.ntmps88
      go_wp2_with (go_at_call 121; (with_reducible refine (CT.out _).mono ?_); rintro e w' ⟨rfl, rfl⟩)
      go_ret
      exact ⟨rfl, rfl⟩
/-- May a word stand in a row? -/
def soundB (M : List (Option MC)) (x : Nat) : Bool := if cls x = 7 then false else if cls x = 6 then (atM M x).isSome else true
theorem sound_calls (h : HeapAt w p units used M cv rp F most) (x : Nat) (hx : x < 18446744073709551616) :
    Calls Try.prog 90 #[.pointer (some ⟨p, 0, none⟩), .int .u64 (x : Int)] w fun e w' => e = .returned (.bool (soundB M x)) ∧ w = w' := by
  have CC := Mem.Aside.mk (class_calls x hx)
  have CF := Mem.Aside.mk (find_calls h x hx)
  unfold soundB
  obtain ⟨C, hC⟩ : ∃ C, C = cls x := ⟨_, rfl⟩
  rw [← hC] at CC ⊢
  clear h hC
  by_cases c7 : C = 7
  · subst c7
    go_enter Try.func90, Try.ntmps90
    go_wp2_with (go_at_call 102; (with_reducible refine (CC.out _).mono ?_); rintro e w' ⟨rfl, rfl⟩)
    go_ret
    exact ⟨rfl, rfl⟩
  · by_cases c6 : C = 6
    · subst c6
      cases ho : atM M x with
      | none =>
        rw [ho] at CF
        go_enter Try.func90, Try.ntmps90
        go_wp2_with (first
          | (go_at_call 102; (with_reducible refine (CC.out _).mono ?_); rintro e w' ⟨rfl, rfl⟩)
          | (go_at_call 88; (with_reducible refine CF.out.mono ?_); rintro e w' ⟨rfl, rfl⟩))
        go_ret
        exact ⟨rfl, rfl⟩
      | some m =>
        rw [ho] at CF
        go_enter Try.func90, Try.ntmps90
        go_wp2_with (first
          | (go_at_call 102; (with_reducible refine (CC.out _).mono ?_); rintro e w' ⟨rfl, rfl⟩)
          | (go_at_call 88; (with_reducible refine CF.out.mono ?_); rintro e w' ⟨rfl, rfl⟩))
        go_ret
        exact ⟨rfl, rfl⟩
    · have e7 : ((C : Int) == 7) = false := by simpa using (by omega : ¬ (C : Int) = 7)
      have e6 : ((C : Int) == 6) = false := by simpa using (by omega : ¬ (C : Int) = 6)
      rw [if_neg c7, if_neg c6]
      clear c7 c6
      go_enter Try.func90, Try.ntmps90
      go_wp2_with (go_at_call 102; (with_reducible refine (CC.out _).mono ?_); rintro e w' ⟨rfl, rfl⟩)
      go_ret
      exact ⟨rfl, rfl⟩
end
end Go.Proofs.Ytgimcpnelogadaa.Hp
