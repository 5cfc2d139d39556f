/- Chapter 5, the store: Give, Len, Pack over what it holds. -/
import Derived.Test.YtgimcpnelogadaaStW
namespace Go.Proofs.Ytgimcpnelogadaa.Sto
open Go.RowKit Go.Proofs.Ytgimcpnelogadaa.Mem
set_option linter.unusedVariables false
set_option linter.unusedSimpArgs false

theorem foot_congr {p mb : Nat} {r r' a a' : Value} (hr : r'.ownBlock = r.ownBlock) (ha : a'.ownBlock = a.ownBlock) : foot p r' a' mb = foot p r a mb := by unfold foot; rw [hr, ha]

theorem atOf_pairs {s : St} {L : List (Nat × List UInt8)} (h : s.pairs.Perm L) {k : Int} (hn : ∀ q ∈ L, (q.1 : Int) ≠ k) : atOf s.all k = none :=
  atOf_none fun x hx => hn (x.id, s.bytes x) (h.mem_iff.1 (List.mem_map_of_mem hx))

theorem give_absent {w : World} {p m : Nat} {F : List Nat} {L : List (Nat × List UInt8)} (h : Holds w p F L m) (k : Int) (hk : I64 k) (hn : ∀ q ∈ L, (q.1 : Int) ≠ k) :
    Calls Try.prog 26 #[.pointer (some ⟨p, 0, none⟩), .int .i64 k] w fun e w' => e = .returned (.int .i64 30) ∧ w = w' := by
  obtain ⟨⟨s, h1, h2, h3, h4⟩, _⟩ := h
  exact give_none h1 k hk (atOf_pairs h3 hn)
theorem len_absent {w : World} {p m : Nat} {F : List Nat} {L : List (Nat × List UInt8)} (h : Holds w p F L m) (k : Int) (hk : I64 k) (hn : ∀ q ∈ L, (q.1 : Int) ≠ k) :
    Calls Try.prog 28 #[.pointer (some ⟨p, 0, none⟩), .int .i64 k] w fun e w' => e = .returned (.tuple #[.int .i64 0, .int .i64 30]) ∧ w = w' := by
  obtain ⟨⟨s, h1, h2, h3, h4⟩, _⟩ := h
  exact len_none h1 k hk (atOf_pairs h3 hn)
theorem len_holds {w : World} {p m : Nat} {F : List Nat} {L : List (Nat × List UInt8)} (h : Holds w p F L m) {id : Nat} {bs : List UInt8} (hm : (id, bs) ∈ L) :
    Calls Try.prog 28 #[.pointer (some ⟨p, 0, none⟩), .int .i64 (id : Int)] w fun e w' => e = .returned (.tuple #[.int .i64 (bs.length : Int), .int .i64 0]) ∧ Chg [] w w' := by
  have hq := h.ids _ hm
  obtain ⟨⟨s, h1, h2, h3, h4⟩, h5, h6, h7⟩ := h
  have hlen : s.all.length = L.length := by rw [← pairs_length, h3.length_eq]
  obtain ⟨i, hi, rfl, rfl⟩ := ext_of h3 hm
  rw [bytes_length h2 (List.getElem_mem hi)]
  exact len_some h1 h2 (by omega) hi ⟨by omega, by simp at hq; omega⟩

theorem give_holds {w : World} {p m : Nat} {F : List Nat} {L : List (Nat × List UInt8)} {id : Nat} {bs : List UInt8} (h : Holds w p F ((id, bs) :: L) m) :
    Calls Try.prog 26 #[.pointer (some ⟨p, 0, none⟩), .int .i64 (id : Int)] w fun e w' => e = .returned (.int .i64 0) ∧ Holds w' p F L m ∧ Chg F w w' := by
  have hq := h.ids _ (List.mem_cons_self ..)
  obtain ⟨⟨s, ⟨rawv, allv, mb, h1, rfl⟩, h2, h3, h4⟩, h5, h6, h7⟩ := h
  have hlen : s.all.length = L.length + 1 := by rw [← pairs_length, h3.length_eq]; rfl
  simp only [List.length_cons] at h6
  obtain ⟨i, hi, rfl, rfl⟩ := ext_of h3 (List.mem_cons_self ..)
  have hsp := h2.span
  refine (give_some h1 h2 (by omega) (by omega) (by omega) hi ⟨by omega, by simp at hq; omega⟩).mono ?_
  rintro e w' ⟨allv', h8, h9, h10, h11⟩
  have hs : s.all = s.all.take i ++ s.all[i] :: s.all.drop (i + 1) := by rw [← List.drop_eq_getElem_cons hi, List.take_append_drop]
  have he : s.all.eraseIdx i = s.all.take i ++ s.all.drop (i + 1) := List.eraseIdx_eq_take_drop_succ ..
  have ht : total s.all = up s.all[i].len + total (s.all.eraseIdx i) := by
    rw [he, total_append]
    have := congrArg total hs
    rw [total_append, total_cons] at this
    omega
  have hu : (s.gave i).used = total (s.all.eraseIdx i) := by
    show s.used - up (s.all.getD i default).len = _
    rw [List.getD_eq_getElem?_getD, List.getElem?_eq_getElem hi, Option.getD_some, h2.used]
    omega
  refine ⟨h8, ⟨⟨s.gave i, ⟨_, _, _, h9, (foot_congr rfl h10).symm⟩, ⟨h2.lay.erase i, hu, ?_, hsp⟩, ?_, h4⟩, fun q hq' => h5 q (List.mem_cons_of_mem _ hq'), by omega, h7⟩, h11⟩
  · have a1 := h2.most; have a2 := h2.used
    rw [hu]
    show _ ≤ s.most
    omega
  · have e1 : s.pairs = (s.all.take i).map (fun y => (y.id, s.bytes y)) ++ (s.all[i].id, s.bytes s.all[i]) :: (s.all.drop (i + 1)).map (fun y => (y.id, s.bytes y)) := by
      unfold St.pairs
      conv => lhs; rw [hs]
      rw [List.map_append, List.map_cons]
    have e2 : (s.gave i).pairs = (s.all.take i).map (fun y => (y.id, s.bytes y)) ++ (s.all.drop (i + 1)).map (fun y => (y.id, s.bytes y)) := by
      show (s.all.eraseIdx i).map (fun y => (y.id, s.bytes y)) = _
      rw [he, List.map_append]
    rw [e1] at h3
    rw [e2]
    exact (List.perm_middle.symm.trans h3).cons_inv

/-- Packed: the bytes are the extents' alone. -/
theorem pack_holds {w : World} {p m : Nat} {F : List Nat} {L : List (Nat × List UInt8)} (h : Holds w p F L m) :
    Calls Try.prog 27 #[.pointer (some ⟨p, 0, none⟩)] w fun e w' => e = .returned (.tuple #[]) ∧ Holds w' p F L m ∧ (∃ s, Sto w' p s F ∧ s.raw.length = totalL L) ∧ Chg F w w' := by
  have hids := h.ids
  obtain ⟨⟨s, ⟨rawv, allv, mb, h1, rfl⟩, h2, h3, h4⟩, h5, h6, h7⟩ := h
  have hlen : s.all.length = L.length := by rw [← pairs_length, h3.length_eq]
  have hsp := h2.span
  have htl : totalL L = s.used := by
    rw [h2.used]
    unfold totalL
    rw [← (h3.map fun x => up x.2.length).sum_nat]
    unfold St.pairs
    rw [List.map_map]
    unfold Sto.total
    congr 1
    exact List.map_congr_left fun x hx => by simp [bytes_length h2 hx]
  refine (pack_calls h1 h2.lies (by omega) (by omega) (fun x hx => ?_)).mono ?_
  · have := hids (x.id, s.bytes x) (h3.mem_iff.1 (List.mem_map_of_mem hx))
    exact ⟨by omega, by simp at this; omega⟩
  · rintro e w' ⟨s', rawv', h8, h9, h10, h11, raw, hp, hr, ha, hs, hu, hm⟩
    have hmo := h2.most
    have M := Mid.packed h2 (n := 0) hp hr ha hs (by rw [hu]; rfl) (by rw [hm]; show s.most = max s.most (s.used + 0); omega)
    have hl : s'.raw.length = s.used := by
      rw [hr, List.length_take, hp.length, h2.used]
      exact Nat.min_eq_left h2.lay.total_le
    refine ⟨h8, ⟨⟨s', ⟨_, _, _, h9, (foot_congr h10 rfl).symm⟩, ⟨M.lay, by rw [hu, M.total], by rw [hu, hm]; exact hmo, M.span⟩, M.pairs.trans h3, by rw [hm]; exact h4⟩, h5, h6, h7⟩, ⟨s', ⟨_, _, _, h9, (foot_congr h10 rfl).symm⟩, by rw [hl, htl]⟩, h11⟩
end Go.Proofs.Ytgimcpnelogadaa.Sto
