/- Chapter 5, plain: how extents lie behind a packing. No program in sight. -/
import Derived.Test.YtgimcpnelogadaaPlD
namespace Go.Proofs.Ytgimcpnelogadaa.Sto
open Go.RowKit Go.Proofs.Ytgimcpnelogadaa.Mem

theorem nodup_le {α : Type} [DecidableEq α] : ∀ {l m : List α}, l.Nodup → (∀ x ∈ l, x ∈ m) → l.length ≤ m.length
  | [], _, _, _ => Nat.zero_le _
  | x :: l, m, hn, hs => by
    have hn' := List.nodup_cons.1 hn
    have hx := hs x (List.mem_cons_self ..)
    have h := nodup_le (l := l) (m := m.erase x) hn'.2 fun y hy => by
      have hne : y ≠ x := fun e => hn'.1 (e ▸ hy)
      exact (List.mem_erase_of_ne hne).2 (hs y (List.mem_cons_of_mem _ hy))
    rw [List.length_erase_of_mem hx] at h
    have := List.length_pos_of_mem hx
    simp only [List.length_cons]
    omega

theorem lay_nodup {l : List Ext} (h : l.Pairwise Ext.lt) : l.Nodup := by
  refine List.Pairwise.imp ?_ h
  intro a b hab e
  subst e
  exact Ext.lt_irrefl _ hab

theorem nodup_inj {l : List Ext} (h : (l.map Ext.id).Nodup) {x y : Ext} (hx : x ∈ l) (hy : y ∈ l) (e : x.id = y.id) : x = y := by
  obtain ⟨i, hi, rfl⟩ := List.getElem_of_mem hx
  obtain ⟨j, hj, rfl⟩ := List.getElem_of_mem hy
  have hp := List.pairwise_iff_getElem.1 h
  rcases Nat.lt_trichotomy i j with c | c | c
  · have := hp i j (by simpa using hi) (by simpa using hj) c
    rw [List.getElem_map, List.getElem_map] at this
    exact absurd e this
  · subst c; rfl
  · have := hp j i (by simpa using hj) (by simpa using hi) c
    rw [List.getElem_map, List.getElem_map] at this
    exact absurd e.symm this
theorem Lay.apart_of {l : List Ext} {span : Nat} (h : Lay l span) {x y : Ext} (hx : x ∈ l) (hy : y ∈ l) (e : x ≠ y) : x.apart y := by
  obtain ⟨i, hi, rfl⟩ := List.getElem_of_mem hx
  obtain ⟨j, hj, rfl⟩ := List.getElem_of_mem hy
  have hp := List.pairwise_iff_getElem.1 h.apart
  rcases Nat.lt_trichotomy i j with c | c | c
  · exact hp i j hi hj c
  · subst c; exact absurd rfl e
  · exact Ext.apart_symm (hp j i hj hi c)

/-- In a row that has no byte too many each extent that has bytes lies behind all ahead of it. -/
theorem packed_at {pre suf : List Ext} {x : Ext} (h : Lay (pre ++ x :: suf) (total (pre ++ x :: suf))) (hx : 0 < x.len) : x.at_ = total pre := by
  have h1 := h.ahead hx
  have hs := List.pairwise_append.1 h.sorted
  have ha := List.pairwise_append.1 h.apart
  have hsx := List.pairwise_cons.1 hs.2.1
  have h2 := total_le_at (x :: suf) (total (pre ++ x :: suf)) hs.2.1 ha.2.1 (fun y hy _ => h.inside y (by simp at hy ⊢; right; exact hy)) x.at_ (fun y hy _ => by
    rcases List.mem_cons.1 hy with rfl | hy
    · exact Nat.le_refl _
    · exact Ext.lt_at (hsx.1 y hy)) (by have := h.inside x (by simp); omega)
  rw [total_append] at h2
  omega

/-- Behind a packing the extent at the k-th place, if it has bytes, is the one that was there, or that one had none. -/
theorem packed_id {O N : List Ext} {span : Nat} (hO : Lay O span) (hp : N.Perm (packGo 0 O)) (hs : N.Pairwise Ext.lt) {k : Nat} (hk : k < N.length) (hk' : k < O.length) (hx : 0 < N[k].len) (hy : 0 < O[k].len) : N[k].id = O[k].id := by
  have L := hO.packed hp hs
  have hN : N = N.take k ++ N[k] :: N.drop (k + 1) := by rw [← List.drop_eq_getElem_cons hk, List.take_append_drop]
  have hOk : O = O.take k ++ O[k] :: O.drop (k + 1) := by rw [← List.drop_eq_getElem_cons hk', List.take_append_drop]
  obtain ⟨x, ex⟩ : ∃ x, x = N[k] := ⟨_, rfl⟩
  obtain ⟨o, eo⟩ : ∃ o, o = O[k] := ⟨_, rfl⟩
  rw [← ex] at hN hx ⊢
  rw [← eo] at hOk hy ⊢
  have hP : packGo 0 O = packGo 0 (O.take k) ++ { o with at_ := 0 + total (O.take k) } :: packGo (0 + total (O.take k) + up o.len) (O.drop (k + 1)) := by
    conv => lhs; rw [hOk]
    rw [packGo_append]
    rfl
  obtain ⟨y, ey⟩ : ∃ y : Ext, y = { o with at_ := 0 + total (O.take k) } := ⟨_, rfl⟩
  have hyl : 0 < y.len := by rw [ey]; exact hy
  have hid : y.id = o.id := by rw [ey]
  have hya : y.at_ = 0 + total (O.take k) := by rw [ey]
  rw [← ey] at hP
  rw [← hid]
  have hA : ∀ z ∈ packGo 0 (O.take k), z.at_ ≤ y.at_ := fun z hz => by have := packGo_mem_at _ _ z hz; omega
  have hB : ∀ z ∈ packGo (0 + total (O.take k) + up o.len) (O.drop (k + 1)), y.at_ < z.at_ := fun z hz => by
    have := packGo_mem_at _ _ z hz
    have := up_pos.2 hy
    omega
  have hlA : (packGo 0 (O.take k)).length = k := by rw [packGo_length, List.length_take]; omega
  have hPn : (packGo 0 O).Nodup := hp.nodup_iff.1 (lay_nodup hs)
  have hsp := List.pairwise_append.1 (hN ▸ hs)
  have hsx := List.pairwise_cons.1 hsp.2.1
  have hxm : x ∈ N := by rw [hN]; simp
  have hym : y ∈ N := hp.mem_iff.2 (by rw [hP]; simp)
  have hlt : (N.take k).length = k := by rw [List.length_take]; omega
  have hlk := hN ▸ lay_nodup hs
  by_cases c : x = y
  · rw [c]
  · exfalso
    rcases Ext.lt_total (x := x) (y := y) (fun e => by
      have := L.ids
      exact c (nodup_inj this hxm hym e)) with h | h
    · -- x is ahead of y
      have h1 := nodup_le (l := N.take k ++ [x]) (m := packGo 0 (O.take k)) (by
        have := hN ▸ lay_nodup hs
        rw [show N.take k ++ x :: N.drop (k + 1) = (N.take k ++ [x]) ++ N.drop (k + 1) by simp] at this
        exact (List.nodup_append.1 this).1) (fun z hz => by
        have hzy : z.lt y := by
          rcases List.mem_append.1 hz with hz | hz
          · exact Ext.lt_trans (hsp.2.2 z hz x (by simp)) h
          · simp at hz; exact hz ▸ h
        have hzN : z ∈ N := by
          rw [hN]
          rcases List.mem_append.1 hz with hz | hz
          · exact List.mem_append_left _ hz
          · simp at hz; simp [hz]
        have hzP := hp.mem_iff.1 hzN
        rw [hP] at hzP
        rcases List.mem_append.1 hzP with hzP | hzP
        · exact hzP
        · rcases List.mem_cons.1 hzP with rfl | hzP
          · exact absurd hzy (Ext.lt_irrefl _)
          · have := hB z hzP
            have := Ext.lt_at hzy
            omega)
      simp only [List.length_append, List.length_cons, List.length_nil, hlt, hlA] at h1
      omega
    · have hat : y.at_ < x.at_ := by
        have h1 := Ext.lt_at h
        have hap : x.apart y := L.apart_of hxm hym c
        have h2 := up_pos.2 hyl
        have h3 := up_pos.2 hx
        rcases hap hx hyl with e | e
        · omega
        · omega
      have h1 := nodup_le (l := packGo 0 (O.take k) ++ [y]) (m := N.take k) (by
        have := hPn
        rw [hP, show packGo 0 (O.take k) ++ y :: packGo (0 + total (O.take k) + up o.len) (O.drop (k + 1)) = (packGo 0 (O.take k) ++ [y]) ++ packGo (0 + total (O.take k) + up o.len) (O.drop (k + 1)) by simp] at this
        exact (List.nodup_append.1 this).1) (fun z hz => by
        have hza : z.at_ < x.at_ := by
          rcases List.mem_append.1 hz with hz | hz
          · have := hA z hz; omega
          · simp at hz; rw [hz]; exact hat
        have hzN : z ∈ N := hp.mem_iff.2 (by
          rw [hP]
          rcases List.mem_append.1 hz with hz | hz
          · exact List.mem_append_left _ hz
          · simp at hz; simp [hz])
        rw [hN] at hzN
        rcases List.mem_append.1 hzN with hzN | hzN
        · exact hzN
        · rcases List.mem_cons.1 hzN with rfl | hzN
          · omega
          · have := Ext.lt_at (hsx.1 z hzN)
            omega)
      simp only [List.length_append, List.length_cons, List.length_nil, hlt, hlA] at h1
      omega
end Go.Proofs.Ytgimcpnelogadaa.Sto
