/- Chapter 5, the store: its methods over what it holds: a list of Ids, each with its bytes, in no order. -/
import Derived.Test.YtgimcpnelogadaaStU
namespace Go.Proofs.Ytgimcpnelogadaa.Sto
open Go.RowKit Go.Proofs.Ytgimcpnelogadaa.Mem
set_option linter.unusedVariables false
set_option linter.unusedSimpArgs false

/-- At block p there is a store made of the blocks F that holds L; its most used bytes are m at most. -/
structure Holds (w : World) (p : Nat) (F : List Nat) (L : List (Nat × List UInt8)) (m : Nat) : Prop where
  ex : ∃ s, Sto w p s F ∧ Ok s ∧ s.pairs.Perm L ∧ s.most ≤ m
  ids : ∀ q ∈ L, q.1 ≤ 1000000000
  count : L.length ≤ 100000000
  most : m ≤ 100000000000

theorem Holds.chg {w w' : World} {p m : Nat} {F G : List Nat} {L : List (Nat × List UInt8)} (h : Holds w p F L m) (hc : Chg G w w') (hG : ∀ k ∈ F, k ∉ G) : Holds w' p F L m := by
  obtain ⟨⟨s, h1, h2⟩, h3, h4, h5⟩ := h
  exact ⟨⟨s, h1.chg hc hG, h2⟩, h3, h4, h5⟩
theorem Holds.perm {w : World} {p m : Nat} {F : List Nat} {L M : List (Nat × List UInt8)} (h : Holds w p F L m) (hp : L.Perm M) : Holds w p F M m := by
  obtain ⟨⟨s, h1, h2, h3, h4⟩, h5, h6, h7⟩ := h
  exact ⟨⟨s, h1, h2, h3.trans hp, h4⟩, fun q hq => h5 q (hp.mem_iff.2 hq), by rw [← hp.length_eq]; exact h6, h7⟩
theorem Holds.lt {w : World} {p m : Nat} {F : List Nat} {L : List (Nat × List UInt8)} (h : Holds w p F L m) : ∀ k ∈ F, k < w.heap.size := by
  obtain ⟨⟨s, h1, h2⟩, _⟩ := h
  exact h1.lt

theorem ok_new : Ok ⟨[], [], 0, 0⟩ := ⟨Lay.nil _, rfl, Nat.le_refl _, by simp⟩
theorem new_holds (w : World) : Calls Try.prog 21 #[] w fun e w' => ∃ p F, e = .returned (.pointer (some ⟨p, 0, none⟩)) ∧ Holds w' p F [] 0 ∧ Chg [] w w' ∧ ∀ k ∈ F, w.heap.size ≤ k := by
  refine (new_calls w).mono ?_
  rintro e w' ⟨p, F, h1, h2, h3, h4⟩
  exact ⟨p, F, h1, ⟨⟨_, h2, ok_new, .refl _, Nat.le_refl _⟩, by simp, by simp, by simp⟩, h3, h4⟩

theorem pairs_length (s : St) : s.pairs.length = s.all.length := by simp [St.pairs]

theorem take_holds {w : World} {p m : Nat} {F : List Nat} {L : List (Nat × List UInt8)} (h : Holds w p F L m) (n : Nat) (hn : n ≤ 8388608) (hl : L.length < 100000000) (hm : m + n + 7 ≤ 100000000000) :
    Calls Try.prog 22 #[.pointer (some ⟨p, 0, none⟩), .int .i64 (n : Int)] w fun e w' => ∃ (id : Nat) (F' : List Nat), e = .returned (.tuple #[.int .i64 (id : Int), .int .i64 0]) ∧ Holds w' p F' ((id, List.replicate n 0) :: L) (m + n + 7) ∧
      (∀ j < id, j ∈ L.map Prod.fst) ∧ id ∉ L.map Prod.fst ∧ Chg F w w' ∧ ∀ k ∈ F', k ∈ F ∨ w.heap.size ≤ k := by
  obtain ⟨⟨s, ⟨rawv, allv, mb, h1, rfl⟩, h2, h3, h4⟩, h5, h6, h7⟩ := h
  have hlen : s.all.length = L.length := by rw [← pairs_length, h3.length_eq]
  have hid : ∀ j, j ∈ s.all.map Ext.id ↔ j ∈ L.map Prod.fst := fun j => by rw [← pairs_ids, (h3.map Prod.fst).mem_iff]
  refine (take_ok h1 h2 (by omega) (by omega) (fun x hx => ?_) n hn).mono ?_
  · have := h5 (x.id, s.bytes x) (h3.mem_iff.1 (List.mem_map_of_mem hx))
    exact ⟨by omega, by simp at this; omega⟩
  · rintro e w' ⟨id, s', F', h8, h9, hT, hC, hF⟩
    have hup := up_le n
    have hle := least_le hT.least
    rw [List.length_map] at hle
    refine ⟨id, F', h8, ⟨⟨s', h9, hT.ok, hT.pairs.trans (.cons _ h3), ?_⟩, ?_, by simp; omega, hm⟩, fun j hj => (hid j).1 (hT.least j hj), fun hi => hT.fresh ((hid id).2 hi), hC, hF⟩
    · have a1 := hT.most; have a2 := hT.used; have a3 := h2.most; omega
    · intro q hq
      rcases List.mem_cons.1 hq with rfl | hq
      · show id ≤ _; omega
      · exact h5 q hq

/-- An Id of the list, as an extent. -/
theorem ext_of {s : St} {L : List (Nat × List UInt8)} (h3 : s.pairs.Perm L) {id : Nat} {bs : List UInt8} (hm : (id, bs) ∈ L) : ∃ i, ∃ hi : i < s.all.length, s.all[i].id = id ∧ s.bytes s.all[i] = bs := by
  obtain ⟨x, hx, e⟩ := List.mem_map.1 (h3.mem_iff.2 hm)
  obtain ⟨i, hi, rfl⟩ := List.getElem_of_mem hx
  exact ⟨i, hi, congrArg Prod.fst e, congrArg Prod.snd e⟩

theorem sl_sl {α : Type} {r : List α} {a n o k : Nat} (h : o + k ≤ n) : sl (sl r a n) o k = sl r (a + o) k := by
  apply List.ext_getElem?
  intro i
  by_cases hi : i < k
  · rw [sl_getElem? _ _ _ _ hi, sl_getElem? _ _ _ _ hi, sl_getElem? _ _ _ _ (by omega), Nat.add_assoc]
  · rw [List.getElem?_eq_none (by simp [sl]; omega), List.getElem?_eq_none (by simp [sl]; omega)]

theorem load_holds {w : World} {p m : Nat} {F : List Nat} {L : List (Nat × List UInt8)} (h : Holds w p F L m) {id : Nat} {bs : List UInt8} (hm : (id, bs) ∈ L) (o wd : Nat) (hw : wd = 1 ∨ wd = 2 ∨ wd = 4 ∨ wd = 8) (hfit : o + wd ≤ bs.length) (hmod : o % wd = 0) :
    Calls Try.prog 24 #[.pointer (some ⟨p, 0, none⟩), .int .i64 (id : Int), .int .i64 (o : Int), .int .i64 (wd : Int)] w fun e w' => e = .returned (.tuple #[.int .u64 (leN (sl bs o wd) : Nat), .int .i64 0]) ∧ Chg [] w w' := by
  have hq := h.ids _ hm
  obtain ⟨⟨s, ⟨rawv, allv, mb, h1, rfl⟩, h2, h3, h4⟩, h5, h6, h7⟩ := h
  have hlen : s.all.length = L.length := by rw [← pairs_length, h3.length_eq]
  obtain ⟨i, hi, rfl, rfl⟩ := ext_of h3 hm
  have hl := bytes_length h2 (List.getElem_mem hi)
  have hsp := h2.span
  have := load_ok h1 h2 (by omega) (by omega) hi ⟨by omega, by simp at hq; omega⟩ o wd hw (by omega) hmod
  rw [St.bytes, sl_sl (by omega)]
  exact this
theorem sl_splice_in {α : Type} {r ys : List α} {a n o : Nat} (h : o + ys.length ≤ n) (hr : a + n ≤ r.length) : sl (splice r (a + o) ys) a n = splice (sl r a n) o ys := by
  apply List.ext_getElem?
  intro i
  have hl : (sl r a n).length = n := sl_length hr
  by_cases hi : i < n
  · rw [sl_getElem? _ _ _ _ hi, splice_getElem? _ _ _ (by omega), splice_getElem? _ _ _ (by omega), sl_getElem? _ _ _ _ hi]
    by_cases c1 : i < o
    · rw [if_pos c1, if_pos (by omega)]
    · rw [if_neg c1, if_neg (by omega)]
      by_cases c2 : i < o + ys.length
      · rw [if_pos c2, if_pos (by omega), show a + i - (a + o) = i - o by omega]
      · rw [if_neg c2, if_neg (by omega)]
  · rw [List.getElem?_eq_none (by simp [sl]; omega), List.getElem?_eq_none (by rw [length_splice _ _ _ (by omega)]; omega)]

theorem Ok.write {s : St} (h : Ok s) {a : Nat} {ys : List UInt8} (hf : a + ys.length ≤ s.raw.length) : Ok (s.write a ys) := by
  have e : (s.write a ys).raw.length = s.raw.length := length_splice _ _ _ hf
  exact ⟨by rw [e]; exact h.lay, h.used, h.most, by rw [e]; exact h.span⟩

theorem write_pairs {s : St} (h : Ok s) {i : Nat} (hi : i < s.all.length) {o : Nat} {ys : List UInt8} (hf : o + ys.length ≤ s.all[i].len) {L : List (Nat × List UInt8)} (h3 : s.pairs.Perm ((s.all[i].id, s.bytes s.all[i]) :: L)) :
    (s.write (s.all[i].at_ + o) ys).pairs.Perm ((s.all[i].id, splice (s.bytes s.all[i]) o ys) :: L) := by
  have hin := h.lay.inside _ (List.getElem_mem hi)
  have hup := up_ge s.all[i].len
  have hsp : s.all = s.all.take i ++ s.all[i] :: s.all.drop (i + 1) := by rw [← List.drop_eq_getElem_cons hi, List.take_append_drop]
  obtain ⟨x, hx⟩ : ∃ x, x = s.all[i] := ⟨_, rfl⟩
  rw [← hx] at hf h3 hin hup hsp ⊢
  have hap := h.lay.apart
  rw [hsp, List.pairwise_append] at hap
  have hA : ∀ y ∈ s.all.take i, y.apart x := fun y hy => hap.2.2 y hy x (by simp)
  have hB : ∀ y ∈ s.all.drop (i + 1), y.apart x := fun y hy => Ext.apart_symm ((List.pairwise_cons.1 hap.2.1).1 y hy)
  have far : ∀ y, y.apart x → (s.write (x.at_ + o) ys).bytes y = s.bytes y := fun y hy => by
    show sl (splice s.raw (x.at_ + o) ys) y.at_ y.len = sl s.raw y.at_ y.len
    by_cases c : y.len = 0
    · rw [c]; simp [sl]
    · by_cases d : ys.length = 0
      · rw [List.eq_nil_of_length_eq_zero d, splice_nil]
      · have h1 := hy (by omega) (by omega)
        have h2 := up_ge y.len
        exact sl_splice_far (by omega) (by omega)
  have e1 : s.pairs = (s.all.take i).map (fun y => (y.id, s.bytes y)) ++ (x.id, s.bytes x) :: (s.all.drop (i + 1)).map (fun y => (y.id, s.bytes y)) := by
    unfold St.pairs
    conv => lhs; rw [hsp]
    rw [List.map_append, List.map_cons]
  have e2 : (s.write (x.at_ + o) ys).pairs = (s.all.take i).map (fun y => (y.id, s.bytes y)) ++ (x.id, splice (s.bytes x) o ys) :: (s.all.drop (i + 1)).map (fun y => (y.id, s.bytes y)) := by
    unfold St.pairs
    show s.all.map _ = _
    conv => lhs; rw [hsp]
    rw [List.map_append, List.map_cons]
    congr 1
    · exact List.map_congr_left fun y hy => by rw [far y (hA y hy)]
    · congr 1
      · have : (s.write (x.at_ + o) ys).bytes x = splice (s.bytes x) o ys := sl_splice_in hf (by omega)
        rw [this]
      · exact List.map_congr_left fun y hy => by rw [far y (hB y hy)]
  rw [e1] at h3
  rw [e2]
  exact List.perm_middle.trans (.cons _ ((List.perm_middle.symm.trans h3).cons_inv))

theorem save_holds {w : World} {p m : Nat} {F : List Nat} {L : List (Nat × List UInt8)} {id : Nat} {bs : List UInt8} (h : Holds w p F ((id, bs) :: L) m) (o wd : Nat) (hw : wd = 1 ∨ wd = 2 ∨ wd = 4 ∨ wd = 8) (hfit : o + wd ≤ bs.length) (hmod : o % wd = 0) (x : Nat) (hx : x < 18446744073709551616) :
    Calls Try.prog 23 #[.pointer (some ⟨p, 0, none⟩), .int .i64 (id : Int), .int .i64 (o : Int), .int .i64 (wd : Int), .int .u64 (x : Int)] w fun e w' => e = .returned (.int .i64 0) ∧ Holds w' p F ((id, splice bs o (leB x wd)) :: L) m ∧ Chg F w w' := by
  have hq := h.ids _ (List.mem_cons_self ..)
  obtain ⟨⟨s, ⟨rawv, allv, mb, h1, rfl⟩, h2, h3, h4⟩, h5, h6, h7⟩ := h
  have hlen : s.all.length = L.length + 1 := by rw [← pairs_length, h3.length_eq]; rfl
  simp only [List.length_cons] at h6
  obtain ⟨i, hi, rfl, rfl⟩ := ext_of h3 (List.mem_cons_self ..)
  have hl := bytes_length h2 (List.getElem_mem hi)
  have hsp := h2.span
  have hin := h2.lay.inside _ (List.getElem_mem hi)
  have hup := up_ge s.all[i].len
  refine (save_ok h1 h2 (by omega) (by omega) hi ⟨by omega, by simp at hq; omega⟩ o wd hw (by omega) hmod x hx).mono ?_
  rintro e w' ⟨h8, h9, h10⟩
  refine ⟨h8, ⟨⟨_, ⟨_, _, _, h9, rfl⟩, h2.write (by rw [leB_length]; omega), write_pairs h2 hi (by rw [leB_length]; omega) h3, h4⟩, ?_, by simpa using h6, h7⟩, h10⟩
  intro q hq'
  rcases List.mem_cons.1 hq' with rfl | hq'
  · exact hq
  · exact h5 q (List.mem_cons_of_mem _ hq')
end Go.Proofs.Ytgimcpnelogadaa.Sto
