/- Chapter 5, the store, plain: what Take makes of a store. -/
import Derived.Test.YtgimcpnelogadaaStS
namespace Go.Proofs.Ytgimcpnelogadaa.Sto
set_option linter.unusedVariables false
set_option linter.unusedSimpArgs false

/-- The Ids with their bytes. -/
def St.pairs (s : St) : List (Nat × List UInt8) := s.all.map fun x => (x.id, s.bytes x)
theorem pairs_ids (s : St) : s.pairs.map Prod.fst = s.all.map Ext.id := by simp [St.pairs, Function.comp_def]

/-- Between the counting and the laying: as s, it may be packed. -/
structure Mid (s : St) (n : Nat) (s2 : St) : Prop where
  lay : Lay s2.all s2.raw.length
  pairs : s2.pairs.Perm s.pairs
  used : s2.used = s.used + up n
  most : s2.most = max s.most s2.used
  span : s2.raw.length ≤ 2 * s2.most + 64
  total : total s2.all = s.used

/-- What Take makes of s: id is the least that is free, its bytes are zeros. -/
structure Took (s : St) (n id : Nat) (s' : St) : Prop where
  ok : Ok s'
  least : ∀ j < id, j ∈ s.all.map Ext.id
  fresh : id ∉ s.all.map Ext.id
  pairs : s'.pairs.Perm ((id, List.replicate n 0) :: s.pairs)
  used : s'.used = s.used + up n
  most : s'.most = max s.most s'.used

theorem Mid.ids {s s2 : St} {n : Nat} (h : Mid s n s2) : (s2.all.map Ext.id).Perm (s.all.map Ext.id) := by
  have := h.pairs.map Prod.fst
  rwa [pairs_ids, pairs_ids] at this
theorem Mid.length {s s2 : St} {n : Nat} (h : Mid s n s2) : s2.all.length = s.all.length := by
  have := h.ids.length_eq
  simpa using this

/-- As s, counted. -/
def St.count (s : St) (n : Nat) : St := { s with used := s.used + up n, most := max s.most (s.used + up n) }
theorem Mid.start {s : St} (ho : Ok s) (n : Nat) : Mid s n (s.count n) where
  lay := ho.lay
  pairs := .refl _
  used := rfl
  most := rfl
  span := by have := ho.span; show s.raw.length ≤ 2 * max s.most (s.used + up n) + 64; omega
  total := ho.used.symm

theorem Mid.packed {s s2 : St} (ho : Ok s) {n : Nat} {raw : List UInt8} (hp : Packing s.all s.raw s.all.length raw) (hr : s2.raw = raw.take (Sto.total s.all)) (ha : s2.all.Perm (packGo 0 s.all)) (hs : s2.all.Pairwise Ext.lt)
    (hu : s2.used = (s.count n).used) (hm : s2.most = (s.count n).most) : Mid s n s2 := by
  have ht := ho.lay.total_le
  have hlen : s2.raw.length = Sto.total s.all := by rw [hr, List.length_take, hp.length]; omega
  refine ⟨?_, ?_, hu, by rw [hm, hu]; rfl, ?_, ?_⟩
  · rw [hlen]; exact ho.lay.packed ha hs
  · refine (ha.map fun x => (x.id, s2.bytes x)).trans ?_
    have e : (packGo 0 s.all).map (fun x => (x.id, s2.bytes x)) = (packGo 0 s.all).map fun x => (x.id, sl raw x.at_ x.len) := by
      refine List.map_congr_left fun x hx => ?_
      have h1 := (packGo_mem_at s.all 0 x hx).2
      have h2 := up_ge x.len
      rw [St.bytes, hr, sl_take (by omega)]
    rw [e, packed_bytes hp]
    exact .refl _
  · rw [hlen, hm, ← ho.used]
    show s.used ≤ 2 * max s.most (s.used + up n) + 64
    omega
  · rw [total_perm ha, packGo_total, ho.used]

theorem total_insertE (y : Ext) (l : List Ext) : total (insertE y l) = up y.len + total l := by rw [total_perm (insertE_perm y l), total_cons]

theorem Mid.took {s s2 : St} {n id : Nat} (h : Mid s n s2) (ho : Ok s) (hle : ∀ j < id, j ∈ s.all.map Ext.id) (hfr : id ∉ s.all.map Ext.id) {raw4 : List UInt8} {k : Nat} (hraw : raw4 = s2.raw ++ List.replicate k 0)
    (hk : gapGo (up n) 0 s2.all + up n ≤ raw4.length) (hk0 : k = 0 ∨ raw4.length = gapGo (up n) 0 s2.all + up n) (hfit : gapGo (up n) 0 s2.all + up n ≤ 2 * s2.most + 64) :
    Took s n id ⟨splice raw4 (gapGo (up n) 0 s2.all) (List.replicate (up n) 0), insertE ⟨id, gapGo (up n) 0 s2.all, n⟩ s2.all, s2.used, s2.most⟩ := by
  have hfree := gap_free (up n) s2.all 0 h.lay.sorted
  have h8 := gap_mod (up n) s2.all 0 rfl h.lay.eights
  obtain ⟨A, hA⟩ : ∃ A, A = gapGo (up n) 0 s2.all := ⟨_, rfl⟩
  rw [← hA] at hk hk0 hfit hfree h8 ⊢
  have hlen : (splice raw4 A (List.replicate (up n) 0)).length = raw4.length := length_splice _ _ _ (by simpa using hk)
  have h2 : s2.raw.length ≤ raw4.length := by rw [hraw]; simp
  have hfr2 : id ∉ s2.all.map Ext.id := fun hm => hfr ((h.ids.mem_iff).1 hm)
  refine ⟨⟨?_, ?_, ?_, ?_⟩, hle, hfr, ?_, h.used, h.most⟩
  · refine Lay.insert (h.lay.wider ?_) hfr2 h8 ?_ hfree
    · show s2.raw.length ≤ (splice raw4 A (List.replicate (up n) 0)).length
      rw [hlen]; exact h2
    · show A + up n ≤ (splice raw4 A (List.replicate (up n) 0)).length
      rw [hlen]; exact hk
  · show s2.used = Sto.total (insertE ⟨id, A, n⟩ s2.all)
    rw [total_insertE, h.total, h.used]; exact Nat.add_comm _ _
  · show s2.used ≤ s2.most
    rw [h.most]; omega
  · show (splice raw4 A (List.replicate (up n) 0)).length ≤ 2 * s2.most + 64
    rw [hlen]
    rcases hk0 with rfl | e
    · rw [hraw]; simpa using h.span
    · omega
  · refine ((insertE_perm _ _).map _).trans ?_
    rw [List.map_cons]
    have e1 : (⟨splice raw4 A (List.replicate (up n) 0), insertE ⟨id, A, n⟩ s2.all, s2.used, s2.most⟩ : St).bytes ⟨id, A, n⟩ = List.replicate n 0 := by
      show sl (splice raw4 A (List.replicate (up n) 0)) A n = _
      have hx := sl_splice_same (r := raw4) (e := A) (b := List.replicate (up n) (0 : UInt8)) (by simpa using hk)
      have hn := up_ge n
      apply List.ext_getElem?
      intro i
      by_cases hi : i < n
      · rw [sl_getElem? _ _ _ _ hi, ← sl_getElem? _ _ _ _ (show i < (List.replicate (up n) (0 : UInt8)).length by simp; omega), hx]
        simp [hi, show i < up n by omega]
      · rw [List.getElem?_eq_none (by simp [sl]; omega), List.getElem?_eq_none (by simp; omega)]
    have e2 : (s2.all.map fun x => (x.id, (⟨splice raw4 A (List.replicate (up n) 0), insertE ⟨id, A, n⟩ s2.all, s2.used, s2.most⟩ : St).bytes x)) = s2.pairs := by
      refine List.map_congr_left fun x hx => ?_
      have h1 := h.lay.inside x hx
      have hu := up_ge x.len
      show (x.id, sl (splice raw4 A (List.replicate (up n) 0)) x.at_ x.len) = (x.id, sl s2.raw x.at_ x.len)
      by_cases h0 : x.len = 0
      · rw [h0]; simp [sl]
      · rw [sl_splice_far (by simpa using hk) (by have := hfree x hx; rw [List.length_replicate]; omega), hraw, sl_append (by omega)]
    rw [e1, e2]
    exact .cons _ h.pairs
end Go.Proofs.Ytgimcpnelogadaa.Sto
