/- append at a row that is owned: in place, or in a new block. -/
import Derived.Test.YtgimcpnelogadaaMemB
namespace Go.Proofs.Ytgimcpnelogadaa.Mem
open Go.RowKit
set_option linter.unusedVariables false
variable {P : Program} {w : World}

/-- How a row of the table of types reads. -/
structure Elem (P : Program) (e : TypeId) (size bytes : Nat) (z : Value) : Prop where
  info : ∃ i, P.info? e = some i ∧ i.zero = some z ∧ i.size = size ∧ i.bytes = bytes
  zsize : z.cells.size = size
  zone : ∀ v ∈ z.cells.toList, v.oneCell' = true
  pos : 0 < size

theorem Elem.of {e : TypeId} {size bytes : Nat} {z : Value} (h : (P.info? e).map (fun i => (i.zero, i.size, i.bytes)) = some (some z, size, bytes)) (hs : z.cells.size = size) (h1 : ∀ v ∈ z.cells.toList, v.oneCell' = true) (h0 : 0 < size) : Elem P e size bytes z := by
  obtain ⟨i0, hi, hz0, hz1, hz2⟩ := info_parts h
  exact ⟨⟨i0, hi, hz0, hz1, hz2⟩, hs, h1, h0⟩

theorem Row.append {t e : TypeId} {size bytes n m c : Nat} {z v : Value} {xs news : List Value} (h : Row w e size v n xs) (ht : P.underlying t = some (.slice e)) (E : Elem P e size bytes z)
    {ad : Addr} (hl : news.length = m * size) (hnews : ∀ j u, news[j]? = some u → w.cell? (ad.add j) = some u) (h1 : ∀ u ∈ news, u.oneCell' = true)
    (h63 : n + m ≤ 9223372036854775807) (hb : (n + m) * bytes ≤ 140737488355328) :
    ∃ v' w', (∀ ty consts, (builtin .append #[t, t] ty consts #[v, .slice (some ad) m c]).run P w = .ok (.value v') w') ∧ Row w' e size v' (n + m) (xs ++ news) ∧ Chg v.ownBlock.toList w w' ∧
      (v'.ownBlock = v.ownBlock ∨ v'.ownBlock = some w.heap.size) := by
  obtain ⟨i, hi, hz, hsz, hby⟩ := E.info
  subst hsz hby
  by_cases hm0 : m = 0
  · subst hm0
    have hn0 : news = [] := List.eq_nil_of_length_eq_zero (by simpa using hl)
    subst hn0
    obtain ⟨a, cp, rfl⟩ : ∃ a cp, v = .slice a n cp := by
      rcases h.cases with ⟨rfl, rfl, _⟩ | ⟨g, cap, rest, rfl, _⟩
      · exact ⟨_, _, rfl⟩
      · exact ⟨_, _, rfl⟩
    have hcp : n ≤ cp := by
      rcases h.cases with ⟨h1, rfl, _⟩ | ⟨g, cap, rest, h1, _, hn, _⟩
      · cases h1; exact Nat.le_refl _
      · cases h1; exact hn
    exact ⟨_, _, fun ty consts => run_append_zero w ht hi hcp consts, by simpa using h, Chg.refl _ _, .inl rfl⟩
  have hnew : ∀ (olds : List Value) (cap : Nat), olds.length = n * i.size → n + m ≤ grownCap w (n + m) cap e →
      Row (w.drew.alloc (.cells (olds.toArray ++ news.toArray ++ Builtin.zeroCells z.cells (grownCap w (n + m) cap e - (n + m))) e)) e i.size (.slice (some ⟨w.heap.size, 0, none⟩) (n + m) (grownCap w (n + m) cap e)) (n + m) (olds ++ news) := by
    intro olds cap hol hge
    refine Row.mk (rest := (Builtin.zeroCells z.cells (grownCap w (n + m) cap e - (n + m))).toList) ?_ (by rw [List.length_append, hol, hl, Nat.add_mul]) hge ?_ ?_
    · have := Blk.newL (w := w.drew) (t := e) (olds ++ news ++ (Builtin.zeroCells z.cells (grownCap w (n + m) cap e - (n + m))).toList) (rfl : w.heap.size = w.drew.heap.size)
      have e1 : (olds ++ news ++ (Builtin.zeroCells z.cells (grownCap w (n + m) cap e - (n + m))).toList).toArray = olds.toArray ++ news.toArray ++ Builtin.zeroCells z.cells (grownCap w (n + m) cap e - (n + m)) := by
        apply Array.ext'; simp
      rw [e1] at this
      exact this
    · have := grownCap_le_maxLen w (n + m) cap e (by unfold maxLen; omega)
      simpa only [maxLen] using this
    · rw [List.length_append, List.length_append, hol, hl, zeroCells_length, E.zsize, ← Nat.add_mul, ← Nat.add_mul]
      congr 1; omega
  rcases h.cases with ⟨rfl, rfl, rfl⟩ | ⟨g, cap, rest, rfl, hbk, hn, hcap, hlen⟩
  · have h48 : m * i.bytes ≤ 281474976710656 := by rw [Nat.zero_add] at hb; omega
    have hr := fun ty => run_append_nil (P := P) w t ty e i z ht hi hz ad m c news hl hnews (by omega) (by omega) h48
    have hN := hnew [] 0 (by simp) (by have := grownCap_ge w (0 + m) 0 e; omega)
    simp only [Nat.zero_add, List.nil_append] at hN ⊢
    refine ⟨.slice (some ⟨w.heap.size, 0, none⟩) m (grownCap w m 0 e), w.drew.alloc (.cells (news.toArray ++ Builtin.zeroCells z.cells (grownCap w m 0 e - m)) e), fun ty consts => by simp [builtin, hr], ?_, (Chg.refl _ _).drew.alloc _, .inr rfl⟩
    simpa using hN
  · by_cases hroom : n + m ≤ cap
    · have hfit : 0 + n * i.size + news.length ≤ (xs ++ rest).length := by rw [hlen, hl, Nat.zero_add, ← Nat.add_mul]; exact Nat.mul_le_mul_right _ hroom
      refine ⟨_, _, fun ty consts => run_append_room_blk w ht hi hbk hl hnews h1 hroom hfit consts, ?_, (Chg.refl _ _).setRow (by simp [Value.ownBlock]) _, .inl rfl⟩
      have hxl := h.length
      have hsp : splice (xs ++ rest) (0 + n * i.size) news = (xs ++ news) ++ rest.drop news.length := by
        unfold splice
        rw [Nat.zero_add, ← hxl, List.take_left, List.drop_append, List.drop_eq_nil_of_le (by omega), List.nil_append, show xs.length + news.length - xs.length = news.length by omega, List.append_assoc]
      rw [hsp]
      refine Row.mk (hbk.setRow _) (by rw [List.length_append, hxl, hl, Nat.add_mul]) hroom hcap ?_
      rw [List.length_append, List.length_append, List.length_drop]
      rw [List.length_append] at hlen
      have : news.length ≤ rest.length := by
        have h2 := Nat.mul_le_mul_right i.size hroom
        rw [Nat.add_mul] at h2
        omega
      omega
    · have hr := fun ty => run_append_grow (P := P) w t ty e i z ht hi hz ⟨g, 0, none⟩ n cap xs h.length (hbk.from (fun j u hu => by rw [Nat.zero_add, List.getElem?_append_left (List.getElem?_eq_some_iff.1 hu).1]; exact hu)) ad m c news hl hnews (by omega) (by omega) (growslice_fits (by omega) hb)
      refine ⟨.slice (some ⟨w.heap.size, 0, none⟩) (n + m) (grownCap w (n + m) cap e), w.drew.alloc (.cells (xs.toArray ++ news.toArray ++ Builtin.zeroCells z.cells (grownCap w (n + m) cap e - (n + m))) e), fun ty consts => by simp only [builtin, Sem.run_bind, hr]; rfl, ?_, (Chg.refl _ _).drew.alloc _, .inr rfl⟩
      exact hnew xs cap h.length (grownCap_ge w (n + m) cap e)

/-- append(s, make([]T, k)...). -/
theorem Row.appendZeros {t tn e : TypeId} {size bytes n k : Nat} {kq kn : IntKind} {z v : Value} {xs : List Value} (h : Row w e size v n xs) (ht : P.underlying t = some (.slice e)) (htn : P.underlying tn = some (.int kn)) (E : Elem P e size bytes z)
    (h0 : 0 < k) (h63 : n + k ≤ 9223372036854775807) (hb : (n + k) * bytes ≤ 140737488355328) :
    ∃ v' w', (∀ ty consts, (builtin .append #[t, tn] ty consts #[v, .int kq (k : Int)]).run P w = .ok (.value v') w') ∧ Row w' e size v' (n + k) (xs ++ (Builtin.zeroCells z.cells k).toList) ∧ Chg v.ownBlock.toList w w' ∧
      (((∃ a cap, v = .slice a n cap ∧ n + k ≤ cap) ∧ v'.ownBlock = v.ownBlock) ∨ (v'.ownBlock = some w.heap.size ∧ Chg [] w w')) := by
  obtain ⟨i, hi, hz, hsz, hby⟩ := E.info
  subst hsz hby
  have hk48 : k * i.bytes ≤ 281474976710656 := by
    have : k * i.bytes ≤ (n + k) * i.bytes := Nat.mul_le_mul_right _ (by omega)
    omega
  have hnew : ∀ (olds : List Value) (cap : Nat), olds.length = n * i.size → n + k ≤ grownCap w (n + k) cap e →
      Row (w.drew.alloc (.cells (olds.toArray ++ Builtin.zeroCells z.cells k ++ Builtin.zeroCells z.cells (grownCap w (n + k) cap e - (n + k))) e)) e i.size (.slice (some ⟨w.heap.size, 0, none⟩) (n + k) (grownCap w (n + k) cap e)) (n + k) (olds ++ (Builtin.zeroCells z.cells k).toList) := by
    intro olds cap hol hge
    refine Row.mk (rest := (Builtin.zeroCells z.cells (grownCap w (n + k) cap e - (n + k))).toList) ?_ (by rw [List.length_append, hol, zeroCells_length, E.zsize, Nat.add_mul]) hge ?_ ?_
    · have := Blk.newL (w := w.drew) (t := e) (olds ++ (Builtin.zeroCells z.cells k).toList ++ (Builtin.zeroCells z.cells (grownCap w (n + k) cap e - (n + k))).toList) (rfl : w.heap.size = w.drew.heap.size)
      have e1 : (olds ++ (Builtin.zeroCells z.cells k).toList ++ (Builtin.zeroCells z.cells (grownCap w (n + k) cap e - (n + k))).toList).toArray = olds.toArray ++ Builtin.zeroCells z.cells k ++ Builtin.zeroCells z.cells (grownCap w (n + k) cap e - (n + k)) := by
        apply Array.ext'; simp
      rw [e1] at this
      exact this
    · have := grownCap_le_maxLen w (n + k) cap e (by unfold maxLen; omega)
      simpa only [maxLen] using this
    · rw [List.length_append, List.length_append, hol, zeroCells_length, zeroCells_length, E.zsize, ← Nat.add_mul, ← Nat.add_mul]
      congr 1; omega
  have hgrow : ∀ (base : Option Addr) (cap : Nat), cap < n + k → (Builtin.firstCells i.size n (.slice base n cap)).run P w.drew = .ok xs.toArray w.drew → v = .slice base n cap →
      ∃ v' w', (∀ ty consts, (builtin .append #[t, tn] ty consts #[v, .int kq (k : Int)]).run P w = .ok (.value v') w') ∧ Row w' e i.size v' (n + k) (xs ++ (Builtin.zeroCells z.cells k).toList) ∧ Chg v.ownBlock.toList w w' ∧
      (((∃ a cap, v = .slice a n cap ∧ n + k ≤ cap) ∧ v'.ownBlock = v.ownBlock) ∨ (v'.ownBlock = some w.heap.size ∧ Chg [] w w')) := by
    rintro base cap hlt hf rfl
    have hr := fun ty => Go.Lib.run_append_grow_zeros (P := P) w t tn ty e i z kq kn ht htn hi hz base n cap xs hf k h0 E.pos hlt (by omega) hk48 (growslice_fits hlt hb)
    refine ⟨.slice (some ⟨w.heap.size, 0, none⟩) (n + k) (grownCap w (n + k) cap e), w.drew.alloc (.cells (xs.toArray ++ Builtin.zeroCells z.cells k ++ Builtin.zeroCells z.cells (grownCap w (n + k) cap e - (n + k))) e), fun ty consts => by simp only [builtin, Sem.run_bind, hr]; rfl, hnew xs cap h.length (grownCap_ge w (n + k) cap e), (Chg.refl _ _).drew.alloc _, .inr ⟨rfl, (Chg.refl _ _).drew.alloc _⟩⟩
  rcases h.cases with ⟨hv, hn, hx⟩ | ⟨g, cap, rest, hv, hbk, hn, hcap, hlen⟩
  · subst hn hx
    exact hgrow none 0 (by omega) (by simp [Builtin.firstCells]) hv
  · by_cases hroom : n + k ≤ cap
    · subst hv
      have hfit : 0 + n * i.size + k * i.size ≤ (xs ++ rest).length := by rw [hlen, Nat.zero_add, ← Nat.add_mul]; exact Nat.mul_le_mul_right _ hroom
      refine ⟨_, _, fun ty consts => run_append_zeros_blk w ht htn hi hz E.zsize E.pos hbk h0 E.zone hk48 (by omega) hroom hfit consts, ?_, (Chg.refl _ _).setRow (by simp [Value.ownBlock]) _, .inl ⟨⟨_, _, rfl, hroom⟩, rfl⟩⟩
      have hxl := h.length
      have hzl : (Builtin.zeroCells z.cells k).toList.length = k * i.size := by rw [zeroCells_length, E.zsize]
      have hsp : splice (xs ++ rest) (0 + n * i.size) (Builtin.zeroCells z.cells k).toList = (xs ++ (Builtin.zeroCells z.cells k).toList) ++ rest.drop (k * i.size) := by
        unfold splice
        rw [Nat.zero_add, ← hxl, List.take_left, List.drop_append, List.drop_eq_nil_of_le (by omega), List.nil_append, hzl, show xs.length + k * i.size - xs.length = k * i.size by omega, List.append_assoc]
      rw [hsp]
      refine Row.mk (hbk.setRow _) (by rw [List.length_append, hxl, hzl, Nat.add_mul]) hroom hcap ?_
      rw [List.length_append, List.length_append, List.length_drop, hzl]
      rw [List.length_append] at hlen
      have : k * i.size ≤ rest.length := by
        have h2 := Nat.mul_le_mul_right i.size hroom
        rw [Nat.add_mul] at h2
        omega
      omega
    · refine hgrow (some ⟨g, 0, none⟩) cap (by omega) ?_ hv
      exact run_firstCells_some (P := P) w.drew i.size n ⟨g, 0, none⟩ n cap xs h.length (fun j u hu => hbk.from (fun j u hu => by rw [Nat.zero_add, List.getElem?_append_left (List.getElem?_eq_some_iff.1 hu).1]; exact hu) j u hu)
end Go.Proofs.Ytgimcpnelogadaa.Mem
