/- Chapter 6: HeapSame: two heaps apart, their roots, step by step. -/
import Derived.Test.YtgimcpnelogadaaHpT
namespace Go.Proofs.Ytgimcpnelogadaa.Hp
open Go.RowKit Go.Proofs.Ytgimcpnelogadaa.Mem Go.Proofs.Ytgimcpnelogadaa.Sto Go.Proofs.Ytgimcpnelogadaa.Wd
set_option linter.unusedVariables false
set_option linter.unusedSimpArgs false
/-- Two heaps at pa and pb; x and y are the roots that are kept of them (La, Lb); Xa, Xb: what is there too. -/
structure Two (w : World) (pa pb units : Nat) (W : World) (x y : Value) (La Lb Xa Xb : List (Nat × Nat)) : Prop where
  ex : ∃ Ma Mb Ga Gb, LawG pa units Ma Ga W ∧ LawG pb units Mb Gb W ∧ Kept Ma La ∧ Kept Ma Xa ∧ Kept Mb Lb ∧ Kept Mb Xb ∧
    (∀ k ∈ Ga, k ∉ Gb ∧ x.ownBlock ≠ some k ∧ y.ownBlock ≠ some k ∧ w.heap.size ≤ k) ∧ (∀ k ∈ Gb, x.ownBlock ≠ some k ∧ y.ownBlock ≠ some k ∧ w.heap.size ≤ k)
  rx : Row W 22 1 x (hwL La).length (u64V (hwL La))
  ry : Row W 22 1 y (hwL Lb).length (u64V (hwL Lb))
  ox : ∀ k, x.ownBlock = some k → y.ownBlock ≠ some k ∧ w.heap.size ≤ k
  oy : ∀ k, y.ownBlock = some k → w.heap.size ≤ k
  chg : Chg [] w W
section
variable {w W W1 : World} {pa pb units : Nat} {x y : Value} {La Lb Xa Xb : List (Nat × Nat)}
theorem sumL_eq : ∀ {A B : List (Nat × Nat)}, A.map Prod.snd = B.map Prod.snd → sumL A = sumL B
  | [], [], _ => rfl
  | a :: A, b :: B, h => by
    simp only [List.map_cons, List.cons.injEq] at h
    have := sumL_eq h.2
    unfold sumL at this ⊢
    simp only [List.map_cons, List.sum_cons, h.1, this]
  | [], b :: B, h => by cases h
  | a :: A, [], h => by cases h
theorem Two.same (h : Two w pa pb units W x y La Lb Xa Xb) (hc : Chg [] W W1) : Two w pa pb units W1 x y La Lb Xa Xb := by
  obtain ⟨Ma, Mb, Ga, Gb, h1, h2, k1, k2, k3, k4, a1, a2⟩ := h.ex
  exact ⟨⟨Ma, Mb, Ga, Gb, h1.chg hc (by simp), h2.chg hc (by simp), k1, k2, k3, k4, a1, a2⟩, h.rx.chg hc (by simp), h.ry.chg hc (by simp), h.ox, h.oy, h.chg.then hc (by simp)⟩
theorem Two.less (h : Two w pa pb units W x y La Lb Xa Xb) : Two w pa pb units W x y La Lb La Lb := by
  obtain ⟨Ma, Mb, Ga, Gb, h1, h2, k1, k2, k3, k4, a1, a2⟩ := h.ex
  exact ⟨⟨Ma, Mb, Ga, Gb, h1, h2, k1, k1, k3, k3, a1, a2⟩, h.rx, h.ry, h.ox, h.oy, h.chg⟩
theorem Two.lts (h : Two w pa pb units W x y La Lb Xa Xb) : (∀ v ∈ hwL La, v < 18446744073709551616) ∧ (∀ v ∈ hwL Lb, v < 18446744073709551616) := by
  obtain ⟨Ma, Mb, Ga, Gb, h1, h2, k1, k2, k3, k4, a1, a2⟩ := h.ex
  have key : ∀ {M : List (Option MC)} {L : List (Nat × Nat)}, M.length ≤ 1048576 → Kept M L → ∀ v ∈ hwL L, v < 18446744073709551616 := fun hs hk v hv => by
    obtain ⟨q, hq, rfl⟩ := List.mem_map.1 hv
    obtain ⟨m, hm, _⟩ := hk.at_ q hq
    have := (List.getElem?_eq_some_iff.1 hm).1
    unfold hw
    omega
  have small : ∀ {p : Nat} {M : List (Option MC)} {G : List Nat}, LawG p units M G W → M.length ≤ 1048576 := fun h => by
    obtain ⟨cv, rp, F, most, h1, _⟩ := h.ex
    have := h1.small
    omega
  exact ⟨key (small h1) k1, key (small h2) k3⟩
theorem zeros_sound (M : List (Option MC)) (k : Nat) : (List.replicate k 0 : List Nat).all (soundB M) = true := by
  rw [List.all_eq_true]
  intro v hv
  rw [List.eq_of_mem_replicate hv]
  unfold soundB
  rw [show cls 0 = 1 by decide]
  rfl
/-- Put into the first. -/
theorem Two.put_a {k : Nat} (h : Two w pa pb units W x y La Lb La Xb) (hc : Chg [] W W1) (hk : k ≤ 1048576) {wv rv : Value} (hwr : Row W1 22 1 wv k (u64V (List.replicate k 0))) (hws : ∀ g, wv.ownBlock = some g → W.heap.size ≤ g) (hr : Row W1 22 1 rv (hwL La).length (u64V (hwL La))) (hl : La.length ≤ 1000000000) :
    Calls Try.prog 39 #[.pointer (some ⟨pa, 0, none⟩), .agg #[.int .i64 9, .bool false, .int .i64 0, .string noText, .slice none 0 0, wv, .int .u64 0, .int .i64 0, .int .i64 0], rv] W1 fun e w' =>
      (sumL La + (1 + k) ≤ units ∧ ∃ n, e = .returned (.tuple #[.int .u64 (hw n : Nat), .int .i64 0]) ∧ Two w pa pb units w' x y La Lb (La ++ [(n, k)]) Xb) ∨
      (units < sumL La + (1 + k) ∧ e = .returned (.tuple #[.int .u64 0, .int .i64 40]) ∧ Two w pa pb units w' x y La Lb La Xb) := by
  have h' := h.same hc
  have hlts := h.lts.1
  have hsz := hc.size
  have hWs := h.chg.size
  obtain ⟨Ma, Mb, Ga, Gb, h0, _, _, _, _, _, _, _⟩ := h.ex
  obtain ⟨Ma, Mb, Ga, Gb, h1, h2, k1, k2, k3, k4, a1, a2⟩ := h.ex
  have hlt1 := h1.lt
  have h1' := h1.chg hc (by simp)
  have h2' := h2.chg hc (by simp)
  have hlt2 := h2'.lt
  refine (put_row_g (l := List.replicate k 0) h1' (by rw [List.length_replicate]; exact hwr) (fun g hg hm => by have := hlt1 g hm; have := hws g hg; omega) (by simpa using hk) (fun v hv => by rw [List.eq_of_mem_replicate hv]; decide) (zeros_sound _ _) hr (by simpa [hwL] using hl) hlts).mono ?_
  intro e w' hp
  obtain ⟨hch, G', hG, hp⟩ := put_kept k1 h1'.small hp
  have hx' : ∀ g, x.ownBlock = some g → g ∉ Ga := fun g hg hm => (a1 g hm).2.1 hg
  have hy' : ∀ g, y.ownBlock = some g → g ∉ Ga := fun g hg hm => (a1 g hm).2.2.1 hg
  have hrx := h'.rx.chg hch hx'
  have hry := h'.ry.chg hch hy'
  have hxl : ∀ g, x.ownBlock = some g → g < W1.heap.size := fun g hg => h'.rx.lt hg
  have hyl : ∀ g, y.ownBlock = some g → g < W1.heap.size := fun g hg => h'.ry.lt hg
  have h2n := h2'.chg hch (fun j hj hm => (a1 j hm).1 hj)
  have hch' := h'.chg.then hch (fun v hv => .inr (a1 v hv).2.2.2)
  have a1' : ∀ j ∈ G', j ∉ Gb ∧ x.ownBlock ≠ some j ∧ y.ownBlock ≠ some j ∧ w.heap.size ≤ j := fun j hj => by
    rcases hG j hj with e | e
    · exact a1 j e
    · exact ⟨fun hm => by have := hlt2 j hm; omega, fun hm => by have := hxl j hm; omega, fun hm => by have := hyl j hm; omega, by omega⟩
  rcases hp with ⟨hle, n, M', he, hL, e1, e2⟩ | ⟨hlt, he, M', hL, e1⟩
  · exact .inl ⟨hle, n, he, ⟨M', Mb, G', Gb, hL, h2n, e1, e2, k3, k4, a1', a2⟩, hrx, hry, h.ox, h.oy, hch'⟩
  · exact .inr ⟨hlt, he, ⟨M', Mb, G', Gb, hL, h2n, e1, e1, k3, k4, a1', a2⟩, hrx, hry, h.ox, h.oy, hch'⟩
/-- The two in turn. -/
theorem Two.swap (h : Two w pa pb units W x y La Lb Xa Xb) : Two w pb pa units W y x Lb La Xb Xa := by
  obtain ⟨Ma, Mb, Ga, Gb, h1, h2, k1, k2, k3, k4, a1, a2⟩ := h.ex
  exact ⟨⟨Mb, Ma, Gb, Ga, h2, h1, k3, k4, k1, k2, fun k hk => ⟨fun hm => (a1 k hm).1 hk, (a2 k hk).2.1, (a2 k hk).1, (a2 k hk).2.2⟩, fun k hk => ⟨(a1 k hk).2.2.1, (a1 k hk).2.1, (a1 k hk).2.2.2⟩⟩, h.ry, h.rx,
    fun k hk => ⟨fun e => (h.ox k e).1 hk, h.oy k hk⟩, fun k hk => (h.ox k hk).2, h.chg⟩
theorem Two.reach_a (h : Two w pa pb units W x y La Lb Xa Xb) (hl : La.length ≤ 1000000000) :
    Calls Try.prog 40 #[.pointer (some ⟨pa, 0, none⟩), x] W fun e w' => e = .returned (.int .i64 (sumL La : Nat)) ∧ Chg [] W w' := by
  obtain ⟨Ma, Mb, Ga, Gb, h1, h2, k1, k2, k3, k4, a1, a2⟩ := h.ex
  refine (reach_g h1 h.rx (by simpa [hwL] using hl) h.lts.1).mono ?_
  rintro e w' ⟨B, he, hB, hc⟩
  rw [kept_units k1 h1.small (fun v hv => .inl hv) (fun v hv => hv) hB] at he
  exact ⟨he, hc⟩
theorem Two.collect_a (h : Two w pa pb units W x y La Lb Xa Xb) (hc : Chg [] W W1) {rv : Value} (hr : Row W1 22 1 rv (hwL La).length (u64V (hwL La))) (hl : La.length ≤ 1000000000) :
    Calls Try.prog 42 #[.pointer (some ⟨pa, 0, none⟩), rv] W1 fun e w' => e = .returned (.tuple #[]) ∧ Two w pa pb units w' x y La Lb La Xb := by
  have h' := h.same hc
  obtain ⟨Ma, Mb, Ga, Gb, h1, h2, k1, k2, k3, k4, a1, a2⟩ := h'.ex
  refine (collect_g h1 hr (by simpa [hwL] using hl) h.lts.1).mono ?_
  rintro e w' ⟨he, B, G', hB, hL, hch, hG⟩
  have e1 := kept_sweep k1 h1.small (fun v hv => .inl hv) (fun v hv => hv) hB
  exact ⟨he, ⟨_, Mb, G', Gb, hL, h2.chg hch (fun j hj hm => (a1 j hm).1 hj), e1, e1, k3, k4, fun j hj => a1 j (hG j hj), a2⟩, h'.rx.chg hch (fun g hg hm => (a1 g hm).2.1 hg), h'.ry.chg hch (fun g hg hm => (a1 g hm).2.2.1 hg), h.ox, h.oy, h'.chg.then hch (fun v hv => .inr (a1 v hv).2.2.2)⟩
/-- A new root of the first. -/
theorem Two.keep_a {n k : Nat} {W2 : World} {x' : Value} (h : Two w pa pb units W x y La Lb (La ++ [(n, k)]) Xb) (hc : Chg x.ownBlock.toList W W2) (hr : Row W2 22 1 x' (hwL La ++ [hw n]).length (u64V (hwL La ++ [hw n]))) (ho : ∀ g, x'.ownBlock = some g → x.ownBlock = some g ∨ W.heap.size ≤ g) :
    Two w pa pb units W2 x' y (La ++ [(n, k)]) Lb (La ++ [(n, k)]) Xb := by
  obtain ⟨Ma, Mb, Ga, Gb, h1, h2, k1, k2, k3, k4, a1, a2⟩ := h.ex
  have e : hwL (La ++ [(n, k)]) = hwL La ++ [hw n] := by simp [hwL]
  have hWs := h.chg.size
  have hm : ∀ g, g ∈ x.ownBlock.toList → x.ownBlock = some g := fun g hg => by simpa using hg
  have hlt1 := h1.lt
  have hlt2 := h2.lt
  refine ⟨⟨Ma, Mb, Ga, Gb, h1.chg hc (fun j hj hx => (a1 j hj).2.1 (hm j hx)), h2.chg hc (fun j hj hx => (a2 j hj).1 (hm j hx)), k2, k2, k3, k4, fun j hj => ⟨(a1 j hj).1, fun ex => ?_, (a1 j hj).2.2⟩, fun j hj => ⟨fun ex => ?_, (a2 j hj).2⟩⟩, by rw [e]; exact hr, h.ry.chg hc (fun g hg hx => (h.ox g (hm g hx)).1 hg), fun j hj => ?_, h.oy, h.chg.then hc (fun v hv => .inr (h.ox v (hm v hv)).2)⟩
  · rcases ho j ex with q | q
    · exact (a1 j hj).2.1 q
    · have := hlt1 j hj; omega
  · rcases ho j ex with q | q
    · exact (a2 j hj).1 q
    · have := hlt2 j hj; omega
  · rcases ho j hj with q | q
    · exact h.ox j q
    · exact ⟨fun ey => by have := h.ry.lt ey; omega, by omega⟩
end
/-- What a region makes, in whatever order: mk: a row of zeros; li: an empty literal; cp: a copy of l. -/
structure Mades (wc W : World) (m : Nat) (l : List Nat) (mk li : Option Nat) (cp : Option Value) : Prop where
  chg : Chg [] wc W
  mk_ : ∀ g, mk = some g → wc.heap.size ≤ g ∧ Blk W g 22 (List.replicate m (.int .u64 0))
  li_ : ∀ g, li = some g → wc.heap.size ≤ g ∧ Blk W g 22 [] ∧ mk ≠ some g
  cp_ : ∀ v, cp = some v → Row W 22 1 v l.length (u64V l) ∧ ∀ g, v.ownBlock = some g → wc.heap.size ≤ g
section
variable {wc W W' : World} {m g : Nat} {l : List Nat} {mk li : Option Nat} {cp : Option Value}
theorem Mades.start (h : Chg [] wc W) : Mades wc W m l none none none := ⟨h, (fun g h => by cases h), (fun g h => by cases h), (fun g h => by cases h)⟩
theorem Mades.make (h : Mades wc W m l none li cp) (hg : g = W.heap.size) (hb : Blk W' g 22 (List.replicate m (.int .u64 0))) (hc : Chg [] W W') : Mades wc W' m l (some g) li cp :=
  ⟨h.chg.then hc (by simp), fun j hj => by cases hj; exact ⟨by have := h.chg.size; omega, hb⟩, fun j hj => ⟨(h.li_ j hj).1, (h.li_ j hj).2.1.chg hc (by simp), fun e => by have := (h.li_ j hj).2.1.lt; cases e; omega⟩, fun v hv => ⟨(h.cp_ v hv).1.chg hc (by simp), (h.cp_ v hv).2⟩⟩
theorem Mades.lit (h : Mades wc W m l mk none cp) : Mades wc (W.alloc (.cells #[] 22)) m l mk (some W.heap.size) cp := by
  have hc : Chg [] W (W.alloc (.cells #[] 22)) := (Chg.refl [] W).alloc _
  refine ⟨h.chg.alloc _, fun j hj => ⟨(h.mk_ j hj).1, (h.mk_ j hj).2.alloc _⟩, fun j hj => ?_, fun v hv => ⟨(h.cp_ v hv).1.alloc _, (h.cp_ v hv).2⟩⟩
  cases hj
  exact ⟨h.chg.size, Blk.newL [] rfl, fun e => by have := (h.mk_ _ e).2.lt; omega⟩
theorem Mades.copy {y : Value} (h : Mades wc W m l mk (some g) none) (hy : Row wc 22 1 y l.length (u64V l)) (hl : l.length ≤ 1000000000) :
    ∃ v w1, (∀ ty consts, (builtin .append #[58, 58] ty consts #[.slice (some ⟨g, 0, none⟩) 0 0, y]).run Try.prog W = .ok (.value v) w1) ∧ Mades wc w1 m l mk none (some v) := by
  obtain ⟨h1, h2, h3⟩ := h.li_ g rfl
  obtain ⟨v, w1, hrun, hrow, hch, hown⟩ := app64g h2 (hy.chg h.chg (by simp)) hl
  refine ⟨v, w1, hrun, h.chg.then hch (fun x hx => .inr (by simp at hx; omega)), fun j hj => ⟨(h.mk_ j hj).1, (h.mk_ j hj).2.chg hch (by simp; exact fun e => h3 (by rw [hj, e]))⟩, (fun j hj => by cases hj), fun u hu => ?_⟩
  cases hu
  refine ⟨hrow, fun j hj => ?_⟩
  have := h.chg.size
  rcases hown j hj with e | e <;> omega
theorem put_cases {A B D : Prop} {C : Nat → Prop} {e : Ending} (hp : (A ∧ ∃ n, e = .returned (.tuple #[.int .u64 (hw n : Nat), .int .i64 0]) ∧ C n) ∨ (B ∧ e = .returned (.tuple #[.int .u64 0, .int .i64 40]) ∧ D)) :
    ∃ (ha : Nat) (er : Int), e = .returned (.tuple #[.int .u64 (ha : Int), .int .i64 er]) ∧ Mem.Aside ((er = 0 ∧ A ∧ ∃ n, ha = hw n ∧ C n) ∨ (er = 40 ∧ ha = 0 ∧ B ∧ D)) := by
  rcases hp with ⟨h1, n, h2, h3⟩ | ⟨h1, h2, h3⟩
  · exact ⟨hw n, 0, h2, ⟨.inl ⟨rfl, h1, n, rfl, h3⟩⟩⟩
  · exact ⟨0, 40, h2, ⟨.inr ⟨rfl, rfl, h1, h3⟩⟩⟩
end
section
variable {w W W1 : World} {pa pb units : Nat} {x y : Value} {La Lb Xa Xb : List (Nat × Nat)}
/-- Put into the second. -/
theorem Two.put_b {k g : Nat} {li : Option Nat} {rv : Value} (h : Two w pa pb units W x y La Lb Xa Lb) (J : Mades W W1 k (hwL Lb) (some g) li (some rv)) (hk : k ≤ 100) (hl : Lb.length ≤ 1000000000) :
    Calls Try.prog 39 #[.pointer (some ⟨pb, 0, none⟩), .agg #[.int .i64 9, .bool false, .int .i64 0, .string noText, .slice none 0 0, .slice (some ⟨g, 0, none⟩) k k, .int .u64 0, .int .i64 0, .int .i64 0], rv] W1 fun e w' =>
      (sumL Lb + (1 + k) ≤ units ∧ ∃ n, e = .returned (.tuple #[.int .u64 (hw n : Nat), .int .i64 0]) ∧ Two w pa pb units w' x y La Lb Xa (Lb ++ [(n, k)])) ∨
      (units < sumL Lb + (1 + k) ∧ e = .returned (.tuple #[.int .u64 0, .int .i64 40]) ∧ Two w pa pb units w' x y La Lb Xa Lb) := by
  obtain ⟨m1, m2⟩ := J.mk_ g rfl
  obtain ⟨c1, c2⟩ := J.cp_ rv rfl
  refine (h.swap.put_a (k := k) J.chg (by omega) (wv := .slice (some ⟨g, 0, none⟩) k k) (by
    rw [show u64V (List.replicate k 0) = List.replicate k (.int .u64 0) by simp [u64V]]
    exact Row.mk (rest := []) (by rw [List.append_nil]; exact m2) (by simp) (Nat.le_refl _) (by omega) (by simp)) (fun j hj => by cases hj; exact m1) c1 hl).mono ?_
  rintro e w' (⟨h1, n, h2, h3⟩ | ⟨h1, h2, h3⟩)
  · exact .inl ⟨h1, n, h2, h3.swap⟩
  · exact .inr ⟨h1, h2, h3.swap⟩
end
end Go.Proofs.Ytgimcpnelogadaa.Hp
