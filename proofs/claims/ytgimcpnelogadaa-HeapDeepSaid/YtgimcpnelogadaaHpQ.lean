/- Chapter 6: HeapDeep walks. -/
import Derived.Test.YtgimcpnelogadaaHpM
namespace Go.Proofs.Ytgimcpnelogadaa.Hp
open Go.RowKit Go.Proofs.Ytgimcpnelogadaa.Mem Go.Proofs.Ytgimcpnelogadaa.Sto Go.Proofs.Ytgimcpnelogadaa.Wd
set_option linter.unusedVariables false
set_option linter.unusedSimpArgs false

/-- The word of the chain's end behind i rows. -/
def endW : Nat → Nat
  | 0 => 0
  | i + 1 => hw i
def Chain (M : List (Option MC)) : Prop := ∀ i, i < M.length → ∃ m, M[i]? = some (some m) ∧ m.c = rowC [endW i]
theorem endW_lt {i : Nat} (h : i ≤ 1048576) : endW i < 18446744073709551616 := by
  cases i with
  | zero => decide
  | succ i => show hw i < _; unfold hw; omega
theorem chain_full {M : List (Option MC)} (h : Chain M) : ∀ j : Nat, M[j]? ≠ some none := by
  intro j e
  obtain ⟨m, hm, _⟩ := h j (List.getElem?_eq_some_iff.1 e).1
  rw [hm] at e
  cases e
theorem chain_snoc {M : List (Option MC)} {m : MC} (h : Chain M) (hm : m.c = rowC [endW M.length]) : Chain (M ++ [some m]) := by
  intro i hi
  by_cases c : i < M.length
  · obtain ⟨x, hx, e⟩ := h i c
    exact ⟨x, by rw [List.getElem?_append_left c]; exact hx, e⟩
  · have : i = M.length := by simp at hi; omega
    subst this
    exact ⟨m, by simp, hm⟩
theorem usedOf_snoc (M : List (Option MC)) (m : MC) : usedOf (M ++ [some m]) = usedOf M + m.c.need := by simp [usedOf]
theorem all_units {M : List (Option MC)} {B : List Bool} (h : ∀ i, i < M.length → B.getD i false = true) : unitsOf (celsOf M) B = usedOf M := by
  rw [← needs_sum]
  unfold unitsOf
  congr 1
  refine List.map_congr_left fun i hi => ?_
  rw [if_pos (h i (by simpa [celsOf] using hi))]
theorem none_units {M : List (Option MC)} {B : List Bool} (h : ∀ i, B.getD i false = false) : unitsOf (celsOf M) B = 0 := by
  unfold unitsOf
  have : ((List.range (celsOf M).length).map fun n => if B.getD n false = true then (celsOf M).need n else 0) = (List.range (celsOf M).length).map fun _ => 0 := List.map_congr_left fun i _ => by rw [h i]; rfl
  rw [this]
  induction List.range (celsOf M).length with
  | nil => rfl
  | cons a l ih => simpa using ih
theorem all_sw {M : List (Option MC)} {B : List Bool} (h : ∀ i, i < M.length → B.getD i false = true) : swK B M.length M = M := by
  apply List.ext_getElem?
  intro i
  rw [swK_get]
  by_cases c : i < M.length
  · rw [List.getElem?_eq_getElem c, Option.map_some, if_neg (by rw [h i c]; simp)]
  · rw [List.getElem?_eq_none (by omega)]; rfl
section
variable {w W : World} {p units : Nat} {M : List (Option MC)}
theorem chain_marks (h : LawH w p units M W) (hc : Chain M) {R : List Nat} {B : List Bool} (hR : endW M.length ∈ R) (hM : Marks M R B) : ∀ i, i < M.length → B.getD i false = true := by
  have key : ∀ d i, i + d + 1 = M.length → Rch (celsOf M) R i := by
    intro d
    induction d with
    | zero =>
      intro i hi
      obtain ⟨m, hm, _⟩ := hc i (by omega)
      refine .root (w := hw i) ?_ (h.at_hw hm).2.1
      rw [show M.length = i + 1 by omega] at hR
      exact hR
    | succ d ih =>
      intro i hi
      have h1 := ih (i + 1) (by omega)
      obtain ⟨m, hm, hmc⟩ := hc (i + 1) (by omega)
      obtain ⟨m0, hm0, _⟩ := hc i (by omega)
      refine .next h1 (w := hw i) ?_ (h.at_hw hm0).2.1
      unfold Cells.refs celsOf
      rw [List.getElem?_map, hm]
      show hw i ∈ m.c.refs
      unfold Cel.refs
      rw [hmc]
      simp [rowC, endW]
  intro i hi
  exact (hM.2 i).2 (key (M.length - i - 1) i (by omega))
theorem zero_marks {R : List Nat} {B : List Bool} (hR : ∀ x ∈ R, x = 0) (hM : Marks M R B) : ∀ i, B.getD i false = false := by
  intro i
  cases hb : B.getD i false with
  | false => rfl
  | true =>
    have : ∀ n, ¬ Rch (celsOf M) R n := by
      intro n hn
      induction hn with
      | root hw h =>
        have := hR _ hw
        subst this
        have := (atM_at.1 h).1
        rw [show hdl 0 = none by decide] at this
        cases this
      | next _ _ _ ih => exact ih
    exact absurd ((hM.2 i).1 hb) (this i)
theorem sound_zero : soundB M 0 = true := by unfold soundB; rw [show cls 0 = 1 by decide]; rfl
theorem sound_end (h : LawH w p units M W) (hc : Chain M) : soundB M (endW M.length) = true := by
  cases hl : M.length with
  | zero => exact sound_zero
  | succ k =>
    obtain ⟨m, hm, _⟩ := hc k (by omega)
    have := h.at_hw hm
    exact sound_hw this.2.2 this.1
end
theorem u64V_zero (n : Nat) : u64V (List.replicate n 0) = List.replicate n (.int .u64 0) := by simp [u64V]

set_option maxHeartbeats 16000000 in
set_option maxRecDepth 100000 in
theorem deep_walk (n : Int) (hn : -9223372036854775808 ≤ n ∧ n ≤ 9223372036854775807) (w : World) :
    Calls Try.prog 10 #[.int .i64 n] w fun e w' => e = .returned (.bool true) ∧ Below w.heap.size w w' := by
  by_cases n1 : n < 1
  · go_enter Try.func10, Try.ntmps10
    go_wp2
    go_ret
    exact ⟨rfl, Below.refl _ _⟩
  by_cases n2 : 30000 < n
  · go_enter Try.func10, Try.ntmps10
    go_wp2
    go_ret
    exact ⟨rfl, Below.refl _ _⟩
  obtain ⟨k, rfl⟩ : ∃ k : Nat, n = (k : Int) := ⟨n.toNat, by omega⟩
  have hk1 : 1 ≤ k := by omega
  have hk2 : k ≤ 30000 := by omega
  have CN := Mem.Aside.mk (new_law (2 * k + 3) (by omega) w)
  have ec : ((2 * k + 3 : Nat) : Int) = 2 * (k : Int) + 3 := by omega
  rw [ec] at CN
  have m1 : IntKind.i64.wrap (2 * (k : Int)) = 2 * (k : Int) := IntWalk.i64_in _ (by omega)
  have m2 : IntKind.i64.wrap (2 * (k : Int) + 3) = 2 * (k : Int) + 3 := IntWalk.i64_in _ (by omega)
  obtain ⟨K2, hK2⟩ : ∃ K2, K2 = 2 * k + 2 := ⟨_, rfl⟩
  have m3 : IntKind.i64.wrap (2 * (k : Int) + 2) = (K2 : Int) := by rw [IntWalk.i64_in _ (by omega)]; omega
  have HK2 := Mem.Aside.mk hK2
  clear ec hK2
  go_enter Try.func10, Try.ntmps10
  go_wp2_with (go_at_call 38; (with_reducible refine CN.out.mono ?_); rintro e w1 ⟨p, rfl, h1⟩; have H1 := Mem.Aside.mk h1; clear h1)
  go_loopw [5, 6] (fun u i wr => ∃ (j : Nat) (M : List (Option MC)), i = .int .i64 (j : Int) ∧ u = .int .u64 (endW j : Nat) ∧ j ≤ k ∧ Mem.Aside (M.length = j ∧ Chain M ∧ usedOf M = 2 * j) ∧ Mem.Aside (LawH w p (2 * k + 3) M wr)) (fun _ i _ => k - (intOf i).toNat)
  case atStart => exact ⟨0, [], rfl, rfl, Nat.zero_le _, ⟨⟨rfl, fun i hi => by simp at hi, rfl⟩⟩, H1⟩
  case round =>
    obtain ⟨j, M, rfl, rfl, hj, HM, HL⟩ := hrel
    by_cases d : j < k
    · have d' : (j : Int) < (k : Int) := by omega
      have hwj := (IntWalk.i64_in ((j : Int) + 1) (by omega) : IntKind.i64.wrap ((j : Int) + 1) = ((j + 1 : Nat) : Int))
      have hel := endW_lt (i := j) (by omega)
      have hsd : soundB M (endW j) = true := by have := sound_end HL.out HM.out.2.1; rw [HM.out.1] at this; exact this
      obtain ⟨E, hE⟩ : ∃ E, E = endW j := ⟨_, rfl⟩
      rw [← hE] at hel hsd ⊢
      have HE := Mem.Aside.mk hE
      clear hE
      have hrA : Row ((wr.alloc (.cells #[.int .u64 (E : Int)] 22)).alloc (.cells #[.int .u64 (E : Int)] 22)) 22 1 (.slice (some ⟨wr.heap.size, 0, none⟩) 1 1) [E].length (u64V [E]) :=
        (Row.mk (rest := []) (Blk.newL [.int .u64 (E : Int)] rfl) rfl (Nat.le_refl _) (by decide) rfl : Row (wr.alloc (.cells #[.int .u64 (E : Int)] 22)) 22 1 (.slice (some ⟨wr.heap.size, 0, none⟩) 1 1) 1 [.int .u64 (E : Int)]).alloc _
      have hrR : Row ((wr.alloc (.cells #[.int .u64 (E : Int)] 22)).alloc (.cells #[.int .u64 (E : Int)] 22)) 22 1 (.slice (some ⟨wr.heap.size + 1, 0, none⟩) 1 1) [E].length (u64V [E]) := Row.mk (rest := []) (Blk.newL [.int .u64 (E : Int)] (by simp)) rfl (Nat.le_refl _) (by decide) rfl
      have CP := Mem.Aside.mk (put_row HL.out (((Chg.refl [] wr).alloc _).alloc _) hrA (fun g hg => by cases hg; exact Nat.le_refl _) (by simp) (by intro x hx; simp at hx; subst hx; exact hel) (by simp [hsd]) hrR (by simp) (by intro x hx; simp at hx; subst hx; exact hel))
      clear hrA hrR hsd
      go_wp2_with (go_at_call 39; (with_reducible refine CP.out.mono ?_); intro e w3 hp; obtain ⟨m, hm, rfl, h3⟩ : ∃ m : MC, m.c = rowC [E] ∧ e = .returned (.tuple #[.int .u64 (hw j : Nat), .int .i64 0]) ∧ LawH w p (2 * k + 3) (M ++ [some m]) w3 := (by
        have hu := HM.out.2.2
        have hnd : (rowC [E]).need = 2 := rfl
        rcases hp with ⟨M5, (⟨_, rfl⟩ | ⟨hlt, _⟩), n', m, M', hm, hP, he, hh⟩ | ⟨hlt, _⟩
        · obtain ⟨e1, rfl⟩ := placed_full hP (chain_full HM.out.2.1)
          rw [e1, HM.out.1] at he
          exact ⟨m, hm, he, hh⟩
        · rw [hu, hnd] at hlt; omega
        · rw [hu, hnd] at hlt; omega); have H3 := Mem.Aside.mk h3; have HMC := Mem.Aside.mk hm; clear hp h3 hm)
      refine ⟨⟨j + 1, M ++ [some m], by go_num, rfl, by omega, ⟨⟨by simp [HM.out.1], chain_snoc HM.out.2.1 (by rw [HMC.out, HE.out, HM.out.1]), ?_⟩⟩, H3⟩, by simp [intOf]; omega⟩
      rw [usedOf_snoc, HMC.out, HM.out.2.2]
      show 2 * j + 2 = _
      omega
    · have d' : decide ((j : Int) < (k : Int)) = false := decide_eq_false (by omega)
      obtain rfl : j = k := by omega
      have hel := endW_lt (i := j) (by omega)
      have hME : endW M.length = endW j := by rw [HM.out.1]
      obtain ⟨E, hE⟩ : ∃ E, E = endW j := ⟨_, rfl⟩
      rw [← hE] at hel hME ⊢
      have HE := Mem.Aside.mk (And.intro hME hel)
      clear hE hME hel
      have hrowE : ∀ (W5 : World) (o : Obj) (g : Nat), o = .cells #[.int .u64 (E : Int)] 22 → g = W5.heap.size → Row (W5.alloc o) 22 1 (.slice (some ⟨g, 0, none⟩) 1 1) [E].length (u64V [E]) := fun W5 o g ho hg => by
        rw [ho, hg]
        exact Row.mk (rest := []) (Blk.newL [.int .u64 (E : Int)] rfl) rfl (Nat.le_refl _) (by decide) rfl
      have HRE := Mem.Aside.mk hrowE
      have CR1 := Mem.Aside.mk (reach_law HL.out ((Chg.refl [] wr).alloc (.cells #[.int .u64 (E : Int)] 22)) (hrowE wr _ _ rfl rfl) (by simp) (by intro x hx; simp at hx; subst hx; exact HE.out.2))
      clear hrowE
      go_upto_region 16 with (go_at_call 40; (with_reducible refine CR1.out.mono ?_); rintro e w5 ⟨B, rfl, hB, h5, hc5⟩; have hun : unitsOf (celsOf M) B = 2 * j := (by rw [all_units (chain_marks HL.out HM.out.2.1 (by rw [HE.out.1]; simp) hB)]; exact HM.out.2.2); rw [hun, show ((2 * j : Nat) : Int) = 2 * (j : Int) by omega]; have H5 := Mem.Aside.mk h5; clear hB h5 hc5 hun)
      -- three words more do not fit
      have hall3 : ([0, 0, 0] : List Nat).all (soundB M) = true := by simp [sound_zero]
      have HA3 := Mem.Aside.mk hall3
      clear hall3
      go_upto_region 17 with (first
        | (at_make; refine wpList_make1 (z := .int .u64 0) rfl _ _ rfl Try.underlying58 elemU64 rfl 3 rfl rfl (by decide) (by decide) ?_; intro w6 hb6 hc6 hs6; have H6 := Mem.Aside.mk (And.intro hb6 (And.intro hc6 hs6)); have CP2 := Mem.Aside.mk (put_row H5.out (hc6.alloc (.cells #[.int .u64 (E : Int)] 22)) (wv := .slice (some ⟨w5.heap.size, 0, none⟩) 3 3) (l := [0, 0, 0]) ((Row.mk (rest := []) (show Blk w6 w5.heap.size 22 (u64V [0, 0, 0] ++ []) from hb6) rfl (Nat.le_refl _) (by decide) rfl : Row w6 22 1 (.slice (some ⟨w5.heap.size, 0, none⟩) 3 3) 3 (u64V [0, 0, 0])).alloc _) (fun g hg => by cases hg; exact Nat.le_refl _) (by simp) (by intro x hx; simp at hx; subst hx; decide) HA3.out (HRE.out w6 _ w6.heap.size rfl rfl) (by simp) (by intro x hx; simp at hx; subst hx; exact HE.out.2)); clear hb6 hc6 hs6)
        | (go_at_call 39; (with_reducible refine CP2.out.mono ?_); intro e w7 hp; obtain ⟨rfl, h7⟩ : e = .returned (.tuple #[.int .u64 0, .int .i64 40]) ∧ LawH w p (2 * j + 3) M w7 := (by
            have hu := HM.out.2.2
            have hnd : (rowC [0, 0, 0]).need = 4 := rfl
            rcases hp with ⟨M5, (⟨hle, _⟩ | ⟨_, B', hB, _, hle⟩), _⟩ | ⟨_, B', hB, _, he, hh⟩
            · rw [hu, hnd] at hle; omega
            · rw [all_units (chain_marks HL.out HM.out.2.1 (by rw [HE.out.1]; simp) hB), hu, hnd] at hle; omega
            · rw [all_sw (chain_marks HL.out HM.out.2.1 (by rw [HE.out.1]; simp) hB)] at hh
              exact (show _ ∧ _ from (show _ ∧ _ from (show _ ∧ _ from ⟨he, hh⟩)))); have H7 := Mem.Aside.mk h7; clear hp h7))
      have hallK : (List.replicate K2 0 : List Nat).all (soundB M) = true := by
        rw [List.all_eq_true]
        intro x hx
        rw [List.eq_of_mem_replicate hx]
        exact sound_zero
      have HAK := Mem.Aside.mk hallK
      clear hallK
      go_upto_region 20 with (first
        | (at_make; refine wpList_make1 (z := .int .u64 0) rfl _ _ rfl Try.underlying58 elemU64 rfl K2 rfl rfl (by have := HK2.out; omega) (by have := HK2.out; omega) ?_; intro w8 hb8 hc8 hs8; have CP3 := Mem.Aside.mk (put_row H7.out hc8 (wv := .slice (some ⟨w7.heap.size, 0, none⟩) K2 K2) (l := List.replicate K2 0) (by
            rw [u64V_zero, List.length_replicate]
            exact Row.mk (rest := []) (by rw [List.append_nil]; exact hb8) (by simp) (Nat.le_refl _) (by have := HK2.out; omega) (by simp)) (fun g hg => by cases hg; exact Nat.le_refl _) (by have := HK2.out; simp; omega) (by intro x hx; rw [List.eq_of_mem_replicate hx]; decide) HAK.out (rv := .slice none 0 0) (rs := []) (Row.nil _ _ _) (by simp) (by simp)); clear hb8 hc8 hs8)
        | (go_at_call 39; (with_reducible refine CP3.out.mono ?_); intro e w9 hp; obtain ⟨n9, M9, rfl, h9⟩ : ∃ (n9 : Nat) (M9 : List (Option MC)), e = .returned (.tuple #[.int .u64 (hw n9 : Nat), .int .i64 0]) ∧ LawH w p (2 * j + 3) M9 w9 := (by
            have hu := HM.out.2.2
            have hK2 := HK2.out
            have hnd : (rowC (List.replicate K2 0)).need = 1 + K2 := by simp [rowC]
            have hR0 : ∀ x ∈ ([] : List Nat) ++ ((rowC (List.replicate K2 0)).words ++ [(rowC (List.replicate K2 0)).base]), x = 0 := by
              intro x hx
              simp only [rowC, List.nil_append, List.mem_append, List.mem_singleton] at hx
              rcases hx with hx | hx
              · exact List.eq_of_mem_replicate hx
              · exact hx
            rcases hp with ⟨M5, _, n', m, M', hm, hP, he, hh⟩ | ⟨_, B', hB, hlt, _⟩
            · exact (show ∃ (n9 : Nat) (M9 : List (Option MC)), _ ∧ _ from ⟨n', M', he, hh⟩)
            · rw [none_units (zero_marks hR0 hB), hnd] at hlt; omega); have H9 := Mem.Aside.mk h9; have CR9 := Mem.Aside.mk (reach_law H9.out ((Chg.refl [] w9).alloc (.cells #[.int .u64 (E : Int)] 22)) (HRE.out w9 _ _ rfl rfl) (by simp) (by intro x hx; simp at hx; subst hx; exact HE.out.2)); clear hp h9))
      go_wp2_with (first
        | (go_at_call 40; (with_reducible refine CR9.out.mono ?_); rintro e w10 ⟨B, rfl, hB, h10, hc10⟩; have H10 := Mem.Aside.mk h10; obtain ⟨X, hX⟩ : ∃ X, X = unitsOf (celsOf M9) B := ⟨_, rfl⟩; rw [← hX]; have hx0 : decide ((0 : Int) ≤ (X : Int)) = true := decide_eq_true (by omega); have hx1 : (0 : Int) ≤ (X : Int) := (by omega); clear hB h10 hc10 hX)
        | (go_at_call 37; (with_reducible refine (awake6_calls _).mono ?_); rintro e w11 ⟨rfl, hc11⟩; have HC11 := Mem.Aside.mk (H10.out.chg.then hc11 (by simp)); clear hc11))
      go_ret
      exact ⟨rfl, HC11.out.below⟩
end Go.Proofs.Ytgimcpnelogadaa.Hp
