/- Chapter 5, the store, by hand: part. -/
import Derived.Test.YtgimcpnelogadaaStF
namespace Go.Proofs.Ytgimcpnelogadaa.Sto
open Go.RowKit Go.Proofs.Ytgimcpnelogadaa.Mem
set_option linter.unusedVariables false
set_option linter.unusedSimpArgs false

/-- A width. -/
def Wide (w : Int) : Prop := w = 1 ∨ w = 2 ∨ w = 4 ∨ w = 8
instance (w : Int) : Decidable (Wide w) := inferInstanceAs (Decidable (_ ∨ _))
/-- Whether bytes may be reached, of n. -/
def reachE (n : Nat) (off width : Int) : Int := if ¬ Wide width then 50 else if off.tmod width ≠ 0 then 32 else if off < 0 ∨ (n : Int) - width < off then 31 else 0

theorem part_none {w : World} {p : Nat} {s : St} {F : List Nat} (h : Sto w p s F) (k off width : Int) (hk : I64 k) (hn : atOf s.all k = none) :
    Calls Try.prog 66 #[.pointer (some ⟨p, 0, none⟩), .int .i64 k, .int .i64 off, .int .i64 width] w fun e w' => e = .returned (.tuple #[.slice none 0 0, .int .i64 30]) ∧ w = w' := by
  have C := Aside.mk (len_none h k hk hn)
  clear h hn hk
  go_enter Try.func66, Try.ntmps66
  go_wp2_with (go_at_call 28; (with_reducible refine C.out.mono ?_); rintro e w' ⟨rfl, rfl⟩)
  go_ret2
  exact ⟨rfl, rfl⟩

set_option maxRecDepth 100000 in
theorem part_bad {w : World} {p : Nat} {s : St} {F : List Nat} (h : Sto w p s F) (ho : Ok s) (hl : s.all.length ≤ 1000000000) (hr : s.raw.length ≤ 1000000000000) {i : Nat} (hi : i < s.all.length) (hk : I64 (s.all[i].id : Int)) (off width : Int) (hb : reachE s.all[i].len off width ≠ 0) :
    Calls Try.prog 66 #[.pointer (some ⟨p, 0, none⟩), .int .i64 (s.all[i].id : Int), .int .i64 off, .int .i64 width] w fun e w' => e = .returned (.tuple #[.slice none 0 0, .int .i64 (reachE s.all[i].len off width)]) ∧ Chg [] w w' := by
  have C := Aside.mk (len_some h ho hl hi hk)
  have hin := ho.lay.inside _ (List.getElem_mem hi)
  have hup := up_ge s.all[i].len
  have hlen : s.all[i].len ≤ 1000000000000 := by omega
  obtain ⟨N, hN⟩ : ∃ N, N = s.all[i].len := ⟨_, rfl⟩
  rw [← hN] at C hb hlen ⊢
  clear h ho hl hk hin hup hN hr
  by_cases c : Wide width
  · by_cases d : off.tmod width ≠ 0
    · have he : reachE N off width = 32 := by unfold reachE; rw [if_neg (by simpa using c), if_pos d]
      rw [he]
      clear he hb
      rcases c with rfl | rfl | rfl | rfl
      · exact absurd (Int.tmod_one off) d
      all_goals
        go_enter Try.func66, Try.ntmps66
        go_wp2_with (go_at_call 28; (with_reducible refine C.out.mono ?_); rintro e w' ⟨rfl, hc⟩)
        go_ret2
        exact ⟨rfl, hc⟩
    · have d' : off.tmod width = 0 := by omega
      have hx : off < 0 ∨ (N : Int) - width < off := by
        by_cases x : off < 0 ∨ (N : Int) - width < off
        · exact x
        · exact absurd (by unfold reachE; rw [if_neg (by simpa using c), if_neg d, if_neg x]) hb
      have he : reachE N off width = 31 := by unfold reachE; rw [if_neg (by simpa using c), if_neg d, if_pos hx]
      rw [he]
      clear he hb d
      rcases c with rfl | rfl | rfl | rfl
      all_goals
        rcases hx with hx | hx
        all_goals
          go_enter Try.func66, Try.ntmps66
          go_wp2_with (go_at_call 28; (with_reducible refine C.out.mono ?_); rintro e w' ⟨rfl, hc⟩)
          all_goals go_ret2
          all_goals exact ⟨rfl, hc⟩
  · have he : reachE N off width = 50 := by unfold reachE; rw [if_pos c]
    rw [he]
    unfold Wide at c
    have c1 : (width != 1) = true := bne_iff_ne.2 fun e => c (.inl e)
    have c2 : (width != 2) = true := bne_iff_ne.2 fun e => c (.inr (.inl e))
    have c3 : (width != 4) = true := bne_iff_ne.2 fun e => c (.inr (.inr (.inl e)))
    have c4 : (width != 8) = true := bne_iff_ne.2 fun e => c (.inr (.inr (.inr e)))
    clear he hb c
    go_enter Try.func66, Try.ntmps66
    go_wp2_with (go_at_call 28; (with_reducible refine C.out.mono ?_); rintro e w' ⟨rfl, hc⟩)
    go_ret2
    exact ⟨rfl, hc⟩

theorem reachE_zero {n : Nat} {off width : Int} (h : reachE n off width = 0) : ∃ o wd : Nat, off = o ∧ width = wd ∧ (wd = 1 ∨ wd = 2 ∨ wd = 4 ∨ wd = 8) ∧ o + wd ≤ n ∧ o % wd = 0 := by
  unfold reachE at h
  split at h
  · cases h
  · rename_i c
    split at h
    · cases h
    · rename_i d
      split at h
      · cases h
      · rename_i x
        have c' : Wide width := Decidable.not_not.1 c
        obtain ⟨o, rfl⟩ := Int.eq_ofNat_of_zero_le (a := off) (by omega)
        unfold Wide at c'
        obtain ⟨wd, rfl⟩ := Int.eq_ofNat_of_zero_le (a := width) (by omega)
        refine ⟨o, wd, rfl, rfl, by omega, by omega, ?_⟩
        rw [← Int.ofNat_tmod] at d
        omega

theorem ret_part {a : Option Addr} {n m c : Nat} (h : n = m) : Ending.returned (.tuple #[.slice a n c, .int .i64 0]) = .returned (.tuple #[.slice a m c, .int .i64 0]) := by rw [h]
set_option maxRecDepth 100000 in
theorem part_ok {w : World} {p mb : Nat} {s : St} {rawv allv : Value} (h : StoAt w p s rawv allv mb) (ho : Ok s) (hl : s.all.length ≤ 1000000000) (hr : s.raw.length ≤ 1000000000000) {i : Nat} (hi : i < s.all.length) (hk : I64 (s.all[i].id : Int)) (o wd : Nat)
    (hw : wd = 1 ∨ wd = 2 ∨ wd = 4 ∨ wd = 8) (hfit : o + wd ≤ s.all[i].len) (hm : o % wd = 0) :
    Calls Try.prog 66 #[.pointer (some ⟨p, 0, none⟩), .int .i64 (s.all[i].id : Int), .int .i64 (o : Int), .int .i64 (wd : Int)] w fun e w' => ∃ g m cap, e = .returned (.tuple #[.slice (some ⟨g, s.all[i].at_ + o, none⟩) wd (s.all[i].len - o), .int .i64 0]) ∧
      rawv = .slice (some ⟨g, 0, none⟩) m cap ∧ Chg [] w w' := by
  have C := Aside.mk (len_some ⟨_, _, _, h, rfl⟩ ho hl hi hk)
  have C2 := Aside.mk (fun (w1 : World) (hc : Chg [] w w1) => bytes_some (h.chg hc (by simp)) ho hl hr hi hk)
  have hin := ho.lay.inside _ (List.getElem_mem hi)
  have hup := up_ge s.all[i].len
  have hlen : s.all[i].len ≤ 1000000000000 := by omega
  obtain ⟨N, hN⟩ : ∃ N, N = s.all[i].len := ⟨_, rfl⟩
  obtain ⟨A, hA⟩ : ∃ A, A = s.all[i].at_ := ⟨_, rfl⟩
  rw [← hN] at C C2 hlen hfit ⊢
  rw [← hA] at C2 ⊢
  have hm' : (o : Int) % (wd : Int) = 0 := by omega
  have hm2 : (o : Int).tmod (wd : Int) = 0 := by rw [← Int.ofNat_tmod]; omega
  have hf1 : (o : Int) + (wd : Int) ≤ (N : Int) := by omega
  clear h ho hl hk hin hup hN hA hr hm
  rcases hw with rfl | rfl | rfl | rfl
  all_goals
    go_enter Try.func66, Try.ntmps66
    go_wp2_with (first | (go_at_call 28; (with_reducible refine C.out.mono ?_); rintro e w1 ⟨rfl, hc1⟩) | (go_at_call 85; (with_reducible refine (C2.out _ hc1).mono ?_); rintro e w2 ⟨a, rfl, hsp, hc2⟩; obtain ⟨g, m, cap, hrv, rfl⟩ := hsp (by omega)))
    go_ret2
    exact ⟨g, m, cap, ret_part (by omega), hrv, hc1.trans hc2⟩
end Go.Proofs.Ytgimcpnelogadaa.Sto
