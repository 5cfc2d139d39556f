/- Chapter 4: numtext.cut, by hand. -/
import Derived.Test.YtjdnneomkocghaaDoorGivB
import Derived.Deep.LoopGhost
import Derived.Deep.DeepCutAuto
import Derived.RegionTactic
namespace Go.Proofs.YtjdnneomkocghaaDoor.Given
open Go.RowKit Go.Shelf Go.Proofs.YtjdnneomkocghaaDoorW.PrintWords

/-- A hexadecimal digit's number. -/
def hexV (c : UInt8) : Option Nat := if 48 ≤ c.toNat ∧ c.toNat ≤ 57 then some (c.toNat - 48) else if 97 ≤ c.toNat ∧ c.toNat ≤ 102 then some (c.toNat - 87) else none
def cutS : List UInt8 → List Int × List UInt8
  | [] => ([], [])
  | c :: r => match hexV c with
    | some v => ((v : Int) :: (cutS r).1, (cutS r).2)
    | none => ([], c :: r)
def numtext_cut.f (a0 : ByteArray) : Option (List Int × ByteArray) := if a0.size ≤ 10000000000 then some ((cutS a0.data.toList).1, ⟨(cutS a0.data.toList).2.toArray⟩) else none

theorem info22 : (Tryd.prog.info? 22).map (fun i => (i.zero, i.size, i.bytes)) = some (some (.int .u64 0), 1, 8) := by kernel_rfl
theorem cut_done {s : List UInt8} {t : List UInt8} {xs : List Int} {l : Value} {w w1 : World} (HC : cutS s = (xs ++ (cutS t).1, (cutS t).2)) (ht : cutS t = ([], t))
    (HO : w1.ownsRow w.heap.size 22 1 l xs.length (nums .u64 xs)) (HB : Below w.heap.size w w1) :
    ∃ v0_ : Value, Ending.returned (.tuple #[l, .string ⟨t.toArray⟩]) = .returned (.tuple #[v0_, .string ⟨(cutS s).2.toArray⟩]) ∧ Kd.R (Kd.int .u64) 22 w1 w.heap.size (fun _ => True) v0_ (cutS s).1 ∧ Below w.heap.size w w1 := by
  rw [HC, ht]
  refine ⟨l, rfl, ?_, HB⟩
  rw [List.append_nil]
  exact Kd.R_of_own HO (fun _ _ => trivial)
/-- The digits' own row. -/
def hexL : List UInt8 := [48, 49, 50, 51, 52, 53, 54, 55, 56, 57, 97, 98, 99, 100, 101, 102]
theorem hex_dig : ∀ j : Nat, j < 10 → (hexL.getD j 0).toNat = j + 48 := by decide
theorem hex_let : ∀ j : Nat, 10 ≤ j → j < 16 → (hexL.getD j 0).toNat = j + 87 := by
  intro j h1 h2
  have : ∀ i : Nat, i < 6 → (hexL.getD (i + 10) 0).toNat = i + 97 := by decide
  have h := this (j - 10) (by omega)
  rw [show j - 10 + 10 = j by omega] at h
  omega
theorem hex_all : ∀ j : Nat, j < 16 → hexV (hexL.getD j 0) = some j := by decide
theorem hex_none {c : UInt8} (h : ∀ j : Nat, j < 16 → hexL.getD j 0 ≠ c) : hexV c = none := by
  unfold hexV
  by_cases h1 : 48 ≤ c.toNat ∧ c.toNat ≤ 57
  · refine absurd ?_ (h (c.toNat - 48) (by omega))
    apply UInt8.toNat_inj.1
    exact hex_dig (c.toNat - 48) (by omega) |>.trans (by omega)
  · rw [if_neg h1]
    by_cases h2 : 97 ≤ c.toNat ∧ c.toNat ≤ 102
    · refine absurd ?_ (h (c.toNat - 87) (by omega))
      apply UInt8.toNat_inj.1
      exact hex_let (c.toNat - 87) (by omega) (by omega) |>.trans (by omega)
    · rw [if_neg h2]
theorem hex_some {c : UInt8} {j : Nat} (hj : j < 16) (h : hexL.getD j 0 = c) : hexV c = some j := by
  subst h
  exact hex_all j hj
theorem hex_at {j : Nat} (hj : j < (⟨#[48, 49, 50, 51, 52, 53, 54, 55, 56, 57, 97, 98, 99, 100, 101, 102]⟩ : ByteArray).size) : (⟨#[48, 49, 50, 51, 52, 53, 54, 55, 56, 57, 97, 98, 99, 100, 101, 102]⟩ : ByteArray)[j] = hexL.getD j 0 := by
  show (#[48, 49, 50, 51, 52, 53, 54, 55, 56, 57, 97, 98, 99, 100, 101, 102] : Array UInt8)[j]'hj = _
  have hj' : j < hexL.length := hj
  rw [List.getD_eq_getElem?_getD, List.getElem?_eq_getElem hj', Option.getD_some]
  rfl
theorem test_yes {c : UInt8} {r : List UInt8} {j : Nat} (hj : j < 16) (h : hexL.getD j 0 = c) :
    ((((⟨(c :: r).toArray⟩ : ByteArray)[0]'(Nat.succ_pos _)).toNat : Int) == (((⟨#[48, 49, 50, 51, 52, 53, 54, 55, 56, 57, 97, 98, 99, 100, 101, 102]⟩ : ByteArray)[j]'hj).toNat : Int)) = true := by
  rw [hex_at hj, h, beq_iff_eq]; rfl
theorem test_no {c : UInt8} {r : List UInt8} {j : Nat} (hj : j < 16) (h : hexL.getD j 0 ≠ c) :
    ((((⟨(c :: r).toArray⟩ : ByteArray)[0]'(Nat.succ_pos _)).toNat : Int) == (((⟨#[48, 49, 50, 51, 52, 53, 54, 55, 56, 57, 97, 98, 99, 100, 101, 102]⟩ : ByteArray)[j]'hj).toNat : Int)) = false := by
  rw [hex_at hj, beq_eq_false_iff_ne]
  intro he
  exact h (UInt8.toNat_inj.1 (by have : (c.toNat : Int) = _ := he; omega))
theorem no_more {c : UInt8} {j : Nat} (h : ∀ j' : Nat, j' < j → hexL.getD j' 0 ≠ c) (h1 : hexL.getD j 0 ≠ c) : ∀ j' : Nat, j' < j + 1 → hexL.getD j' 0 ≠ c := by
  intro j' hj
  rcases Nat.lt_succ_iff_lt_or_eq.1 hj with hj | rfl
  · exact h j' hj
  · exact h1
theorem ext1 (c : UInt8) (r : List UInt8) : (⟨(c :: r).toArray⟩ : ByteArray).extract 1 (r.length + 1) = ⟨r.toArray⟩ := by
  apply ByteArray.ext
  rw [ByteArray.data_extract]
  simp
set_option maxRecDepth 100000 in
set_option maxHeartbeats 400000 in
theorem cut_any (s : ByteArray) (w : World) (hs : s.size ≤ 10000000000) :
    Calls Tryd.prog 27 #[.string s] w fun e w' => ∃ v0_ : Value, e = .returned (.tuple #[v0_, .string ⟨(cutS s.data.toList).2.toArray⟩]) ∧ Kd.R (Kd.int .u64) 22 w' w.heap.size (fun _ => True) v0_ (cutS s.data.toList).1 ∧ Below w.heap.size w w' := by
  go_enter Tryd.func27, Tryd.ntmps27
  go_wp2
  go_step3
  go_wp2
  go_step3
  go_wp2
  go_loopg [0, 4] s.size (fun k s0 l w1 => ∃ (t : List UInt8) (xs : List Int), s0 = .string ⟨t.toArray⟩ ∧ Aside0 (t.length ≤ k) ∧ Aside0 (s.data.toList.length = t.length + xs.length) ∧ Aside0 (cutS s.data.toList = (xs ++ (cutS t).1, (cutS t).2)) ∧ Aside0 (w1.ownsRow w.heap.size 22 1 l xs.length (nums .u64 xs)) ∧ Aside0 (Below w.heap.size w w1))
  case atStart => exact ⟨s.data.toList, [], by simp, ⟨by simp⟩, ⟨by simp⟩, ⟨by simp⟩, ⟨own_nil _ _ _ _⟩, ⟨Below.refl _ _⟩⟩
  case round =>
    obtain ⟨t, xs, rfl, HK, HL, HC, HO, HB⟩ := hrel
    obtain ⟨go, rfl⟩ : ∃ g : Nat, g = gk := ⟨_, rfl⟩
    cases t with
    | nil =>
      go_wp2
      rw [Exit.noGoto_ret]
      go_ret2
      exact cut_done HC.out rfl HO.out HB.out
    | cons c r =>
      have HR : Aside0 (r.length ≤ 10000000000) := ⟨by have := HL.out; simp at this; omega⟩
      go_wp2
      go_loopg [0, 4, 9, 5] 16 (fun k s0 l i _ wi => ∃ j : Nat, s0 = .string ⟨(c :: r).toArray⟩ ∧ l = u4 ∧ i = .int .i64 j ∧ j ≤ 16 ∧ Aside0 (16 ≤ j + k) ∧ Aside0 (∀ j' : Nat, j' < j → hexL.getD j' 0 ≠ c) ∧ Drawn0 wr wi)
      case atStart => exact ⟨0, rfl, rfl, rfl, by omega, ⟨by omega⟩, ⟨fun j' h => absurd h (by omega)⟩, Drawn0.refl _⟩
      case round =>
        obtain ⟨j, rfl, rfl, rfl, hj, HJ, HN, ⟨⟨nd, rfl⟩⟩⟩ := hrel
        by_cases hlt : j < 16
        · have z0 : 0 < (⟨(c :: r).toArray⟩ : ByteArray).size := by simp [ByteArray.size]
          have z1 : j < (⟨#[48, 49, 50, 51, 52, 53, 54, 55, 56, 57, 97, 98, 99, 100, 101, 102]⟩ : ByteArray).size := hlt
          by_cases he : hexL.getD j 0 = c
          · have HX := hex_some hlt he
            have ZT := Aside0.mk (test_yes (r := r) hlt he)
            have HH := Aside0.mk HX
            clear HX he
            go_wp2
            have zt := ZT.out
            go_quiet (fail)
            clear zt
            go_wp2_with (first | (at_builtin; refine print_append_num (w0 := w) w.heap.size rfl (.tmp 17) (.tmp 20) 48 22 .u64 8 rfl Tryd.underlying48 info22 (by decide) _ xs j rfl rfl (pw_own_drewN HO.out _) (pw_below_drewN HB.out _) HB.out.size (by have := HL.out; simp at this; omega) ?_; intro v1 w1 hown hB1 hg hat; clear hg hat; obtain ⟨HO1, HB1⟩ := And.intro (Aside0.mk hown) (Aside0.mk hB1); clear hown hB1))
            go_roundg r.length
            case measure => have := HK.out; simp at this; omega
            case rel => exact ⟨r, xs ++ [(j : Int)], by rw [ext1], ⟨Nat.le_refl _⟩, ⟨by have := HL.out; simp at this ⊢; omega⟩, ⟨by rw [HC.out]; simp [cutS, HH.out]⟩, HO1, HB1⟩
          · have ZT := Aside0.mk (test_no (r := r) hlt he)
            have HE := Aside0.mk he
            clear he
            go_wp2
            have zt := ZT.out
            go_quiet (fail)
            clear zt
            go_wp2
            go_roundg (16 - (j + 1))
            case measure => have := HJ.out; omega
            case rel => exact ⟨j + 1, rfl, rfl, by go_num, by omega, ⟨by omega⟩, ⟨no_more HN.out HE.out⟩, by repeat (first | exact Drawn0.refl _ | apply Drawn0.step)⟩
        · obtain rfl : j = 16 := by omega
          have HV := hex_none HN.out
          go_wp2
          rw [Exit.noGoto_ret]
          go_ret2
          exact cut_done HC.out (by simp [cutS, HV]) (pw_own_drewN HO.out _) (pw_below_drewN HB.out _)
theorem numtext_cut.calls (a0 : ByteArray) (r1 : List Int) (r2 : ByteArray) (w : World) (h : numtext_cut.f a0 = some (r1, r2)) :
    Calls Tryd.prog 27 #[.string a0] w fun e w' => ∃ v0_ : Value, e = .returned (.tuple #[v0_, .string r2]) ∧ Kd.R (Kd.int .u64) 22 w' w.heap.size (fun _ => True) v0_ r1 ∧ Below w.heap.size w w' := by
  unfold numtext_cut.f at h
  split at h
  · rename_i hs
    obtain ⟨rfl, rfl⟩ := Prod.mk.inj (Option.some.inj h)
    exact cut_any a0 w hs
  · cases h
end Go.Proofs.YtjdnneomkocghaaDoor.Given
