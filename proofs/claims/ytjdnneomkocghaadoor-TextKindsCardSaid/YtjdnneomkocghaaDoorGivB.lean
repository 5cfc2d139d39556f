/- Chapter 4: numtext.digits, numtext.ParseInt, by hand. -/
import Derived.Test.YtjdnneomkocghaaDoorGivA
import Derived.LoopTactic
import Derived.Outline
import Derived.Deep.QuietTactic
import Derived.BigQuiet
import Derived.Lib.ParseIntB
namespace Go.Proofs.YtjdnneomkocghaaDoor.Given
open Go.RowKit Go.Shelf Go.Proofs.YtjdnneomkocghaaDoorW.PrintWords

def isDig (c : UInt8) : Bool := decide (48 ≤ c.toNat ∧ c.toNat ≤ 57)
def digitsB (l : List UInt8) : Bool := l.all isDig && !l.isEmpty
def numtext_digits.f (a0 : ByteArray) : Option Bool := if a0.size ≤ maxLen then some (digitsB a0.data.toList) else none

theorem take_snoc (s : ByteArray) (k : Nat) (h : k < s.size) : s.data.toList.take (k + 1) = s.data.toList.take k ++ [s[k]] := by
  rw [List.take_succ_eq_append_getElem (by simpa using h)]; rfl
theorem dig_step (s : ByteArray) (k : Nat) (h : k < s.size) (hA : ∀ c ∈ s.data.toList.take k, isDig c = true) (h1 : isDig s[k] = true) : ∀ c ∈ s.data.toList.take (k + 1), isDig c = true := by
  rw [take_snoc s k h]
  intro c hc
  rcases List.mem_append.1 hc with hc | hc
  · exact hA c hc
  · rw [List.mem_singleton.1 hc]; exact h1
theorem dig_no (s : ByteArray) (k : Nat) (h : k < s.size) (h1 : isDig s[k] = false) : digitsB s.data.toList = false := by
  unfold digitsB
  rw [Bool.and_eq_false_iff]
  left
  rw [List.all_eq_false]
  exact ⟨s[k], Array.mem_toList_iff.2 (show s.data[k]'h ∈ s.data from Array.getElem_mem h), by simp [h1]⟩
theorem dig_end (s : ByteArray) (hA : ∀ c ∈ s.data.toList.take s.size, isDig c = true) : digitsB s.data.toList = !s.data.toList.isEmpty := by
  have h : s.data.toList.take s.size = s.data.toList := List.take_of_length_le (by simp)
  rw [h] at hA
  unfold digitsB
  rw [List.all_eq_true.2 hA, Bool.true_and]

set_option maxHeartbeats 400000 in
theorem digits_any (s : ByteArray) (w : World) (hs : s.size ≤ maxLen) :
    Calls Tryd.prog 28 #[.string s] w fun e w' => e = .returned (.bool (digitsB s.data.toList)) ∧ w = w' := by
  unfold maxLen at hs
  go_enter Tryd.func28, Tryd.ntmps28
  go_wp2
  go_loop [6] (fun i => ∃ k : Nat, k ≤ s.size ∧ i = .int .i64 k ∧ Aside0 (∀ c ∈ s.data.toList.take k, isDig c = true)) (fun i => s.size - (intOf i).toNat)
  case atStart => exact ⟨0, Nat.zero_le _, rfl, ⟨by simp⟩⟩
  case round =>
    obtain ⟨k, hk, rfl, HA⟩ := hrel
    by_cases hlt : k < s.size
    · by_cases h1 : (s[k].toNat : Int) < 48
      · have HN := Lib.hid (dig_no s k hlt (by unfold isDig; simp; omega))
        go_wp2
        go_ret
        exact ⟨by rw [HN.out]; rfl, rfl⟩
      · by_cases h2 : 57 < (s[k].toNat : Int)
        · have HN := Lib.hid (dig_no s k hlt (by unfold isDig; simp; omega))
          go_wp2
          go_ret
          exact ⟨by rw [HN.out]; rfl, rfl⟩
        · have HS := Aside0.mk (dig_step s k hlt HA.out (by unfold isDig; simp; omega))
          go_wp2
          go_round
          case rel => exact ⟨k + 1, by omega, by go_num, HS⟩
          case measure => simp [intOf]; omega
    · have hk2 : k = s.size := by omega
      subst hk2
      have HE := Lib.hid (dig_end s HA.out)
      clear HA
      go_wp2
      go_ret
      exact ⟨by rw [HE.out]; simp [ByteArray.toList_eq], rfl⟩
theorem numtext_digits.calls (a0 : ByteArray) (r : Bool) (w : World) (h : numtext_digits.f a0 = some r) :
    Calls Tryd.prog 28 #[.string a0] w fun e w' => e = .returned (.bool r) ∧ Drawn0 w w' := by
  unfold numtext_digits.f at h
  split at h
  · rename_i hs
    obtain rfl := Option.some.inj h
    refine (digits_any a0 w hs).mono ?_
    rintro e w' ⟨rfl, rfl⟩
    exact ⟨rfl, Drawn0.refl _⟩
  · cases h

def parseIntS (l : List UInt8) : Int × Int :=
  if 64 < l.length then (0, 2)
  else if digitsB (Lib.trimPrefix l [45]) = false then (0, 20)
  else if (Lib.trimPrefix l [45]).headD 0 = 48 ∧ l ≠ [48] then (0, 20)
  else match Lib.parseIntB 64 l with
    | .ok v => (v, 0)
    | _ => (0, 13)
def numtext_ParseInt.f (a0 : ByteArray) : Option (Int × Int) := if a0.size ≤ maxLen then some (parseIntS a0.data.toList) else none

theorem trim_d (s : ByteArray) (d : List UInt8) (hd : Lib.trimPrefix s.data.toList [45] = d) (w : World) :
    Calls Tryd.prog 31 #[.string s, .string ⟨#[45]⟩] w fun e w' => e = .returned (.string ⟨d.toArray⟩) ∧ w = w' := by
  refine (Tryd.strings_TrimPrefix s ⟨#[45]⟩ w).mono ?_
  rintro e w' ⟨rfl, rfl⟩
  exact ⟨by rw [← hd], rfl⟩
theorem digits_d (d : List UInt8) (w : World) (b : Bool) (hb : digitsB d = b) (hs : d.length ≤ maxLen) :
    Calls Tryd.prog 28 #[.string ⟨d.toArray⟩] w fun e w' => e = .returned (.bool b) ∧ w = w' := by
  refine (digits_any ⟨d.toArray⟩ w (by simpa [ByteArray.size] using hs)).mono ?_
  rintro e w' ⟨rfl, rfl⟩
  exact ⟨by rw [← hb], rfl⟩
/-- strconv.ParseInt, its two ways as one: nil, or a pointer. -/
theorem pi_ok (s : ByteArray) (hs : s.size ≤ 64) (v : Int) (h : Lib.parseIntB 64 s.data.toList = .ok v) (w : World) :
    Calls Tryd.prog 32 #[.string s, .int .i64 10, .int .i64 64] w fun e w' => e = .returned (.tuple #[.int .i64 v, .nilIface]) ∧ Below w.heap.size w w' := by
  refine (Tryd.strconv_ParseInt_10_at64_ok s (by omega) v h w).mono ?_
  rintro e w' ⟨rfl, hw⟩
  refine ⟨rfl, ?_⟩
  rcases hw with rfl | ⟨t, rfl⟩
  · exact Below.refl _ _
  · exact Lib.bytesWorld_below _ _ _
theorem pi_no (s : ByteArray) (hs : s.size ≤ 64) (h : ∀ v, Lib.parseIntB 64 s.data.toList ≠ .ok v) (w : World) (hG : Glob w) :
    Calls Tryd.prog 32 #[.string s, .int .i64 10, .int .i64 64] w fun e w' => ∃ x N, e = .returned (.tuple #[.int .i64 x, .iface 71 (.pointer (some ⟨N, 0, none⟩))]) ∧ Below w.heap.size w w' := by
  obtain ⟨_, _, ⟨t3, p3, h3⟩, ⟨t4, p4, h4⟩, _⟩ := hG
  cases hp : Lib.parseIntB 64 s.data.toList
  · rename_i v; exact absurd hp (h v)
  · refine (Any.strconv_ParseInt_10_at64_syntax_var Tryd.laysC174 s (by omega) hp t3 p3 w h3).mono ?_
    rintro e w' ⟨N, rfl, _, _, hb⟩
    exact ⟨_, N, rfl, hb⟩
  · refine (Tryd.strconv_ParseInt_10_at64_range_var s (by omega) hp t4 p4 w h4).mono ?_
    rintro e w' ⟨N, rfl, _, _, hb⟩
    exact ⟨_, N, rfl, hb⟩

theorem parse_end (l : List UInt8) : (∃ v, Lib.parseIntB 64 l = .ok v) ∨ (∀ v, Lib.parseIntB 64 l ≠ .ok v) := by
  cases Lib.parseIntB 64 l
  · rename_i v; exact .inl ⟨v, rfl⟩
  · exact .inr (fun v h => by cases h)
  · exact .inr (fun v h => by cases h)
theorem parse_no {l : List UInt8} (h : ∀ v, Lib.parseIntB 64 l ≠ .ok v) : (match Lib.parseIntB 64 l with
    | .ok v => (v, (0 : Int))
    | _ => (0, 13)) = (0, 13) := by
  split
  · rename_i v hv; exact absurd hv (h v)
  · rfl
set_option maxHeartbeats 400000 in
theorem ParseInt_any (s : ByteArray) (w : World) (hs : s.size ≤ maxLen) (hG : Glob w) :
    Calls Tryd.prog 14 #[.string s] w fun e w' => e = .returned (.tuple #[.int .i64 (parseIntS s.data.toList).1, .int .i64 (parseIntS s.data.toList).2]) ∧ Below w.heap.size w w' := by
  unfold maxLen at hs
  have HG := Aside0.mk hG
  clear hG
  by_cases hl : 64 < s.size
  · have HR : Hid (parseIntS s.data.toList = (0, 2)) := Lib.hid (by unfold parseIntS; rw [if_pos (by simpa using hl)])
    go_enter Tryd.func14, Tryd.ntmps14
    go_wp2
    go_ret2
    exact ⟨by rw [HR.out]; rfl, Below.refl _ _⟩
  · obtain ⟨d, hd⟩ : ∃ d, Lib.trimPrefix s.data.toList [45] = d := ⟨_, rfl⟩
    have hdl : d.length ≤ 64 := by have : d.length ≤ s.size := by (rw [← hd]; unfold Lib.trimPrefix; split <;> simp)
                                   omega
    by_cases hdig : digitsB d = true
    · have hne : 0 < d.length := by
        unfold digitsB at hdig
        cases d with
        | nil => simp at hdig
        | cons c r => simp
      obtain ⟨c, r, rfl⟩ : ∃ c r, d = c :: r := by
        cases d with
        | nil => simp at hne
        | cons c r => exact ⟨c, r, rfl⟩
      have HD := Lib.hid hd
      have HDG := Lib.hid hdig
      by_cases hz1 : (c.toNat : Int) = 48
      · have hc48 : c = 48 := UInt8.toNat_inj.1 (by simpa using (by omega : c.toNat = 48))
        have z1 : ((({ data := (c :: r).toArray } : ByteArray)[0].toNat : Int) == 48) = true := beq_iff_eq.2 hz1
        clear hz1
        by_cases hz2 : s.data.toList = [48]
        · have HZ : Hid (¬ ((c :: r).headD 0 = 48 ∧ s.data.toList ≠ [48])) := Lib.hid (fun h => h.2 hz2)
          have z2 : (s.toList == [48]) = true := by rw [ByteArray.toList_eq]; exact beq_iff_eq.2 hz2
          clear hz2 hc48
          rcases parse_end s.data.toList with ⟨v, hp⟩ | hp
          · have HR : Hid (parseIntS s.data.toList = (v, 0)) := Lib.hid (by unfold parseIntS; rw [if_neg (by simpa using hl), hd, if_neg (by simp [hdig]), if_neg HZ.out, hp])
            have HV := Lib.hid hp
            clear hd hdig hp HZ
            go_enter Tryd.func14, Tryd.ntmps14
            go_wp2_with (first | (go_at_call 31; refine (trim_d _ _ HD.out _).mono ?_; rintro e w' ⟨rfl, rfl⟩) | (go_at_call 28; refine (digits_d _ _ _ HDG.out (by unfold maxLen; omega)).mono ?_; rintro e w' ⟨rfl, rfl⟩) | (go_at_call 32; refine (pi_ok _ (by omega) _ HV.out _).mono ?_; rintro e w' ⟨rfl, hb⟩))
            go_ret2
            exact ⟨by rw [HR.out]; rfl, by assumption⟩
          · have HR : Hid (parseIntS s.data.toList = (0, 13)) := Lib.hid (by unfold parseIntS; rw [if_neg (by simpa using hl), hd, if_neg (by simp [hdig]), if_neg HZ.out, parse_no hp])
            have HV : Hid (∀ v, Lib.parseIntB 64 s.data.toList ≠ .ok v) := Lib.hid hp
            clear hd hdig hp HZ
            go_enter Tryd.func14, Tryd.ntmps14
            go_wp2_with (first | (go_at_call 31; refine (trim_d _ _ HD.out _).mono ?_; rintro e w' ⟨rfl, rfl⟩) | (go_at_call 28; refine (digits_d _ _ _ HDG.out (by unfold maxLen; omega)).mono ?_; rintro e w' ⟨rfl, rfl⟩) | (go_at_call 32; refine (pi_no _ (by omega) HV.out _ HG.out).mono ?_; rintro e w' ⟨x, N, rfl, hb⟩))
            go_ret2
            exact ⟨by rw [HR.out]; rfl, by assumption⟩
        · have HR : Hid (parseIntS s.data.toList = (0, 20)) := Lib.hid (by unfold parseIntS; rw [if_neg (by simpa using hl), hd, if_neg (by simp [hdig]), if_pos ⟨by simp [hc48], hz2⟩])
          have z2 : (s.toList == [48]) = false := by rw [ByteArray.toList_eq]; exact beq_eq_false_iff_ne.2 hz2
          clear hz2 hc48 hd hdig
          go_enter Tryd.func14, Tryd.ntmps14
          go_wp2_with (first | (go_at_call 31; refine (trim_d _ _ HD.out _).mono ?_; rintro e w' ⟨rfl, rfl⟩) | (go_at_call 28; refine (digits_d _ _ _ HDG.out (by unfold maxLen; omega)).mono ?_; rintro e w' ⟨rfl, rfl⟩))
          go_ret2
          exact ⟨by rw [HR.out]; rfl, Below.refl _ _⟩
      · have HZ : Hid (¬ ((c :: r).headD 0 = 48 ∧ s.data.toList ≠ [48])) := Lib.hid (fun h => hz1 (by have := h.1; simp at this; rw [this]; rfl))
        have z1 : ((({ data := (c :: r).toArray } : ByteArray)[0].toNat : Int) == 48) = false := beq_eq_false_iff_ne.2 hz1
        clear hz1
        rcases parse_end s.data.toList with ⟨v, hp⟩ | hp
        · have HR : Hid (parseIntS s.data.toList = (v, 0)) := Lib.hid (by unfold parseIntS; rw [if_neg (by simpa using hl), hd, if_neg (by simp [hdig]), if_neg HZ.out, hp])
          have HV := Lib.hid hp
          clear hd hdig hp HZ
          go_enter Tryd.func14, Tryd.ntmps14
          go_wp2_with (first | (go_at_call 31; refine (trim_d _ _ HD.out _).mono ?_; rintro e w' ⟨rfl, rfl⟩) | (go_at_call 28; refine (digits_d _ _ _ HDG.out (by unfold maxLen; omega)).mono ?_; rintro e w' ⟨rfl, rfl⟩) | (go_at_call 32; refine (pi_ok _ (by omega) _ HV.out _).mono ?_; rintro e w' ⟨rfl, hb⟩))
          go_ret2
          exact ⟨by rw [HR.out]; rfl, by assumption⟩
        · have HR : Hid (parseIntS s.data.toList = (0, 13)) := Lib.hid (by unfold parseIntS; rw [if_neg (by simpa using hl), hd, if_neg (by simp [hdig]), if_neg HZ.out, parse_no hp])
          have HV : Hid (∀ v, Lib.parseIntB 64 s.data.toList ≠ .ok v) := Lib.hid hp
          clear hd hdig hp HZ
          go_enter Tryd.func14, Tryd.ntmps14
          go_wp2_with (first | (go_at_call 31; refine (trim_d _ _ HD.out _).mono ?_; rintro e w' ⟨rfl, rfl⟩) | (go_at_call 28; refine (digits_d _ _ _ HDG.out (by unfold maxLen; omega)).mono ?_; rintro e w' ⟨rfl, rfl⟩) | (go_at_call 32; refine (pi_no _ (by omega) HV.out _ HG.out).mono ?_; rintro e w' ⟨x, N, rfl, hb⟩))
          go_ret2
          exact ⟨by rw [HR.out]; rfl, by assumption⟩
    · have hdig' : digitsB d = false := by simpa using hdig
      have HR : Hid (parseIntS s.data.toList = (0, 20)) := Lib.hid (by unfold parseIntS; rw [if_neg (by simpa using hl), hd, if_pos hdig'])
      have HD := Lib.hid hd
      have HDG := Lib.hid hdig'
      clear hd hdig' hdig
      go_enter Tryd.func14, Tryd.ntmps14
      go_wp2_with (first | (go_at_call 31; refine (trim_d _ _ HD.out _).mono ?_; rintro e w' ⟨rfl, rfl⟩) | (go_at_call 28; refine (digits_d _ _ _ HDG.out (by unfold maxLen; omega)).mono ?_; rintro e w' ⟨rfl, rfl⟩))
      go_ret2
      exact ⟨by rw [HR.out]; rfl, Below.refl _ _⟩
theorem numtext_ParseInt.calls (a0 : ByteArray) (r1 r2 : Int) (w : World) (hG : Glob w) (h : numtext_ParseInt.f a0 = some (r1, r2)) :
    Calls Tryd.prog 14 #[.string a0] w fun e w' => e = .returned (.tuple #[.int .i64 r1, .int .i64 r2]) ∧ Below w.heap.size w w' := by
  unfold numtext_ParseInt.f at h
  split at h
  · rename_i hs
    obtain ⟨rfl, rfl⟩ := Prod.mk.inj (Option.some.inj h)
    exact ParseInt_any a0 w hs hG
  · cases h
end Go.Proofs.YtjdnneomkocghaaDoor.Given
