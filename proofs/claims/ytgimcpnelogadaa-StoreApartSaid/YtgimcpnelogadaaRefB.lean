/- Chapter 5's reference, by hand: Len, Used, Reach. -/
import Derived.Test.YtgimcpnelogadaaRefA
namespace Go.Proofs.Ytgimcpnelogadaa.Sto
open Go.RowKit Go.Proofs.Ytgimcpnelogadaa.Mem
set_option linter.unusedVariables false
set_option linter.unusedSimpArgs false

theorem rfind_some {w : World} {q most : Nat} {X : List RX} {lv : Value} (h : RefAt w q X lv most) {i : Nat} (hi : i < X.length) (hk : I64 (X[i].id : Int)) :
    Calls Try.prog 116 #[.pointer (some ⟨q, 0, none⟩), .int .i64 (X[i].id : Int)] w fun e w' => e = .returned (.tuple #[.int .i64 (i : Int), .bool true]) ∧ Chg [] w w' := by
  refine (rfind_calls h _ hk).mono ?_
  rintro e w' ⟨⟨m, b, rfl, h1, h2, h3, h4⟩, hc⟩
  have hmi : m = i := by
    rcases Nat.lt_trichotomy m i with c | c | c
    · have := h.rise c hi; have := h3 (by omega); omega
    · exact c
    · have := h2 i hi c; omega
  subst hmi
  have : b = true := h4.2 ⟨hi, rfl⟩
  subst this
  exact ⟨rfl, hc⟩
theorem rfind_none {w : World} {q most : Nat} {X : List RX} {lv : Value} (h : RefAt w q X lv most) (k : Int) (hk : I64 k) (hn : ∀ x ∈ X, (x.id : Int) ≠ k) :
    Calls Try.prog 116 #[.pointer (some ⟨q, 0, none⟩), .int .i64 k] w fun e w' => (∃ m : Nat, e = .returned (.tuple #[.int .i64 (m : Int), .bool false]) ∧ m ≤ X.length ∧ (∀ j (hj : j < X.length), j < m → (X[j].id : Int) < k) ∧ (∀ hm : m < X.length, k < (X[m].id : Int))) ∧ Chg [] w w' := by
  refine (rfind_calls h _ hk).mono ?_
  rintro e w' ⟨⟨m, b, rfl, h1, h2, h3, h4⟩, hc⟩
  have : b = false := by
    cases b with
    | false => rfl
    | true => obtain ⟨hm, e⟩ := h4.1 rfl; exact absurd e (hn _ (List.getElem_mem hm))
  subst this
  refine ⟨⟨m, rfl, h1, h2, fun hm => ?_⟩, hc⟩
  have h5 := h3 hm
  have h6 := hn _ (List.getElem_mem hm)
  omega

theorem rlen_none {w : World} {q most : Nat} {X : List RX} {lv : Value} (h : RefAt w q X lv most) (k : Int) (hk : I64 k) (hn : ∀ x ∈ X, (x.id : Int) ≠ k) :
    Calls Try.prog 72 #[.pointer (some ⟨q, 0, none⟩), .int .i64 k] w fun e w' => e = .returned (.tuple #[.int .i64 0, .int .i64 30]) ∧ Chg [] w w' := by
  have C := Mem.Aside.mk (rfind_none h k hk hn)
  clear h hn hk
  go_enter Try.func72, Try.ntmps72
  go_wp2_with (go_at_call 116; (with_reducible refine C.out.mono ?_); rintro e w' ⟨⟨m, rfl, _⟩, hc⟩)
  go_ret2
  exact ⟨rfl, hc⟩
theorem rlen_some {w : World} {q most : Nat} {X : List RX} {lv : Value} (h : RefAt w q X lv most) {i : Nat} (hi : i < X.length) (hk : I64 (X[i].id : Int)) :
    Calls Try.prog 72 #[.pointer (some ⟨q, 0, none⟩), .int .i64 (X[i].id : Int)] w fun e w' => e = .returned (.tuple #[.int .i64 (X[i].bs.length : Int), .int .i64 0]) ∧ Chg [] w w' := by
  have C := Mem.Aside.mk (rfind_some h hi hk)
  have H := Mem.Aside.mk h
  have hi' : (i : Int) < (X.length : Int) := by omega
  have hl := h.small.1
  clear h hk
  go_enter Try.func72, Try.ntmps72
  go_wp2_with (go_at_call 116; (with_reducible refine C.out.mono ?_); rintro e w' ⟨rfl, hc⟩; have h0 := (H.out.chg hc (by simp)).c0; obtain ⟨g, cap, rfl, e0, e1⟩ := (H.out.chg hc (by simp)).ext hi)
  go_ret2
  exact ⟨rfl, hc⟩

def totalX (X : List RX) : Nat := (X.map fun x => up x.bs.length).sum
theorem totalX_pairs (X : List RX) : totalL (X.map RX.pair) = totalX X := by simp [totalL, totalX, Function.comp_def, RX.pair]
theorem totalX_append (X Y : List RX) : totalX (X ++ Y) = totalX X + totalX Y := by simp [totalX]
theorem totalX_take (X : List RX) {k : Nat} (hk : k < X.length) : totalX (X.take (k + 1)) = totalX (X.take k) + up X[k].bs.length := by
  rw [List.take_succ_eq_append_getElem hk, totalX_append]
  simp [totalX]
theorem totalX_le : ∀ (X : List RX), (∀ x ∈ X, x.bs.length ≤ 8388608) → totalX X ≤ 8388615 * X.length
  | [], _ => by simp [totalX]
  | x :: X, h => by
    have ih := totalX_le X fun y hy => h y (List.mem_cons_of_mem _ hy)
    have h1 := h x (List.mem_cons_self ..)
    have h2 := up_le x.bs.length
    have e : totalX (x :: X) = up x.bs.length + totalX X := by simp [totalX]
    rw [e, List.length_cons]; omega
theorem totalX_take_le (X : List RX) (k : Nat) : totalX (X.take k) ≤ totalX X := by
  have : totalX X = totalX (X.take k) + totalX (X.drop k) := by
    rw [← totalX_append, List.take_append_drop]
  omega

set_option maxHeartbeats 4000000 in
theorem rused_calls {w : World} {q most : Nat} {X : List RX} {lv : Value} (h : RefAt w q X lv most) :
    Calls Try.prog 76 #[.pointer (some ⟨q, 0, none⟩)] w fun e w' => e = .returned (.int .i64 (totalX X : Nat)) ∧ w = w' := by
  have h0 := h.c0
  have H := Mem.Aside.mk h
  obtain ⟨a, c, rfl⟩ := Row_form h.row
  have hl := h.small.1
  have hb := totalX_le X (fun x hx => (h.small.2.1 x hx).2)
  clear h
  go_enter Try.func76, Try.ntmps76
  go_wp2
  go_loopw [3, 4] (fun u i wr => ∃ m : Nat, i = .int .i64 (m : Int) ∧ u = .int .i64 (totalX (X.take m) : Nat) ∧ m ≤ X.length ∧ w = wr) (fun _ i _ => X.length - (intOf i).toNat)
  case atStart => exact ⟨0, rfl, by simp [totalX], Nat.zero_le _, rfl⟩
  case round =>
    obtain ⟨m, rfl, rfl, hm, rfl⟩ := hrel
    by_cases d : m < X.length
    · obtain ⟨g, cap, hac, e0, e1⟩ := H.out.ext d
      cases hac
      have d' : (m : Int) < (X.length : Int) := by omega
      have hwm := (IntWalk.i64_in ((m : Int) + 1) (by omega) : IntKind.i64.wrap ((m : Int) + 1) = ((m + 1 : Nat) : Int))
      have hT := totalX_take X d
      have hT2 := totalX_take_le X (m + 1)
      have hsm := (H.out.small.2.1 _ (List.getElem_mem d)).2
      obtain ⟨n, hn⟩ : ∃ n, n = X[m].bs.length := ⟨_, rfl⟩
      rw [← hn] at e1 hT hsm
      obtain ⟨T, hTT⟩ : ∃ T, T = totalX (X.take m) := ⟨_, rfl⟩
      rw [← hTT] at hT ⊢
      have HT := Mem.Aside.mk hT
      rw [hT] at hT2
      clear hTT hn hT
      have hw7 := (IntWalk.i64_in ((n : Int) + 7) (by omega) : IntKind.i64.wrap ((n : Int) + 7) = ((n + 7 : Nat) : Int))
      have hup := up_le n
      have hsum : (T : Int) + ((n : Int) + 7) / 8 * 8 = ((T + up n : Nat) : Int) := by unfold up; omega
      go_wp2
      exact ⟨⟨m + 1, by go_num, by rw [HT.out]; first | rfl | rw [hsum], by omega, trivial⟩, by simp [intOf]; omega⟩
    · have hm' : m = X.length := by omega
      have d' : decide ((m : Int) < (X.length : Int)) = false := decide_eq_false (by omega)
      go_wp2
      go_ret
      rw [hm', List.take_length]
      exact ⟨rfl, rfl⟩

set_option maxHeartbeats 4000000 in
theorem rreach_calls (n : Nat) (hn : n ≤ 1000000000000) (off width : Int) (ho : I64 off) (hwi : I64 width) (w : World) :
    Calls Try.prog 117 #[.int .i64 (n : Int), .int .i64 off, .int .i64 width] w fun e w' => e = .returned (.int .i64 (reachE n off width)) ∧ w = w' := by
  by_cases c : Wide width
  · by_cases d : off.tmod width ≠ 0
    · have he : reachE n off width = 32 := by unfold reachE; rw [if_neg (by simpa using c), if_pos d]
      rw [he]
      clear he
      rcases c with rfl | rfl | rfl | rfl
      · exact absurd (Int.tmod_one off) d
      all_goals
        go_enter Try.func117, Try.ntmps117
        go_wp2
        go_ret
        exact ⟨rfl, rfl⟩
    · have d' : off.tmod width = 0 := by omega
      by_cases hx : off < 0 ∨ (n : Int) - width < off
      · have he : reachE n off width = 31 := by unfold reachE; rw [if_neg (by simpa using c), if_neg d, if_pos hx]
        rw [he]
        clear he d
        have hx2 : off < 0 ∨ (0 ≤ off ∧ (n : Int) < off) ∨ (0 ≤ off ∧ off ≤ (n : Int) ∧ (n : Int) - off < width) := by omega
        clear hx
        rcases c with rfl | rfl | rfl | rfl
        all_goals
          rcases hx2 with hx | ⟨hx1, hx2⟩ | ⟨hx1, hx2, hx3⟩
          · go_enter Try.func117, Try.ntmps117
            go_wp2
            go_ret
            exact ⟨rfl, rfl⟩
          · go_enter Try.func117, Try.ntmps117
            go_wp2
            go_ret
            exact ⟨rfl, rfl⟩
          · have hw9 := (IntWalk.i64_in ((n : Int) - off) (by omega) : IntKind.i64.wrap ((n : Int) - off) = (n : Int) - off)
            go_enter Try.func117, Try.ntmps117
            go_wp2
            go_ret
            exact ⟨rfl, rfl⟩
      · have he : reachE n off width = 0 := by unfold reachE; rw [if_neg (by simpa using c), if_neg d, if_neg hx]
        rw [he]
        clear he d
        have hx1 : 0 ≤ off := by omega
        have hx3 : width ≤ (n : Int) - off := by omega
        have hx2 : off ≤ (n : Int) := by unfold Wide at c; omega
        have hw9 := (IntWalk.i64_in ((n : Int) - off) (by omega) : IntKind.i64.wrap ((n : Int) - off) = (n : Int) - off)
        clear hx
        rcases c with rfl | rfl | rfl | rfl
        all_goals
          go_enter Try.func117, Try.ntmps117
          go_wp2
          go_ret
          exact ⟨rfl, rfl⟩
  · have he : reachE n off width = 50 := by unfold reachE; rw [if_pos c]
    rw [he]
    unfold Wide at c
    have c1 : (width != 1) = true := bne_iff_ne.2 fun e => c (.inl e)
    have c2 : (width != 2) = true := bne_iff_ne.2 fun e => c (.inr (.inl e))
    have c3 : (width != 4) = true := bne_iff_ne.2 fun e => c (.inr (.inr (.inl e)))
    have c4 : (width != 8) = true := bne_iff_ne.2 fun e => c (.inr (.inr (.inr e)))
    clear he c
    go_enter Try.func117, Try.ntmps117
    go_wp2
    go_ret
    exact ⟨rfl, rfl⟩
end Go.Proofs.Ytgimcpnelogadaa.Sto
