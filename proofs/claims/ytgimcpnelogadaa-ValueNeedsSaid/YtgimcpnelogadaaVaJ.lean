/- Chapter 7: plain. -/
import Derived.Test.YtgimcpnelogadaaVaH
namespace Go.Proofs.Ytgimcpnelogadaa.Va
open Go.RowKit Go.Proofs.Ytgimcpnelogadaa.Mem Go.Proofs.Ytgimcpnelogadaa.Sto Go.Proofs.Ytgimcpnelogadaa.Wd Go.Proofs.Ytgimcpnelogadaa.Hp
set_option linter.unusedVariables false
set_option linter.unusedSimpArgs false
theorem text_empty {s : ByteArray} (h : ¬ s = noText) : (s.toList == ([] : List UInt8)) = false := by
  rw [ByteArray.toList_eq]
  have : s.data.toList ≠ [] := fun e => h (ByteArray.ext (Array.toList_inj.1 e))
  simpa using this
/-- Of a value's fields: they are a value's, and plain says so; or it says no. -/
def PlainAt (k i b : Int) (s : ByteArray) (r : Int) (W : World) : Prop :=
  ((∃ v : Val, v.k = k ∧ v.i = i ∧ (v.b : Int) = b ∧ v.t = s ∧ r = 0) ∧ Calls Try.prog 51 #[.agg #[.int .i64 k, .int .i64 i, .int .u64 b, .string s, .int .u64 r]] W fun e w' => e = .returned (.bool true) ∧ Chg [] W w') ∨
  Calls Try.prog 51 #[.agg #[.int .i64 k, .int .i64 i, .int .u64 b, .string s, .int .u64 r]] W fun e w' => e = .returned (.bool false) ∧ Chg [] W w'
set_option maxRecDepth 100000 in
set_option maxHeartbeats 8000000 in
theorem plain_0 (i b : Int) (s : ByteArray) (r : Int) (hb : 0 ≤ b) (W : World) : PlainAt 0 i b s r W := by
  have hbn : ((b.toNat : Nat) : Int) = b := by omega
  unfold PlainAt
  by_cases ci : i = 0
  · subst ci
    by_cases cb : b = 0
    · subst cb
      by_cases cs : s = noText
      · subst cs
        by_cases cr : r = 0
        · subst cr
          refine .inl ⟨⟨.nil, rfl, rfl, rfl, rfl, rfl⟩, ?_⟩
          go_enter Try.func51, Try.ntmps51
          go_wp2
          go_ret
          exact ⟨rfl, (Chg.refl _ _).alloc _⟩
        · have cr1 : (r == 0) = false := by simpa using cr
          refine .inr ?_
          go_enter Try.func51, Try.ntmps51
          go_wp2
          go_ret
          exact ⟨rfl, (Chg.refl _ _).alloc _⟩
      · have cs1 := text_empty cs
        refine .inr ?_
        go_enter Try.func51, Try.ntmps51
        go_wp2
        go_ret
        exact ⟨rfl, (Chg.refl _ _).alloc _⟩
    · have cb1 : (b == 0) = false := by simpa using cb
      refine .inr ?_
      go_enter Try.func51, Try.ntmps51
      go_wp2
      go_ret
      exact ⟨rfl, (Chg.refl _ _).alloc _⟩
  · have ci1 : (i == 0) = false := by simpa using ci
    refine .inr ?_
    go_enter Try.func51, Try.ntmps51
    go_wp2
    go_ret
    exact ⟨rfl, (Chg.refl _ _).alloc _⟩
set_option maxRecDepth 100000 in
set_option maxHeartbeats 8000000 in
theorem plain_2 (i b : Int) (s : ByteArray) (r : Int) (hb : 0 ≤ b) (W : World) : PlainAt 2 i b s r W := by
  have hbn : ((b.toNat : Nat) : Int) = b := by omega
  unfold PlainAt
  by_cases cb : b = 0
  · subst cb
    by_cases cs : s = noText
    · subst cs
      by_cases cr : r = 0
      · subst cr
        refine .inl ⟨⟨.int i, rfl, rfl, rfl, rfl, rfl⟩, ?_⟩
        go_enter Try.func51, Try.ntmps51
        go_wp2
        go_ret
        exact ⟨rfl, (Chg.refl _ _).alloc _⟩
      · have cr1 : (r == 0) = false := by simpa using cr
        refine .inr ?_
        go_enter Try.func51, Try.ntmps51
        go_wp2
        go_ret
        exact ⟨rfl, (Chg.refl _ _).alloc _⟩
    · have cs1 := text_empty cs
      refine .inr ?_
      go_enter Try.func51, Try.ntmps51
      go_wp2
      go_ret
      exact ⟨rfl, (Chg.refl _ _).alloc _⟩
  · have cb1 : (b == 0) = false := by simpa using cb
    refine .inr ?_
    go_enter Try.func51, Try.ntmps51
    go_wp2
    go_ret
    exact ⟨rfl, (Chg.refl _ _).alloc _⟩
set_option maxRecDepth 100000 in
set_option maxHeartbeats 8000000 in
theorem plain_3 (i b : Int) (s : ByteArray) (r : Int) (hb : 0 ≤ b) (W : World) : PlainAt 3 i b s r W := by
  have hbn : ((b.toNat : Nat) : Int) = b := by omega
  unfold PlainAt
  by_cases ci : i = 0
  · subst ci
    by_cases cs : s = noText
    · subst cs
      by_cases cr : r = 0
      · subst cr
        refine .inl ⟨⟨.float b.toNat, rfl, rfl, hbn, rfl, rfl⟩, ?_⟩
        go_enter Try.func51, Try.ntmps51
        go_wp2
        go_ret
        exact ⟨rfl, (Chg.refl _ _).alloc _⟩
      · have cr1 : (r == 0) = false := by simpa using cr
        refine .inr ?_
        go_enter Try.func51, Try.ntmps51
        go_wp2
        go_ret
        exact ⟨rfl, (Chg.refl _ _).alloc _⟩
    · have cs1 := text_empty cs
      refine .inr ?_
      go_enter Try.func51, Try.ntmps51
      go_wp2
      go_ret
      exact ⟨rfl, (Chg.refl _ _).alloc _⟩
  · have ci1 : (i == 0) = false := by simpa using ci
    refine .inr ?_
    go_enter Try.func51, Try.ntmps51
    go_wp2
    go_ret
    exact ⟨rfl, (Chg.refl _ _).alloc _⟩
set_option maxRecDepth 100000 in
set_option maxHeartbeats 8000000 in
theorem plain_4 (i b : Int) (s : ByteArray) (r : Int) (hb : 0 ≤ b) (W : World) : PlainAt 4 i b s r W := by
  have hbn : ((b.toNat : Nat) : Int) = b := by omega
  unfold PlainAt
  by_cases ci : i = 0
  · subst ci
    by_cases cb : b = 0
    · subst cb
      by_cases cr : r = 0
      · subst cr
        refine .inl ⟨⟨.text s, rfl, rfl, rfl, rfl, rfl⟩, ?_⟩
        go_enter Try.func51, Try.ntmps51
        go_wp2
        go_ret
        exact ⟨rfl, (Chg.refl _ _).alloc _⟩
      · have cr1 : (r == 0) = false := by simpa using cr
        refine .inr ?_
        go_enter Try.func51, Try.ntmps51
        go_wp2
        go_ret
        exact ⟨rfl, (Chg.refl _ _).alloc _⟩
    · have cb1 : (b == 0) = false := by simpa using cb
      refine .inr ?_
      go_enter Try.func51, Try.ntmps51
      go_wp2
      go_ret
      exact ⟨rfl, (Chg.refl _ _).alloc _⟩
  · have ci1 : (i == 0) = false := by simpa using ci
    refine .inr ?_
    go_enter Try.func51, Try.ntmps51
    go_wp2
    go_ret
    exact ⟨rfl, (Chg.refl _ _).alloc _⟩
set_option maxRecDepth 100000 in
set_option maxHeartbeats 8000000 in
theorem plain_1 (i b : Int) (s : ByteArray) (r : Int) (hb : 0 ≤ b) (W : World) : PlainAt 1 i b s r W := by
  unfold PlainAt
  by_cases d0 : i = 0
  · subst d0
    by_cases cb : b = 0
    · subst cb
      by_cases cs : s = noText
      · subst cs
        by_cases cr : r = 0
        · subst cr
          refine .inl ⟨⟨.bool false, rfl, rfl, rfl, rfl, rfl⟩, ?_⟩
          go_enter Try.func51, Try.ntmps51
          go_wp2
          go_ret
          exact ⟨rfl, (Chg.refl _ _).alloc _⟩
        · have cr1 : (r == 0) = false := by simpa using cr
          refine .inr ?_
          go_enter Try.func51, Try.ntmps51
          go_wp2
          go_ret
          exact ⟨rfl, (Chg.refl _ _).alloc _⟩
      · have cs1 := text_empty cs
        refine .inr ?_
        go_enter Try.func51, Try.ntmps51
        go_wp2
        go_ret
        exact ⟨rfl, (Chg.refl _ _).alloc _⟩
    · have cb1 : (b == 0) = false := by simpa using cb
      refine .inr ?_
      go_enter Try.func51, Try.ntmps51
      go_wp2
      go_ret
      exact ⟨rfl, (Chg.refl _ _).alloc _⟩
  · have d0' : (i == 0) = false := by simpa using d0
    by_cases d1 : i = 1
    · subst d1
      by_cases cb : b = 0
      · subst cb
        by_cases cs : s = noText
        · subst cs
          by_cases cr : r = 0
          · subst cr
            refine .inl ⟨⟨.bool true, rfl, rfl, rfl, rfl, rfl⟩, ?_⟩
            go_enter Try.func51, Try.ntmps51
            go_wp2
            go_ret
            exact ⟨rfl, (Chg.refl _ _).alloc _⟩
          · have cr1 : (r == 0) = false := by simpa using cr
            refine .inr ?_
            go_enter Try.func51, Try.ntmps51
            go_wp2
            go_ret
            exact ⟨rfl, (Chg.refl _ _).alloc _⟩
        · have cs1 := text_empty cs
          refine .inr ?_
          go_enter Try.func51, Try.ntmps51
          go_wp2
          go_ret
          exact ⟨rfl, (Chg.refl _ _).alloc _⟩
      · have cb1 : (b == 0) = false := by simpa using cb
        refine .inr ?_
        go_enter Try.func51, Try.ntmps51
        go_wp2
        go_ret
        exact ⟨rfl, (Chg.refl _ _).alloc _⟩
    · have d1' : (i == 1) = false := by simpa using d1
      refine .inr ?_
      go_enter Try.func51, Try.ntmps51
      go_wp2
      go_ret
      exact ⟨rfl, (Chg.refl _ _).alloc _⟩
set_option maxRecDepth 100000 in
theorem plain_at (k i b : Int) (s : ByteArray) (r : Int) (hb : 0 ≤ b) (W : World) : PlainAt k i b s r W := by
  by_cases c0 : k = 0
  · subst c0; exact plain_0 i b s r hb W
  by_cases c1 : k = 1
  · subst c1; exact plain_1 i b s r hb W
  by_cases c2 : k = 2
  · subst c2; exact plain_2 i b s r hb W
  by_cases c3 : k = 3
  · subst c3; exact plain_3 i b s r hb W
  by_cases c4 : k = 4
  · subst c4; exact plain_4 i b s r hb W
  have d0 : (k == 0) = false := by simpa using c0
  have d1 : (k == 1) = false := by simpa using c1
  have d2 : (k == 2) = false := by simpa using c2
  have d3 : (k == 3) = false := by simpa using c3
  have d4 : (k == 4) = false := by simpa using c4
  clear c0 c1 c2 c3 c4
  unfold PlainAt
  refine .inr ?_
  go_enter Try.func51, Try.ntmps51
  go_wp2
  go_ret
  exact ⟨rfl, (Chg.refl _ _).alloc _⟩
end Go.Proofs.Ytgimcpnelogadaa.Va
