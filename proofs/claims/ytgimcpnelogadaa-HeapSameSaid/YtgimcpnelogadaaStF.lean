/- Chapter 5, the store, by hand: Bytes, part. -/
import Derived.Test.YtgimcpnelogadaaStE
namespace Go.Proofs.Ytgimcpnelogadaa.Sto
open Go.RowKit Go.Proofs.Ytgimcpnelogadaa.Mem
set_option linter.unusedVariables false
set_option linter.unusedSimpArgs false

theorem bytes_none {w : World} {p : Nat} {s : St} {F : List Nat} (h : Sto w p s F) (k : Int) (hk : I64 k) (hn : atOf s.all k = none) :
    Calls Try.prog 85 #[.pointer (some ⟨p, 0, none⟩), .int .i64 k] w fun e w' => e = .returned (.slice none 0 0) ∧ w = w' := by
  have C := Aside.mk (find_none h k hk hn)
  clear h hn hk
  go_enter Try.func85, Try.ntmps85
  go_wp2_with (go_at_call 67; (with_reducible refine C.out.mono ?_); rintro e w' ⟨rfl, rfl⟩)
  go_ret
  exact ⟨rfl, rfl⟩

/-- Where the bytes of an extent lie. -/
def Spot (rawv : Value) (at_ n : Nat) (a : Option Addr) : Prop := 0 < n → ∃ g m cap, rawv = .slice (some ⟨g, 0, none⟩) m cap ∧ a = some ⟨g, at_, none⟩

set_option maxRecDepth 100000 in
theorem bytes_some {w : World} {p mb : Nat} {s : St} {rawv allv : Value} (h : StoAt w p s rawv allv mb) (ho : Ok s) (hl : s.all.length ≤ 1000000000) (hr : s.raw.length ≤ 1000000000000) {i : Nat} (hi : i < s.all.length) (hk : I64 (s.all[i].id : Int)) :
    Calls Try.prog 85 #[.pointer (some ⟨p, 0, none⟩), .int .i64 (s.all[i].id : Int)] w fun e w' => ∃ a, e = .returned (.slice a s.all[i].len s.all[i].len) ∧
      Spot rawv s.all[i].at_ s.all[i].len a ∧ Chg [] w w' := by
  have C := Aside.mk (find_some ⟨_, _, _, h, rfl⟩ ho hl hi hk)
  have H := Aside.mk h
  have hi' : (i : Int) < (s.all.length : Int) := by omega
  have hin := ho.lay.inside _ (List.getElem_mem hi)
  have hup := up_ge s.all[i].len
  obtain ⟨A, hA⟩ : ∃ A, A = s.all[i].at_ := ⟨_, rfl⟩
  obtain ⟨N, hN⟩ : ∃ N, N = s.all[i].len := ⟨_, rfl⟩
  rw [← hA, ← hN]
  have hfit : A + N ≤ s.raw.length := by omega
  have HA := Aside.mk hA
  have HN := Aside.mk hN
  clear ho hk hl hin hup hA hN
  rcases h.raw.cases with ⟨rfl, h2, _⟩ | ⟨g, cap, rest, rfl, hb, hn, hcap, hlen⟩
  · obtain rfl : A = 0 := by omega
    obtain rfl : N = 0 := by omega
    have HF := Aside.mk hfit
    clear h h2 hfit
    go_enter Try.func85, Try.ntmps85
    go_wp2_with (go_at_call 67; (with_reducible refine C.out.mono ?_); rintro e w' ⟨rfl, hc⟩; have h0 := (H.out.chg hc (by simp)).c0; have h0a := fun o => Lib.cell?_alloc_some o h0; have h1 := (H.out.chg hc (by simp)).c1; obtain ⟨g, cap, rfl, e0, e1, e2⟩ := (H.out.chg hc (by simp)).ext hi; rw [← HA.out] at e1; rw [← HN.out] at e2)
    go_quiet (fail)
    go_wp2
    go_ret
    exact ⟨_, rfl, fun h => absurd h (by omega), (hc.alloc _).drewN _⟩
  · have HL := Aside.mk hlen
    clear h hb hlen
    go_enter Try.func85, Try.ntmps85
    go_wp2_with (go_at_call 67; (with_reducible refine C.out.mono ?_); rintro e w' ⟨rfl, hc⟩; have h0 := (H.out.chg hc (by simp)).c0; have h0a := fun o => Lib.cell?_alloc_some o h0; have h1 := (H.out.chg hc (by simp)).c1; obtain ⟨g, cap, rfl, e0, e1, e2⟩ := (H.out.chg hc (by simp)).ext hi; rw [← HA.out] at e1; rw [← HN.out] at e2)
    go_quiet (fail)
    go_wp2
    all_goals go_ret
    · have hx : A + N = A := by assumption
      obtain rfl : N = 0 := by omega
      exact ⟨_, rfl, fun h => absurd h (by omega), (hc.alloc _).drewN _⟩
    · exact ⟨_, rfl, fun h => ⟨_, _, _, rfl, rfl⟩, (hc.alloc _).drewN _⟩
end Go.Proofs.Ytgimcpnelogadaa.Sto
