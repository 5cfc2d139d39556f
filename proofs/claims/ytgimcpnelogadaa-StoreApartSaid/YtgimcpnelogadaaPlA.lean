/- Chapter 5: what StorePlays is handed; big. -/
import Derived.Test.YtgimcpnelogadaaRefE
namespace Go.Proofs.Ytgimcpnelogadaa.Sto
open Go.RowKit Go.Proofs.Ytgimcpnelogadaa.Mem
set_option linter.unusedVariables false
set_option linter.unusedSimpArgs false

structure ActR where
  what : Int
  n : Int
  id : Int
  off : Int
  width : Int
  x : Nat
def ActR.cells (r : ActR) : List Value := [.int .i64 r.what, .int .i64 r.n, .int .i64 r.id, .int .i64 r.off, .int .i64 r.width, .int .u64 (r.x : Int)]
def ActR.val (r : ActR) : Value := .agg #[.int .i64 r.what, .int .i64 r.n, .int .i64 r.id, .int .i64 r.off, .int .i64 r.width, .int .u64 (r.x : Int)]
def ActR.ok (r : ActR) : Prop := I64 r.what ∧ I64 r.n ∧ I64 r.id ∧ I64 r.off ∧ I64 r.width ∧ r.x < 18446744073709551616
/-- A truth is returned. -/
def RetB (e : Ending) : Prop := ∃ b, e = .returned (.bool b)
/-- A slice of acts that reads as l. -/
structure Acts (w : World) (B : Option Addr) (c : Nat) (l : List ActR) : Prop where
  cap : l.length ≤ c
  small : c ≤ 9223372036854775807
  fit : ∀ r ∈ l, r.ok
  get : ∀ i (h : i < l.length), ∃ a : Addr, B = some a ∧ w.cell? (a.add (i * 6)) = some (.int .i64 l[i].what) ∧ w.cell? ⟨(a.add (i * 6)).block, (a.add (i * 6)).off + 1, none⟩ = some (.int .i64 l[i].n) ∧ w.cell? ⟨(a.add (i * 6)).block, (a.add (i * 6)).off + 2, none⟩ = some (.int .i64 l[i].id) ∧
    w.cell? ⟨(a.add (i * 6)).block, (a.add (i * 6)).off + 3, none⟩ = some (.int .i64 l[i].off) ∧ w.cell? ⟨(a.add (i * 6)).block, (a.add (i * 6)).off + 4, none⟩ = some (.int .i64 l[i].width) ∧ w.cell? ⟨(a.add (i * 6)).block, (a.add (i * 6)).off + 5, none⟩ = some (.int .u64 (l[i].x : Int))
theorem Acts.chg {w w' : World} {B : Option Addr} {c : Nat} {l : List ActR} (h : Acts w B c l) (hc : Chg [] w w') : Acts w' B c l :=
  ⟨h.cap, h.small, h.fit, fun i hi => by
    obtain ⟨a, e, h0, h1, h2, h3, h4, h5⟩ := h.get i hi
    exact ⟨a, e, cell_chg hc h0 (by simp), cell_chg hc h1 (by simp), cell_chg hc h2 (by simp), cell_chg hc h3 (by simp), cell_chg hc h4 (by simp), cell_chg hc h5 (by simp)⟩⟩

set_option maxHeartbeats 8000000 in
set_option maxRecDepth 100000 in
theorem big_calls {w : World} {B : Option Addr} {c : Nat} {l : List ActR} (h : Acts w B c l) (hl : l.length ≤ 300) :
    Calls Try.prog 30 #[.slice B l.length c] w fun e w' => RetB e ∧ w = w' := by
  have H := Mem.Aside.mk h
  clear h
  go_enter Try.func30, Try.ntmps30
  go_wp2
  go_loopw [3, 4] (fun u i wr => ∃ (m : Nat) (T : Nat), i = .int .i64 (m : Int) ∧ u = .int .i64 (T : Int) ∧ T ≤ 200000 ∧ m ≤ l.length ∧ w = wr) (fun _ i _ => l.length - (intOf i).toNat)
  case atStart => exact ⟨0, 0, rfl, rfl, Nat.zero_le _, Nat.zero_le _, rfl⟩
  case round =>
    obtain ⟨m, T, rfl, rfl, hT, hm, rfl⟩ := hrel
    by_cases d : m < l.length
    · obtain ⟨a, rfl, c0, c1, _⟩ := H.out.get m d
      have d' : (m : Int) < (l.length : Int) := by omega
      have hwm := (IntWalk.i64_in ((m : Int) + 1) (by omega) : IntKind.i64.wrap ((m : Int) + 1) = ((m + 1 : Nat) : Int))
      obtain ⟨W, hW⟩ : ∃ W, W = l[m].what := ⟨_, rfl⟩
      obtain ⟨N, hN⟩ : ∃ N, N = l[m].n := ⟨_, rfl⟩
      rw [← hW] at c0
      rw [← hN] at c1
      clear hW hN
      by_cases k1 : W = 1
      · by_cases k2 : 0 < N
        · by_cases k3 : N ≤ 8388608
          · by_cases k4 : 20000 < N
            · subst k1
              go_wp2
              go_ret
              exact ⟨⟨_, rfl⟩, rfl⟩
            · have hws := (IntWalk.i64_in ((T : Int) + N) (by omega) : IntKind.i64.wrap ((T : Int) + N) = (T : Int) + N)
              by_cases k5 : 200000 < (T : Int) + N
              · subst k1
                go_wp2
                go_ret
                exact ⟨⟨_, rfl⟩, rfl⟩
              · subst k1
                go_wp2
                exact ⟨⟨m + 1, T + N.toNat, by go_num, by rw [show ((T + N.toNat : Nat) : Int) = (T : Int) + N by omega], by omega, by omega, trivial⟩, by simp [intOf]; omega⟩
          · subst k1
            go_wp2
            exact ⟨⟨m + 1, T, by go_num, rfl, hT, by omega, trivial⟩, by simp [intOf]; omega⟩
        · subst k1
          go_wp2
          exact ⟨⟨m + 1, T, by go_num, rfl, hT, by omega, trivial⟩, by simp [intOf]; omega⟩
      · have k1' : (W == 1) = false := by simpa using k1
        go_wp2
        exact ⟨⟨m + 1, T, by go_num, rfl, hT, by omega, trivial⟩, by simp [intOf]; omega⟩
    · have d' : decide ((m : Int) < (l.length : Int)) = false := decide_eq_false (by omega)
      go_wp2
      go_ret
      exact ⟨⟨_, rfl⟩, rfl⟩

theorem zero_calls {w : World} {q most : Nat} {X : List RX} {lv : Value} (h : RefAt w q X lv most) {i : Nat} (hi : i < X.length) (hk : I64 (X[i].id : Int)) :
    Calls Try.prog 75 #[.pointer (some ⟨q, 0, none⟩), .int .i64 (X[i].id : Int)] w fun e w' => e = .returned (.bool (decide (X[i].bs.length = 0))) ∧ Chg [] w w' := by
  have C := Mem.Aside.mk (rlen_some h hi hk)
  obtain ⟨N, hN⟩ : ∃ N, N = X[i].bs.length := ⟨_, rfl⟩
  rw [← hN] at C ⊢
  clear h hk hN
  go_enter Try.func75, Try.ntmps75
  go_wp2_with (go_at_call 72; (with_reducible refine C.out.mono ?_); rintro e w' ⟨rfl, hc⟩)
  go_ret
  exact ⟨ret_bool (by by_cases e : N = 0 <;> simp [e]), hc⟩
end Go.Proofs.Ytgimcpnelogadaa.Sto
