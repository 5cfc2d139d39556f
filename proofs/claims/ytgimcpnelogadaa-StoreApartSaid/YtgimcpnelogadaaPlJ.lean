/- Chapter 5: StorePlays walks. -/
import Derived.Test.YtgimcpnelogadaaPlI
import Derived.Test.YtgimcpnelogadaaStW
namespace Go.Proofs.Ytgimcpnelogadaa.Sto
open Go.RowKit Go.Proofs.Ytgimcpnelogadaa.Mem
set_option linter.unusedVariables false
set_option linter.unusedSimpArgs false

theorem act_calls {w : World} {p q n : Nat} {G : List Nat} (h : Pair w p q G n) (hn : n ≤ 1000) (r : ActR) (hr : r.ok) :
    Calls Try.prog 31 #[.pointer (some ⟨p, 0, none⟩), .pointer (some ⟨q, 0, none⟩), r.val] w (ActPost w p q G n) := by
  by_cases c1 : r.what = 1
  · by_cases d1 : r.n < 0
    · exact act_take_neg h hn r hr c1 d1
    · by_cases d2 : 8388608 < r.n
      · exact act_take_long h hn r hr c1 d2
      · exact act_take h hn r hr c1 (by omega) (by omega)
  by_cases c2 : r.what = 2
  · exact act_give h hn r hr c2
  by_cases c3 : r.what = 3
  · exact act_len h hn r hr c3
  by_cases c4 : r.what = 4
  · exact act_load h hn r hr c4
  by_cases c5 : r.what = 5
  · exact act_save h hn r hr c5
  by_cases c6 : r.what = 6
  · exact act_pack h hn r hr c6
  by_cases c7 : r.what = 7
  · exact act_till h hn r hr c7
  exact act_none h r hr (by omega)
theorem lies_pair {w : World} {p q n : Nat} {G : List Nat} (h : Pair w p q G n) (hn : n ≤ 1000) :
    Calls Try.prog 32 #[.pointer (some ⟨p, 0, none⟩), .pointer (some ⟨q, 0, none⟩)] w fun e w' => ∃ v, e = .returned (.tuple #[v, .bool true]) ∧ Chg [] w w' := by
  obtain ⟨F, X, lv, most, H, rfl⟩ := h
  obtain ⟨⟨s, h1, h2, h3, h4⟩, h5, h6, h7⟩ := H.holds
  have hc := H.count
  have hm := H.most
  have hsp := h2.span
  refine (lies_calls h1 h2 h3 h4 H.ref (by omega) (by omega) (by omega)).mono ?_
  rintro e w' ⟨v, rfl, _, hc, _⟩
  exact ⟨v, rfl, hc⟩
theorem same_pair {w : World} {p q n : Nat} {G : List Nat} (h : Pair w p q G n) :
    Calls Try.prog 33 #[.pointer (some ⟨p, 0, none⟩), .pointer (some ⟨q, 0, none⟩)] w fun e w' => e = .returned (.bool true) ∧ Chg [] w w' := by
  obtain ⟨F, X, lv, most, H, rfl⟩ := h
  exact same_calls H.holds H.ref
theorem Pair.new {w1 : World} {p : Nat} {F : List Nat} (h : Holds w1 p F [] 0) :
    Pair (w1.alloc (.cells #[.slice none 0 0, .int .i64 0] 43)) p w1.heap.size (F ++ [w1.heap.size]) 0 := by
  refine ⟨F, [], .slice none 0 0, 0, ⟨h.chg ((Chg.refl [] w1).alloc _) (by simp), ⟨Blk.newL [_, _] rfl, Row.nil _ _ _, by simp, by simp, by simp, by simp⟩, fun k hk hm => ?_, by simp, by simp⟩, by simp [rfoot, Value.ownBlock]⟩
  have := h.lt k hk
  rcases mem_rfoot.1 hm with rfl | hm | hm
  · omega
  · cases hm
  · simp at hm

/-- What stands behind a round. -/
structure PlayI (w : World) (p q : Nat) (G : List Nat) (m : Nat) (W : World) : Prop where
  pair : Pair W p q G m
  chg : Chg [] w W
  fresh : ∀ k ∈ G, w.heap.size ≤ k
theorem PlayI.act {w W W' : World} {p q m : Nat} {G G' : List Nat} (h : PlayI w p q G m W) (hp : Pair W' p q G' (m + 1)) (hc : Chg G W W') (hn : ∀ k ∈ G', k ∈ G ∨ W.heap.size ≤ k) : PlayI w p q G' (m + 1) W' :=
  ⟨hp, h.chg.then hc (fun x hx => .inr (h.fresh x hx)), fun k hk => (hn k hk).elim (h.fresh k) (fun e => Nat.le_trans h.chg.size e)⟩
theorem PlayI.same {w W W' : World} {p q m : Nat} {G : List Nat} (h : PlayI w p q G m W) (hc : Chg [] W W') : PlayI w p q G m W' :=
  ⟨h.pair.chg hc (by simp), h.chg.then hc (by simp), h.fresh⟩

set_option maxHeartbeats 8000000 in
set_option maxRecDepth 100000 in
theorem plays_walk {w : World} {B : Option Addr} {c : Nat} {l : List ActR} (hB : Acts w B c l) :
    Calls Try.prog 5 #[.slice B l.length c] w fun e w' => e = .returned (.bool true) ∧ Below w.heap.size w w' := by
  by_cases c1 : 300 < l.length
  · have c1' : (300 : Int) < (l.length : Int) := by omega
    go_enter Try.func5, Try.ntmps5
    go_wp2
    go_ret
    exact ⟨rfl, Below.refl _ _⟩
  have c1' : (l.length : Int) ≤ 300 := by omega
  have c1'' : decide ((300 : Int) < (l.length : Int)) = false := decide_eq_false (by omega)
  have HB := Mem.Aside.mk hB
  have CB := Mem.Aside.mk (big_calls hB (by omega))
  have CN := Mem.Aside.mk (new_holds w)
  clear hB
  go_enter Try.func5, Try.ntmps5
  go_upto_region 2 with (first
    | (go_at_call 30; (with_reducible refine CB.out.mono ?_); rintro e w1 ⟨⟨b, rfl⟩, rfl⟩; cases b)
    | (go_at_call 21; (with_reducible refine CN.out.mono ?_); rintro e w1 ⟨p, F, rfl, h1, hc1, hF⟩; have H1 := Mem.Aside.mk h1; have HC1 := Mem.Aside.mk hc1; have HF := Mem.Aside.mk hF; clear h1 hc1 hF))
  · obtain ⟨q, hq⟩ : ∃ q, q = w1.heap.size := ⟨_, rfl⟩
    have P0 : Mem.Aside (PlayI w p q (F ++ [q]) 0 (w1.alloc (.cells #[.slice none 0 0, .int .i64 0] 43))) := ⟨by
      rw [hq]
      refine ⟨Pair.new H1.out, HC1.out.alloc _, fun k hk => ?_⟩
      rcases List.mem_append.1 hk with hk | hk
      · exact HF.out k hk
      · simp at hk; subst hk; exact HC1.out.size⟩
    rw [← hq]
    generalize w1.alloc (.cells #[.slice none 0 0, .int .i64 0] 43) = W1 at P0 ⊢
    clear hq H1 HC1 HF
    go_loopw [5] (fun i wr => ∃ (m : Nat) (G : List Nat), i = .int .i64 (m : Int) ∧ m ≤ l.length ∧ Mem.Aside (PlayI w p q G m wr)) (fun i _ => l.length - (intOf i).toNat)
    case atStart => exact ⟨0, F ++ [q], rfl, Nat.zero_le _, P0⟩
    case round =>
      obtain ⟨m, G, rfl, hm, HP⟩ := hrel
      by_cases d : m < l.length
      · have d' : (m : Int) < (l.length : Int) := by omega
        have hwm := (IntWalk.i64_in ((m : Int) + 1) (by omega) : IntKind.i64.wrap ((m : Int) + 1) = ((m + 1 : Nat) : Int))
        obtain ⟨ab, rfl, e0, e1, e2, e3, e4, e5⟩ := (HB.out.chg HP.out.chg).get m d
        have CA := Mem.Aside.mk (act_calls HP.out.pair (by omega) l[m] (HB.out.fit _ (List.getElem_mem d)))
        obtain ⟨r, hr⟩ : ∃ r, r = l[m] := ⟨_, rfl⟩
        rw [← hr] at CA e0 e1 e2 e3 e4 e5
        obtain ⟨rw', rn, ri, ro, rd, rx⟩ := r
        simp only [ActR.val] at CA e0 e1 e2 e3 e4 e5
        clear hr
        go_wp2_with (first
          | (go_at_call 31; (with_reducible refine CA.out.mono ?_); rintro e w3 ⟨rfl, G3, hp3, hc3, hn3⟩; have HP3 := Mem.Aside.mk (HP.out.act hp3 hc3 hn3); have CL := Mem.Aside.mk (lies_pair HP3.out.pair (by omega)); clear hp3 hc3 hn3)
          | (go_at_call 32; (with_reducible refine CL.out.mono ?_); rintro e w4 ⟨v, rfl, hc4⟩; have HP4 := Mem.Aside.mk (HP3.out.same hc4); clear hc4))
        exact ⟨⟨m + 1, G3, by go_num, by omega, HP4⟩, by simp [intOf]; omega⟩
      · have d' : decide ((m : Int) < (l.length : Int)) = false := decide_eq_false (by omega)
        have CS := Mem.Aside.mk (same_pair HP.out.pair)
        go_wp2_with (first
          | (go_at_call 33; (with_reducible refine CS.out.mono ?_); rintro e w3 ⟨rfl, hc3⟩; have HP3 := Mem.Aside.mk (HP.out.same hc3); clear hc3)
          | (go_at_call 25; (with_reducible refine (awake_calls _).mono ?_); rintro e w9 ⟨rfl, hc9⟩; have HC9 := Mem.Aside.mk (HP3.out.chg.then hc9 (by simp)); clear hc9))
        go_ret
        exact ⟨rfl, HC9.out.below⟩
  · go_wp2
    go_ret
    exact ⟨rfl, Below.refl _ _⟩
end Go.Proofs.Ytgimcpnelogadaa.Sto
