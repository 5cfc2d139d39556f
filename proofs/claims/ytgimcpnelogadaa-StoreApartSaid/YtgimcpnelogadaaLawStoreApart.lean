/- StoreApart: for every input the law returns true; the arguments read behind the call as before. No condition. -/
import Derived.Test.YtgimcpnelogadaaRows
import Derived.Test.YtgimcpnelogadaaPlJ
import Derived.Test.YtgimcpnelogadaaActsR
import Derived.Carry
import Derived.WalkKit
import Derived.ProofKit
import Derived.OpenShut
import Derived.ChangeOld
import Derived.Below
import Derived.SizedLaws
import Derived.Lib.SmallJoins
namespace Go.Proofs.Ytgimcpnelogadaa.Sto
open Go.RowKit Go.Proofs.Ytgimcpnelogadaa.Mem
set_option linter.unusedVariables false
set_option linter.unusedSimpArgs false
/-- A slice of truths that reads as l. -/
structure Bools (w : World) (B : Option Addr) (c n : Nat) : Prop where
  cap : n ≤ c
  small : c ≤ 9223372036854775807
  get : ∀ i, i < n → ∃ (a : Addr) (b : Bool), B = some a ∧ w.cell? (a.add i) = some (.bool b)
theorem Bools.chg {w w' : World} {B : Option Addr} {c n : Nat} (h : Bools w B c n) (hc : Chg [] w w') : Bools w' B c n :=
  ⟨h.cap, h.small, fun i hi => by
    obtain ⟨a, b, e, hg⟩ := h.get i hi
    exact ⟨a, b, e, cell_chg hc hg (by simp)⟩⟩
theorem bools_read {H : Type} {enc : TypeId × Value → H} {w : World} {base n c fuel : Nat} {B : Option Addr} {x : DataW H × List MemPlace} (h : DataW.trod enc Try.prog w base (fun _ => true) true fuel 50 #[.slice B n c].toList = some x) : Bools w B c n := by
  rcases Go.Deep.open_bools Try.underlying50 Try.underlying4 (show Try.prog.cellsOf 4 = 1 by kernel_rfl) h with ⟨hcs, hx⟩ | ⟨a, len, cap, b, hcs, _, hl, hm, hx, hc⟩
  · simp at hcs
    obtain ⟨rfl, rfl, rfl⟩ := hcs
    exact ⟨by simp, by simp, fun i hi => by simp at hi⟩
  · simp at hcs
    obtain ⟨rfl, rfl, rfl⟩ := hcs
    exact ⟨hl, by simpa only [maxLen] using hm, fun i hi => ⟨a, b i, rfl, hc i (by omega)⟩⟩

/-- What stands behind a round, of two. -/
structure TwoI (w : World) (p q : Nat) (G : List Nat) (t u : Nat) (K : List Nat) (m : Nat) (W : World) : Prop where
  one : PlayI w p q G m W
  two : PlayI w t u K m W
  apart : ∀ k ∈ G, k ∉ K
theorem TwoI.first {w W W' : World} {p q t u m : Nat} {G G' K : List Nat} (h : TwoI w p q G t u K m W) (hp : Pair W' p q G' (m + 1)) (hc : Chg G W W') (hn : ∀ k ∈ G', k ∈ G ∨ W.heap.size ≤ k) : TwoI w p q G' t u K (m + 1) W' :=
  ⟨h.one.act hp hc hn, ⟨(h.two.pair.chg hc (fun k hk hm => h.apart k hm hk)).more (Nat.le_succ _), (h.one.act hp hc hn).chg, h.two.fresh⟩, fun k hk hm => by
    rcases hn k hk with e | e
    · exact h.apart k e hm
    · have := h.two.pair.lt k hm; omega⟩
theorem TwoI.turn {w W : World} {p q t u m : Nat} {G K : List Nat} (h : TwoI w p q G t u K m W) : TwoI w t u K p q G m W := ⟨h.two, h.one, fun k hk hm => h.apart k hm hk⟩
theorem TwoI.second {w W W' : World} {p q t u m : Nat} {G K K' : List Nat} (h : TwoI w p q G t u K m W) (hp : Pair W' t u K' (m + 1)) (hc : Chg K W W') (hn : ∀ k ∈ K', k ∈ K ∨ W.heap.size ≤ k) : TwoI w p q G t u K' (m + 1) W' :=
  (h.turn.first hp hc hn).turn

set_option maxHeartbeats 8000000 in
set_option maxRecDepth 100000 in
theorem apart_walk {w : World} {B C : Option Addr} {c d n : Nat} {l : List ActR} (hB : Acts w B c l) (hC : Bools w C d n) :
    Calls Try.prog 6 #[.slice B l.length c, .slice C n d] w fun e w' => e = .returned (.bool true) ∧ Below w.heap.size w w' := by
  by_cases c1 : 300 < l.length
  · have c1' : (300 : Int) < (l.length : Int) := by omega
    go_enter Try.func6, Try.ntmps6
    go_wp2
    go_ret
    exact ⟨rfl, Below.refl _ _⟩
  have c1' : (l.length : Int) ≤ 300 := by omega
  have c1'' : decide ((300 : Int) < (l.length : Int)) = false := decide_eq_false (by omega)
  have HB := Mem.Aside.mk hB
  have HC := Mem.Aside.mk hC
  have CB := Mem.Aside.mk (big_calls hB (by omega))
  have CN := Mem.Aside.mk (new_holds w)
  clear hB hC
  go_enter Try.func6, Try.ntmps6
  go_upto_region 2 with (first
    | (go_at_call 30; (with_reducible refine CB.out.mono ?_); rintro e w1 ⟨⟨b, rfl⟩, rfl⟩; cases b)
    | (go_at_call 21; (with_reducible refine CN.out.mono ?_); rintro e w1 ⟨p, F, rfl, h1, hc1, hF⟩; have H1 := Mem.Aside.mk h1; have HC1 := Mem.Aside.mk hc1; have HF := Mem.Aside.mk hF; have CN2 := Mem.Aside.mk (new_holds w1); clear h1 hc1 hF)
    | (go_at_call 21; (with_reducible refine CN2.out.mono ?_); rintro e w2 ⟨t, K, rfl, h2, hc2, hK⟩; have H2 := Mem.Aside.mk h2; have HC2 := Mem.Aside.mk hc2; have HK := Mem.Aside.mk hK; clear h2 hc2 hK))
  · obtain ⟨q, hq⟩ : ∃ q, q = w2.heap.size := ⟨_, rfl⟩
    have hs12 : w.heap.size ≤ w1.heap.size := HC1.out.size
    have hs22 : w1.heap.size ≤ w2.heap.size := HC2.out.size
    have P0 : Mem.Aside (TwoI w p q (F ++ [q]) t (q + 1) (K ++ [q + 1]) 0 ((w2.alloc (.cells #[.slice none 0 0, .int .i64 0] 43)).alloc (.cells #[.slice none 0 0, .int .i64 0] 43))) := ⟨by
      have hA : Holds w2 p F [] 0 := H1.out.chg HC2.out (by simp)
      have hc : Chg [] w ((w2.alloc (.cells #[.slice none 0 0, .int .i64 0] 43)).alloc (.cells #[.slice none 0 0, .int .i64 0] 43)) := ((HC1.out.then HC2.out (by simp)).alloc _).alloc _
      have hK2 : Holds (w2.alloc (.cells #[.slice none 0 0, .int .i64 0] 43)) t K [] 0 := H2.out.chg ((Chg.refl [] w2).alloc _) (by simp)
      have p2 := Pair.new hK2
      have e : (w2.alloc (.cells #[.slice none 0 0, .int .i64 0] 43)).heap.size = q + 1 := by rw [hq]; simp
      rw [e] at p2
      refine ⟨⟨by rw [hq]; exact (Pair.new hA).chg ((Chg.refl [] _).alloc _) (by simp), hc, fun k hk => ?_⟩, ⟨p2, hc, fun k hk => ?_⟩, fun k hk hm => ?_⟩
      · rcases List.mem_append.1 hk with hk | hk
        · exact HF.out k hk
        · simp at hk; omega
      · rcases List.mem_append.1 hk with hk | hk
        · have := HK.out k hk; omega
        · simp at hk; omega
      · have hl1 := H1.out.lt
        have hl2 := H2.out.lt
        rcases List.mem_append.1 hk with hk | hk
        · have := hl1 k hk
          rcases List.mem_append.1 hm with hm | hm
          · have := HK.out k hm; omega
          · simp at hm; omega
        · simp at hk
          rcases List.mem_append.1 hm with hm | hm
          · have := hl2 k hm; omega
          · simp at hm; omega⟩
    simp only [← hq]
    generalize ((w2.alloc (.cells #[.slice none 0 0, .int .i64 0] 43)).alloc (.cells #[.slice none 0 0, .int .i64 0] 43)) = W1 at P0 ⊢
    clear hq H1 HC1 HF H2 HC2 HK hs12 hs22
    go_loopw [9] (fun i wr => ∃ (m : Nat) (G K : List Nat), i = .int .i64 (m : Int) ∧ m ≤ l.length ∧ Mem.Aside (TwoI w p q G t (q + 1) K m wr)) (fun i _ => l.length - (intOf i).toNat)
    case atStart => exact ⟨0, F ++ [q], K ++ [q + 1], rfl, Nat.zero_le _, P0⟩
    case round =>
      obtain ⟨m, G, K, rfl, hm, HP⟩ := hrel
      by_cases d0 : m < l.length
      · have d' : (m : Int) < (l.length : Int) := by omega
        have hwm := (IntWalk.i64_in ((m : Int) + 1) (by omega) : IntKind.i64.wrap ((m : Int) + 1) = ((m + 1 : Nat) : Int))
        obtain ⟨ab, rfl, e0, e1, e2, e3, e4, e5⟩ := (HB.out.chg HP.out.one.chg).get m d0
        obtain ⟨r, hr⟩ : ∃ r, r = l[m] := ⟨_, rfl⟩
        rw [← hr] at e0 e1 e2 e3 e4 e5
        obtain ⟨rw', rn, ri, ro, rd, rx⟩ := r
        simp only at e0 e1 e2 e3 e4 e5
        have hn63 : n ≤ 9223372036854775807 := Nat.le_trans HC.out.cap HC.out.small
        by_cases f : m < n
        · have f' : (m : Int) < (n : Int) := by omega
          obtain ⟨ac, b, rfl, hb⟩ := (HC.out.chg HP.out.one.chg).get m f
          cases b
          · have CA := Mem.Aside.mk (act_calls HP.out.one.pair (by omega) l[m] (HB.out.fit _ (List.getElem_mem d0)))
            rw [← hr] at CA
            simp only [ActR.val] at CA
            go_wp2_with (go_at_call 31; (with_reducible refine CA.out.mono ?_); rintro e w3 ⟨rfl, G3, hp3, hc3, hn3⟩; have HP3 := Mem.Aside.mk (HP.out.first hp3 hc3 hn3); clear hp3 hc3 hn3)
            exact ⟨⟨m + 1, G3, K, by go_num, by omega, HP3⟩, by simp [intOf]; omega⟩
          · have CA := Mem.Aside.mk (act_calls HP.out.two.pair (by omega) l[m] (HB.out.fit _ (List.getElem_mem d0)))
            rw [← hr] at CA
            simp only [ActR.val] at CA
            go_wp2_with (go_at_call 31; (with_reducible refine CA.out.mono ?_); rintro e w3 ⟨rfl, G3, hp3, hc3, hn3⟩; have HP3 := Mem.Aside.mk (HP.out.second hp3 hc3 hn3); clear hp3 hc3 hn3)
            exact ⟨⟨m + 1, G, G3, by go_num, by omega, HP3⟩, by simp [intOf]; omega⟩
        · have f' : decide ((m : Int) < (n : Int)) = false := decide_eq_false (by omega)
          have CA := Mem.Aside.mk (act_calls HP.out.one.pair (by omega) l[m] (HB.out.fit _ (List.getElem_mem d0)))
          rw [← hr] at CA
          simp only [ActR.val] at CA
          go_wp2_with (go_at_call 31; (with_reducible refine CA.out.mono ?_); rintro e w3 ⟨rfl, G3, hp3, hc3, hn3⟩; have HP3 := Mem.Aside.mk (HP.out.first hp3 hc3 hn3); clear hp3 hc3 hn3)
          exact ⟨⟨m + 1, G3, K, by go_num, by omega, HP3⟩, by simp [intOf]; omega⟩
      · have d' : decide ((m : Int) < (l.length : Int)) = false := decide_eq_false (by omega)
        have CS := Mem.Aside.mk (same_pair HP.out.one.pair)
        go_wp2_with (first
          | (go_at_call 33; (with_reducible refine CS.out.mono ?_); rintro e w3 ⟨rfl, hc3⟩; have HP3 := Mem.Aside.mk (HP.out.two.same hc3); have CS2 := Mem.Aside.mk (same_pair HP3.out.pair); clear hc3)
          | (go_at_call 33; (with_reducible refine CS2.out.mono ?_); rintro e w4 ⟨rfl, hc4⟩; have HP4 := Mem.Aside.mk (HP3.out.same hc4); clear hc4)
          | (go_at_call 25; (with_reducible refine (awake_calls _).mono ?_); rintro e w9 ⟨rfl, hc9⟩; have HC9 := Mem.Aside.mk (HP4.out.chg.then hc9 (by simp)); clear hc9))
        go_ret
        exact ⟨rfl, HC9.out.below⟩
  · go_wp2
    go_ret
    exact ⟨rfl, Below.refl _ _⟩
end Go.Proofs.Ytgimcpnelogadaa.Sto
namespace Go.Proofs.Ytgimcpnelogadaa.storeApart
open Go.ChangeShapes Go.WideShapes Go.ChangeAt Go.RowKit Go.Joins
set_option linter.unusedVariables false
set_option maxRecDepth 100000 in
theorem lifted (os : Os) (started : os.Started) (H : Type) (enc : TypeId × Value → H) :
    ReturnsInHanded {} Try.checked os 6 .any (Rows.storeApartSpec.pre6 enc Try.prog Try.f6 [] false) (Rows.storeApartSpec.post enc Try.prog Try.f6 false true false false) := by
  refine returnsInHanded_of_change (C := Try.checked) (show ownKnob Try.prog.godebug = none by kernel_rfl) started (by kernel_rfl) Try.func6
    (ChangeSpec.witness6 (enc := enc) (C := Try.checked) false ⟨#[], #[.slice none 0 0, .slice none 0 0], []⟩ 8 (by kernel_rfl) (by kernel_rfl) (by kernel_rfl) (by kernel_rfl)) ?_
  intro W base args ds gs before hval0 hW hcnd _
  have hval : ∀ (j : Nat) t v, Try.f6.params[j]? = some t → args[j]? = some v → Value.okWide Try.prog W .any base t v := hval0
  have hW' := hW
  obtain ⟨p, q, hA0, hV, rfl, hfz, hnd⟩ := hW
  have hA : DataW.TrodAll enc Try.prog W 0 (fun _ => true) true Try.f6.params.toList args.toList ds p := hA0
  rw [Try.params6] at hA hval
  obtain ⟨v0, vs0, d0, ds0, p0, q0, hargs, rfl, rfl, h0, r0⟩ := trodAll_cons hA
  obtain ⟨v1, vs1, d1, ds1, p1, q1, rfl, rfl, rfl, h1, r1⟩ := trodAll_cons r0
  obtain ⟨rfl, rfl, rfl⟩ := trodAll_nil r1
  obtain rfl : args = #[v0, v1] := by cases args; simp_all
  obtain ⟨rfl, rfl⟩ := trodVars_none hV
  obtain ⟨B0, n0, c0, rfl⟩ := Go.WideShapes.okWide_slice Try.underlying38 (hval 0 38 v0 rfl rfl)
  obtain ⟨B1, n1, c1, rfl⟩ := Go.WideShapes.okWide_slice Try.underlying50 (hval 1 50 v1 rfl rfl)
  have h0k := h0
  have h1k := h1
  obtain ⟨fuel0, hf0⟩ := h0
  obtain ⟨fuel1, hf1⟩ := h1
  obtain ⟨l, hl0, hI0⟩ := Sto.acts_read hf0
  have hI1 := Sto.bools_read hf1
  subst hl0
  have hlt : ∀ x ∈ p0 ++ p1, x.block < W.heap.size := fun x hx => by simpa using hW'.lt x (by rw [List.append_nil, List.append_nil]; exact hx)
  clear hA0 hval0
  refine (Sto.apart_walk hI0 hI1).mono fun e W' ⟨he, bel⟩ => ?_
  subst he
  exact ⟨_, rfl, _, _, _, [], _, [], hW', trodAll_mk1 (shut_bool Try.underlying4 _), (trodAll_cons_mk (Below.trod (show laidOutB Try.prog = true by kernel_rfl) (by kernel_rfl) (of_decide_eq_true (by kernel_rfl)) h0k bel (fun x hx => hlt x (List.mem_append_left _ hx))) (trodAll_cons_mk (Below.trod (show laidOutB Try.prog = true by kernel_rfl) (by kernel_rfl) (of_decide_eq_true (by kernel_rfl)) h1k bel (fun x hx => hlt x (List.mem_append_right _ hx))) trodAll_mk0)), rfl, bel.frame _, fun h => by cases h⟩
theorem over : Rows.storeApartRow.holds Try.pinned (OpenSpec.ofChange Rows.storeApartSpec) :=
  OpenClaim.holds_of_wide 6 Try.f6 rfl rfl rfl rfl rfl rfl rfl ⟨rfl, rfl, rfl, rfl, rfl⟩ rfl rfl rfl rfl rfl (by kernel_rfl) Try.func6 (by kernel_rfl)
    (of_decide_eq_true (by kernel_rfl)) (by unfold Func.isWrapper; first | (rw [if_pos (by decide +kernel)]; kernel_rfl) | (rw [if_neg (by decide +kernel)]; exact ⟨rfl, rfl⟩))
    (fun os started H enc _ => lifted os started H enc)
end Go.Proofs.Ytgimcpnelogadaa.storeApart
namespace Go.Proofs.Ytgimcpnelogadaa
/-- StoreApart, as it is stated. -/
theorem storeApart_said : Rows.StoreApartSaid := storeApart.over
end Go.Proofs.Ytgimcpnelogadaa
