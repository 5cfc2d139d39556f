/- Chapter 8: Of, Len, Byte, Concat, Sub over a heap of leaves. -/
import Derived.Test.YtgimcpnelogadaaVaH
namespace Go.Proofs.Ytgimcpnelogadaa.Tx
open Go.RowKit Go.Proofs.Ytgimcpnelogadaa.Mem Go.Proofs.Ytgimcpnelogadaa.Sto Go.Proofs.Ytgimcpnelogadaa.Wd Go.Proofs.Ytgimcpnelogadaa.Hp Go.Proofs.Ytgimcpnelogadaa.Va
set_option linter.unusedVariables false
set_option linter.unusedSimpArgs false
/-- append(a, l...): a row behind a row. -/
theorem app2 {W : World} {hv v : Value} {a l : List Nat} (hb : Row W 22 1 hv a.length (u64V a)) (h : Row W 22 1 v l.length (u64V l)) (hl : a.length + l.length ≤ 1000000000) :
    ∃ v' w1, (∀ ty consts, (builtin .append #[58, 58] ty consts #[hv, v]).run Try.prog W = .ok (.value v') w1) ∧ Row w1 22 1 v' (a ++ l).length (u64V (a ++ l)) ∧ Chg hv.ownBlock.toList W w1 ∧ ∀ g, v'.ownBlock = some g → hv.ownBlock = some g ∨ W.heap.size ≤ g := by
  obtain ⟨ad, c, hv'⟩ := Row_form h
  have key := hb.append2 Try.underlying58 elemU64 (ad := ad) (c := c) (m := l.length) (news := u64V l) (by simp [u64V]) (fun ha => by
      subst ha
      rcases h.cases with ⟨_, hn, _⟩ | ⟨g, cap, rest, e, _⟩
      · exact hn
      · rw [hv'] at e; cases e) (fun g hg j u hu => by
      subst hg
      rcases h.cases with ⟨e, _⟩ | ⟨g', cap, rest, e, hb, _⟩
      · rw [hv'] at e; cases e
      · rw [hv'] at e
        cases e
        exact (hb.from (fun j u hu => by rw [Nat.zero_add]; exact List.getElem?_append_left_some hu)) j u hu) (u64V_one l) (by omega) (by omega)
  obtain ⟨v', w1, h1, h2, h3, h4⟩ := key
  subst hv'
  have e : u64V a ++ u64V l = u64V (a ++ l) := by simp [u64V]
  rw [e, ← List.length_append] at h2
  refine ⟨v', w1, h1, h2, h3, fun k hk => ?_⟩
  rcases h4 with e | e
  · exact .inl (e ▸ hk)
  · rw [e] at hk
    cases hk
    exact .inr (Nat.le_refl _)
section
variable {W W' W1 : World} {p units : Nat} {L : List (Nat × Cel)} {G : List Nat} {x y : Nat} {s t : ByteArray}
set_option maxRecDepth 100000 in
theorem of_k (h : HeapK p units L G W) (hs : Stands L x (.text s)) (hok : s.size ≤ 8388608) :
    Calls Try.prog 56 #[.pointer (some ⟨p, 0, none⟩), .int .u64 (x : Int)] W fun e w' => e = .returned (.tuple #[.string s, .int .i64 0]) ∧ Chg [] W w' := by
  have CU := Mem.Aside.mk (unbox_k h hs hok (by simp))
  rw [Val.u_eq] at CU
  simp only [Val.k, Val.i, Val.b, Val.t, floatW_zero, show ((0 : Nat) : Int) = 0 from rfl] at CU
  clear h hs
  go_enter Try.func56, Try.ntmps56
  go_wp2_with (go_at_call 48; (with_reducible refine CU.out.mono ?_); rintro e w1 ⟨rfl, hc1⟩; have HC := Mem.Aside.mk hc1; clear hc1)
  go_ret2
  exact ⟨rfl, HC.out.alloc _⟩
set_option maxRecDepth 100000 in
theorem len_k (h : HeapK p units L G W) (hs : Stands L x (.text s)) (hok : s.size ≤ 8388608) :
    Calls Try.prog 58 #[.pointer (some ⟨p, 0, none⟩), .int .u64 (x : Int)] W fun e w' => e = .returned (.tuple #[.int .i64 (s.size : Int), .int .i64 0]) ∧ Chg [] W w' := by
  have CU := Mem.Aside.mk (of_k h hs hok)
  clear h hs
  go_enter Try.func58, Try.ntmps58
  go_wp2_with (go_at_call 56; (with_reducible refine CU.out.mono ?_); rintro e w1 ⟨rfl, hc1⟩; have HC := Mem.Aside.mk hc1; clear hc1)
  go_ret2
  exact ⟨rfl, HC.out⟩
set_option maxRecDepth 100000 in
theorem two_k (h : HeapK p units L G W) (hs : Stands L x (.text s)) (ht : Stands L y (.text t)) (hok : s.size ≤ 8388608) (hot : t.size ≤ 8388608) :
    Calls Try.prog 107 #[.pointer (some ⟨p, 0, none⟩), .int .u64 (x : Int), .int .u64 (y : Int)] W fun e w' => e = .returned (.tuple #[.string s, .string t, .int .i64 0]) ∧ Chg [] W w' := by
  have CU := Mem.Aside.mk (of_k h hs hok)
  have CV := Mem.Aside.mk (fun (W2 : World) (hc : Chg [] W W2) => of_k (h.chg hc (by simp)) ht hot)
  clear h hs ht
  go_enter Try.func107, Try.ntmps107
  go_wp2_with (go_at_call 56; first
    | ((with_reducible refine CU.out.mono ?_); rintro e w1 ⟨rfl, hc1⟩; have HC := Mem.Aside.mk hc1; clear hc1)
    | ((with_reducible refine (CV.out _ HC.out).mono ?_); rintro e w2 ⟨rfl, hc2⟩; have HC2 := Mem.Aside.mk (HC.out.trans hc2); clear hc2))
  go_ret3
  exact ⟨rfl, HC2.out⟩
/-- A string's word is made: what was handed in is a root beside the roots. -/
def BoxT (W : World) (p units : Nat) (L : List (Nat × Cel)) (G : List Nat) (s : ByteArray) (e : Ending) (w' : World) : Prop :=
  ∃ (a : Nat) (K : List (Nat × Cel)) (G' : List Nat), e = .returned (.tuple #[.int .u64 (a : Int), .int .i64 0]) ∧ Chg G W w' ∧ (∀ k ∈ G', k ∈ G ∨ W.heap.size ≤ k) ∧
    Stands K a (.text s) ∧ HeapK p units (L ++ K) G' w' ∧ needL (L ++ K) = needL L + (Val.text s).need ∧ ∀ y ∈ hwC K, y = a
set_option maxRecDepth 100000 in
theorem boxed_k (h : HeapK p units L G W) (hok : s.size ≤ 8388608) (hroom : needL L + (Val.text s).need ≤ units) {hv rv : Value} {hs rs : List Nat} (hh : Row W 22 1 hv hs.length (u64V hs)) (hho : ∀ g, hv.ownBlock = some g → g ∉ G) (hr : Row W 22 1 rv rs.length (u64V rs)) (hl : hs.length + rs.length ≤ 1000000000)
    (hx : ∀ x ∈ hs ++ rs, x < 18446744073709551616) (hR1 : ∀ x ∈ hs ++ rs, x ∈ hwC L ∨ hdl x = none) (hR2 : ∀ x ∈ hwC L, x ∈ hs ++ rs) :
    Calls Try.prog 108 #[.pointer (some ⟨p, 0, none⟩), .string s, rv, hv] W fun e w' => ∃ (a : Nat) (K : List (Nat × Cel)) (G' : List Nat), e = .returned (.tuple #[.int .u64 (a : Int), .int .i64 0]) ∧ Chg (hv.ownBlock.toList ++ G) W w' ∧ (∀ k ∈ G', k ∈ G ∨ W.heap.size ≤ k) ∧
      Stands K a (.text s) ∧ HeapK p units (L ++ K) G' w' ∧ needL (L ++ K) = needL L + (Val.text s).need ∧ ∀ y ∈ hwC K, y = a := by
  obtain ⟨cv, w1, hrun, hrow, hc1, ho1⟩ := app2 hh hr hl
  have hk1 := h.chg hc1 (fun k hk hm => hho k (by simpa using hm) hk)
  have CB := Mem.Aside.mk (box_ok hk1 (.text s) hok hrow (by rw [List.length_append]; omega) hx hR1 hR2 hroom)
  rw [Val.v_eq] at CB
  simp only [Val.k, Val.i, Val.b, Val.t, show ((0 : Nat) : Int) = 0 from rfl] at CB
  have HRUN := Mem.Aside.mk hrun
  have HC1 := Mem.Aside.mk hc1
  clear h hh hho hr hl hx hR1 hR2 hrun hrow hc1 ho1 hk1
  go_enter Try.func108, Try.ntmps108
  go_wp2_with (first
    | (at_builtin; refine wpList_builtin2 _ (by rfl) .append _ _ _ (by rfl) _ _ (by rfl) (by rfl) _ _ (HRUN.out _) ?_)
    | (go_at_call 46; (with_reducible refine CB.out.mono ?_); rintro e w2 ⟨a, K, G', rfl, hc2, hg, hs, hk, hn, hy, _⟩; have HH := Mem.Aside.mk (And.intro hc2 (And.intro hg (And.intro hs (And.intro hk (And.intro hn hy))))); clear hc2 hg hs hk hn hy))
  go_ret2
  obtain ⟨g1, g2, g3, g4, g5, g6⟩ := HH.out
  exact ⟨a, K, G', rfl, (HC1.out.mono (fun x hx => List.mem_append_left _ hx)).trans (g1.mono (fun x hx => List.mem_append_right _ hx)), fun k hk => (g2 k hk).imp id (fun e => Nat.le_trans HC1.out.size e), g3, g4, g5, g6⟩
set_option maxRecDepth 100000 in
theorem concat_k (h : HeapK p units L G W) (hs : Stands L x (.text s)) (ht : Stands L y (.text t)) (hok : s.size ≤ 8388608) (hot : t.size ≤ 8388608) (hst : (s ++ t).size ≤ 8388608) (hroom : needL L + (Val.text (s ++ t)).need ≤ units) {rv : Value} {rs : List Nat} (hr : Row W 22 1 rv rs.length (u64V rs)) (hl : rs.length ≤ 100000000)
    (hx : ∀ x ∈ rs, x < 18446744073709551616) (hR1 : ∀ x ∈ rs, x ∈ hwC L ∨ hdl x = none) (hR2 : ∀ z ∈ hwC L, z ∈ x :: y :: rs) :
    Calls Try.prog 54 #[.pointer (some ⟨p, 0, none⟩), .int .u64 (x : Int), .int .u64 (y : Int), rv] W (BoxT W p units L G (s ++ t)) := by
  obtain ⟨lx1, lx2⟩ := hs.lt h hok
  obtain ⟨ly1, ly2⟩ := ht.lt h hot
  have CT := Mem.Aside.mk (two_k h hs ht hok hot)
  have CB := Mem.Aside.mk (fun (W2 : World) (hc : Chg [] W W2) => boxed_k (s := s ++ t) (hs := [x, y]) (rs := rs) (rv := rv) (hv := .slice (some ⟨W2.heap.size, 0, none⟩) 2 2) ((h.chg hc (by simp)).chg ((Chg.refl [] W2).alloc (.cells #[.int .u64 (x : Int), .int .u64 (y : Int)] 22)) (by simp)) hst hroom (Row.mk (rest := []) (Blk.newL [.int .u64 (x : Int), .int .u64 (y : Int)] rfl) rfl (Nat.le_refl _) (by decide) rfl)
    (fun g hg hm => by have h1 := h.lt _ hm; have h2 := hc.size; simp [Value.ownBlock] at hg; omega) ((hr.chg hc (by simp)).alloc _) (by simp; omega) (by intro z hz; simp only [List.cons_append, List.nil_append, List.mem_cons] at hz; rcases hz with rfl | rfl | hz; exact lx1; exact ly1; exact hx z hz) (by intro z hz; simp only [List.cons_append, List.nil_append, List.mem_cons] at hz; rcases hz with rfl | rfl | hz; exact lx2; exact ly2; exact hR1 z hz) hR2)
  have HSUM : Mem.Aside (s.size + t.size ≤ 20000000) := ⟨by omega⟩
  clear h hs ht hok hot hst hroom hr hl hx hR1 hR2 lx1 lx2 ly1 ly2
  go_enter Try.func54, Try.ntmps54
  go_wp2_with (first
    | (go_at_call 107; (with_reducible refine CT.out.mono ?_); rintro e w1 ⟨rfl, hc1⟩; have HC1 := Mem.Aside.mk hc1; clear hc1)
    | (go_at_call 108; (with_reducible refine (CB.out _ HC1.out).mono ?_); rintro e w2 ⟨a, K, G', rfl, hc2, hg, hs, hk, hn, hy⟩; have HH := Mem.Aside.mk (And.intro hc2 (And.intro hg (And.intro hs (And.intro hk (And.intro hn hy))))); clear hc2 hg hs hk hn hy))
  all_goals (try (exfalso; have h0 := HSUM.out; omega))
  go_ret2
  obtain ⟨g1, g2, g3, g4, g5, g6⟩ := HH.out
  have q1 := HC1.out.size
  exact ⟨a, K, G', rfl, ((HC1.out.alloc _).mono (by simp)).then g1 (fun v hv => by
    simp [Value.ownBlock] at hv
    rcases hv with rfl | hv
    · exact .inr q1
    · exact .inl hv), fun k hk => (g2 k hk).imp id (fun e => Nat.le_trans (HC1.out.alloc _).size e), g3, g4, g5, g6⟩
end
end Go.Proofs.Ytgimcpnelogadaa.Tx
