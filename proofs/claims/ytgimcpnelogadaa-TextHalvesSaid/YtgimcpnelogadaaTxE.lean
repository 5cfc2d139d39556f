/- Chapter 8: TextThree, walked. -/
import Derived.Test.YtgimcpnelogadaaTxD
namespace Go.Proofs.Ytgimcpnelogadaa.Tx
open Go.RowKit Go.Proofs.Ytgimcpnelogadaa.Mem Go.Proofs.Ytgimcpnelogadaa.Sto Go.Proofs.Ytgimcpnelogadaa.Wd Go.Proofs.Ytgimcpnelogadaa.Hp Go.Proofs.Ytgimcpnelogadaa.Va
set_option linter.unusedVariables false
set_option linter.unusedSimpArgs false
theorem row1 (W : World) (x : Nat) : Row (W.alloc (.cells #[.int .u64 (x : Int)] 22)) 22 1 (.slice (some ⟨W.heap.size, 0, none⟩) 1 1) [x].length (u64V [x]) := Row.mk (rest := []) (Blk.newL [.int .u64 (x : Int)] rfl) rfl (Nat.le_refl _) (by decide) rfl
theorem row2 (W : World) (x y : Nat) : Row (W.alloc (.cells #[.int .u64 (x : Int), .int .u64 (y : Int)] 22)) 22 1 (.slice (some ⟨W.heap.size, 0, none⟩) 2 2) [x, y].length (u64V [x, y]) := Row.mk (rest := []) (Blk.newL [.int .u64 (x : Int), .int .u64 (y : Int)] rfl) rfl (Nat.le_refl _) (by decide) rfl
theorem row3 (W : World) (x y z : Nat) : Row (W.alloc (.cells #[.int .u64 (x : Int), .int .u64 (y : Int), .int .u64 (z : Int)] 22)) 22 1 (.slice (some ⟨W.heap.size, 0, none⟩) 3 3) [x, y, z].length (u64V [x, y, z]) := Row.mk (rest := []) (Blk.newL [.int .u64 (x : Int), .int .u64 (y : Int), .int .u64 (z : Int)] rfl) rfl (Nat.le_refl _) (by decide) rfl
theorem Texts.cons {L : List (Nat × Cel)} {x : Nat} {s : ByteArray} {rs : List Nat} (h : Stands L x (.text s)) (hs : s.size ≤ 8388608) (hr : Texts L rs) : Texts L (x :: rs) := fun z hz => by
  rcases List.mem_cons.1 hz with rfl | hz
  · exact ⟨s, hs, h⟩
  · exact hr z hz
theorem Texts.nil (L : List (Nat × Cel)) : Texts L [] := fun z hz => by simp at hz
set_option maxHeartbeats 16000000 in
set_option maxRecDepth 100000 in
theorem three_walk {w : World} (a b c : ByteArray) :
    Calls Try.prog 18 #[.string a, .string b, .string c] w fun e w' => e = .returned (.bool true) ∧ Chg [] w w' := by
  by_cases n1 : 300 < a.size
  · have n1' : (300 : Int) < (a.size : Int) := by omega
    go_enter Try.func18, Try.ntmps18
    go_wp2
    go_ret
    exact ⟨rfl, Chg.refl _ _⟩
  have n1' : decide ((300 : Int) < (a.size : Int)) = false := decide_eq_false (by omega)
  by_cases n2 : 300 < b.size
  · have n2' : (300 : Int) < (b.size : Int) := by omega
    go_enter Try.func18, Try.ntmps18
    go_wp2
    go_ret
    exact ⟨rfl, Chg.refl _ _⟩
  have n2' : decide ((300 : Int) < (b.size : Int)) = false := decide_eq_false (by omega)
  by_cases n3 : 300 < c.size
  · have n3' : (300 : Int) < (c.size : Int) := by omega
    go_enter Try.func18, Try.ntmps18
    go_wp2
    go_ret
    exact ⟨rfl, Chg.refl _ _⟩
  have n3' : decide ((300 : Int) < (c.size : Int)) = false := decide_eq_false (by omega)
  have HN : Mem.Aside (a.size ≤ 300 ∧ b.size ≤ 300 ∧ c.size ≤ 300) := ⟨by omega⟩
  have NA := need_text a
  have NB := need_text b
  have NC := need_text c
  have NP := need_text (a ++ b)
  have NQ := need_text ((a ++ b) ++ c)
  have NU := need_text (b ++ c)
  have NV := need_text (a ++ (b ++ c))
  simp only [size_app] at NP NQ NU NV
  have HNN := Mem.Aside.mk (And.intro NA (And.intro NB (And.intro NC (And.intro NP (And.intro NQ (And.intro NU NV))))))
  have CN := Mem.Aside.mk (new_k 3000 (by decide) w)
  rw [show ((3000 : Nat) : Int) = 3000 from rfl] at CN
  clear n1 n2 n3 NA NB NC NP NQ NU NV
  go_enter Try.func18, Try.ntmps18
  go_upto_region 6 with (go_at_call 38; (with_reducible refine CN.out.mono ?_); rintro e w1 ⟨p, G, rfl, h1, hc1, hg1⟩; have H1 : Mem.Aside (Three w p 3000 [] [] (.slice none 0 0) w1) := ⟨⟨⟨G, h1, fun k hk => ⟨hg1 k hk, by simp [Value.ownBlock]⟩⟩, Row.nil _ _ _, (fun g hg => by cases hg), hc1⟩⟩; clear h1 hc1 hg1)
  have HM : Mem.Aside (needL ([] : List (Nat × Cel)) = 0) := ⟨rfl⟩
  have CB1 := Mem.Aside.mk (H1.out.box (s := a) (cv := .slice none 0 0) (rs := []) (by have := HN.out; omega) (by have := HNN.out; have := HN.out; have := HM.out; omega) (Row.nil _ _ _) (by simp) (Texts.nil _) (by simp [hwC]))
  go_upto_region 7 with (go_at_call 53; (with_reducible refine CB1.out.mono ?_); rintro e w2 ⟨x, rfl, hb⟩; have HB1 := Mem.Aside.mk hb; clear hb)
  obtain ⟨K1, s1, t1, m1, y1⟩ := HB1.out
  obtain ⟨L1, hL1⟩ : ∃ L1, L1 = [] ++ K1 := ⟨_, rfl⟩
  rw [← hL1] at t1 m1
  have SX : Mem.Aside (Stands L1 x (.text a)) := ⟨s1.more (by rw [hL1]; exact (fun q hq => List.mem_append_right _ hq))⟩
  have W1 : Mem.Aside (∀ z ∈ hwC L1, z ∈ [x]) := ⟨by rw [hL1]; intro z hz; have := y1 z (by simpa using hz); simp [this]⟩
  have T1 := Mem.Aside.mk t1
  replace HM := Mem.Aside.mk (And.intro m1 HM.out)
  clear s1 t1 m1 y1 HB1 CB1 hL1 H1
  have CB2 := Mem.Aside.mk ((T1.out.same ((Chg.refl [] w2).alloc (.cells #[.int .u64 (x : Int)] 22))).box (s := b) (rs := [x]) (by have := HN.out; omega) (by have := HNN.out; have := HN.out; have := HM.out; omega) (row1 w2 x) (by simp) ((Texts.nil _).cons SX.out (by have := HN.out; omega)) W1.out)
  go_upto_region 8 with (go_at_call 53; (with_reducible refine CB2.out.mono ?_); rintro e w3 ⟨y, rfl, hb⟩; have HB2 := Mem.Aside.mk hb; clear hb)
  obtain ⟨K2, s2, t2, m2, y2⟩ := HB2.out
  obtain ⟨L2, hL2⟩ : ∃ L2, L2 = L1 ++ K2 := ⟨_, rfl⟩
  rw [← hL2] at t2 m2
  have SY : Mem.Aside (Stands L2 y (.text b)) := ⟨s2.more (by rw [hL2]; exact (fun q hq => List.mem_append_right _ hq))⟩
  replace SX : Mem.Aside (Stands L2 x (.text a)) := ⟨SX.out.more (by rw [hL2]; exact (fun q hq => List.mem_append_left _ hq))⟩
  have W2 : Mem.Aside (∀ z ∈ hwC L2, z ∈ [x, y]) := ⟨by
    rw [hL2, hwC_append]
    intro z hz
    rcases List.mem_append.1 hz with hz | hz
    · have := W1.out z hz; simp at this ⊢; exact .inl this
    · have := y2 z hz; simp [this]⟩
  have T2 := Mem.Aside.mk t2
  replace HM := Mem.Aside.mk (And.intro m2 HM.out)
  clear s2 t2 m2 y2 HB2 CB2 hL2 W1 T1
  have CB3 := Mem.Aside.mk ((T2.out.same ((Chg.refl [] w3).alloc (.cells #[.int .u64 (x : Int), .int .u64 (y : Int)] 22))).box (s := c) (rs := [x, y]) (by have := HN.out; omega) (by have := HNN.out; have := HN.out; have := HM.out; omega) (row2 w3 x y) (by simp) (((Texts.nil _).cons SY.out (by have := HN.out; omega)).cons SX.out (by have := HN.out; omega)) W2.out)
  go_upto_region 9 with (go_at_call 53; (with_reducible refine CB3.out.mono ?_); rintro e w4 ⟨z, rfl, hb⟩; have HB3 := Mem.Aside.mk hb; clear hb)
  obtain ⟨K3, s3, t3, m3, y3⟩ := HB3.out
  obtain ⟨L3, hL3⟩ : ∃ L3, L3 = L2 ++ K3 := ⟨_, rfl⟩
  rw [← hL3] at t3 m3
  have SZ : Mem.Aside (Stands L3 z (.text c)) := ⟨s3.more (by rw [hL3]; exact (fun q hq => List.mem_append_right _ hq))⟩
  replace SY : Mem.Aside (Stands L3 y (.text b)) := ⟨SY.out.more (by rw [hL3]; exact (fun q hq => List.mem_append_left _ hq))⟩
  replace SX : Mem.Aside (Stands L3 x (.text a)) := ⟨SX.out.more (by rw [hL3]; exact (fun q hq => List.mem_append_left _ hq))⟩
  have W3 : Mem.Aside (∀ u ∈ hwC L3, u ∈ [x, y, z]) := ⟨by
    rw [hL3, hwC_append]
    intro u hu
    rcases List.mem_append.1 hu with hu | hu
    · have := W2.out u hu; simp at this ⊢; omega
    · have := y3 u hu; simp [this]⟩
  -- the row of the three
  have T3 := Mem.Aside.mk (t3.keep (rv' := .slice (some ⟨w4.heap.size, 0, none⟩) 3 3) (ws' := [x, y, z]) ((Chg.refl _ w4).alloc (.cells #[.int .u64 (x : Int), .int .u64 (y : Int), .int .u64 (z : Int)] 22)) (row3 w4 x y z) (fun g hg => by simp [Value.ownBlock] at hg; exact .inr (by omega)))
  have TX : Mem.Aside (Texts L3 [x, y, z]) := ⟨(((Texts.nil _).cons SZ.out (by have := HN.out; omega)).cons SY.out (by have := HN.out; omega)).cons SX.out (by have := HN.out; omega)⟩
  replace HM := Mem.Aside.mk (And.intro m3 HM.out)
  clear s3 t3 m3 y3 HB3 CB3 hL3 W2 T2
  go_upto_region 10 with fail
  obtain ⟨lv, hlv⟩ : ∃ lv, lv = Value.slice (some ⟨w4.heap.size, 0, none⟩) 3 3 := ⟨_, rfl⟩
  rw [← hlv] at T3
  have HLV := Mem.Aside.mk hlv
  obtain ⟨gl, hgl⟩ : ∃ gl, gl = w4.heap.size := ⟨_, rfl⟩
  rw [← hgl] at HLV hlv ⊢
  clear hgl
  generalize w4.alloc (.cells #[.int .u64 (x : Int), .int .u64 (y : Int), .int .u64 (z : Int)] 22) = w5 at T3 ⊢
  rw [hlv] at T3
  clear hlv HLV lv
  have CC1 := Mem.Aside.mk (T3.out.concat SX.out SY.out (by have := HN.out; omega) (by have := HN.out; omega) (by have := HNN.out; have := HN.out; have := HM.out; omega) T3.out.row (by simp) TX.out (fun u hu => by have := W3.out u hu; simp at this ⊢; omega))
  go_upto_region 11 with (go_at_call 54; (with_reducible refine CC1.out.mono ?_); rintro e w6 ⟨pp, rfl, hb⟩; have HB4 := Mem.Aside.mk hb; clear hb)
  obtain ⟨K4, s4, t4, m4, y4⟩ := HB4.out
  have T4 := Mem.Aside.mk t4
  have M4 := Mem.Aside.mk m4
  have CC2 := Mem.Aside.mk (t4.concat (s4.more (fun q hq => List.mem_append_right _ hq)) (SZ.out.more (fun q hq => List.mem_append_left _ hq)) (by rw [size_app]; have := HN.out; omega) (by have := HN.out; omega) (by have := M4.out; have := HNN.out; have := HN.out; have := HM.out; omega) t4.row (by simp) (TX.out.more (fun q hq => List.mem_append_left _ hq)) (fun u hu => by
    rw [hwC_append] at hu
    rcases List.mem_append.1 hu with hu | hu
    · have := W3.out u hu; simp at this ⊢; omega
    · have := y4 u hu; simp [this]))
  clear s4 t4 m4 y4 HB4 CC1 T3
  go_upto_region 12 with (go_at_call 54; (with_reducible refine CC2.out.mono ?_); rintro e w7 ⟨q, rfl, hb⟩; have HB5 := Mem.Aside.mk hb; clear hb)
  obtain ⟨K5, s5, t5, m5, y5⟩ := HB5.out
  rw [app_assoc] at s5 m5
  have SQ : Mem.Aside (Stands (L3 ++ K5) q (.text (a ++ (b ++ c)))) := ⟨s5.more (fun q hq => List.mem_append_right _ hq)⟩
  have hk5 : needL (L3 ++ K5) = needL L3 + (Val.text (a ++ (b ++ c))).need := by
    rw [needL_append] at m5 ⊢
    omega
  have W6 : Mem.Aside (∀ u ∈ hwC (L3 ++ K5), u ∈ [x, y, z, q]) := ⟨by
    rw [hwC_append]
    intro u hu
    rcases List.mem_append.1 hu with hu | hu
    · have := W3.out u hu; simp at this ⊢; omega
    · have := y5 u hu; simp [this]⟩
  have t6 := t5.sub (K := L3 ++ K5) (List.Sublist.append (List.sublist_append_left L3 K4) (List.Sublist.refl _))
  obtain ⟨lv, w8, hr1, hrow1, hc1, ho1⟩ := app1 (w := w7) (W := w7.alloc (.cells #[.int .u64 (q : Int)] 22)) (p := q) rfl t6.row (by simp)
  have T6 := Mem.Aside.mk (t6.keep hc1 hrow1 ho1)
  have HR1 := Mem.Aside.mk hr1
  obtain ⟨L6, hL6⟩ : ∃ L6, L6 = L3 ++ K5 := ⟨_, rfl⟩
  replace SX : Mem.Aside (Stands L6 x (.text a)) := ⟨SX.out.more (by rw [hL6]; exact (fun q hq => List.mem_append_left _ hq))⟩
  replace SY : Mem.Aside (Stands L6 y (.text b)) := ⟨SY.out.more (by rw [hL6]; exact (fun q hq => List.mem_append_left _ hq))⟩
  replace SZ : Mem.Aside (Stands L6 z (.text c)) := ⟨SZ.out.more (by rw [hL6]; exact (fun q hq => List.mem_append_left _ hq))⟩
  rw [← hL6] at SQ hk5 W6 T6
  replace HM := Mem.Aside.mk (And.intro hk5 HM.out)
  have TX6 : Mem.Aside (Texts L6 [x, y, z, q]) := ⟨((((Texts.nil _).cons SQ.out (by rw [size_app, size_app]; have := HN.out; omega)).cons SZ.out (by have := HN.out; omega)).cons SY.out (by have := HN.out; omega)).cons SX.out (by have := HN.out; omega)⟩
  clear s5 t5 m5 y5 HB5 CC2 T4 M4 t6 hr1 hrow1 hc1 ho1 hL6 hk5 TX W3
  go_upto_region 13 with (at_builtin; refine wpList_builtin2 _ (by rfl) .append _ _ _ (by rfl) _ _ (by rfl) (by rfl) _ _ (HR1.out _) ?_)
  have CC3 := Mem.Aside.mk (T6.out.concat SY.out SZ.out (by have := HN.out; omega) (by have := HN.out; omega) (by have := HNN.out; have := HN.out; have := HM.out; omega) T6.out.row (by simp) TX6.out (fun u hu => by have := W6.out u hu; simp at this ⊢; omega))
  go_upto_region 14 with (go_at_call 54; (with_reducible refine CC3.out.mono ?_); rintro e w9 ⟨u, rfl, hb⟩; have HB7 := Mem.Aside.mk hb; clear hb)
  obtain ⟨K7, s7, t7, m7, y7⟩ := HB7.out
  have CC4 := Mem.Aside.mk (t7.concat (SX.out.more (fun q hq => List.mem_append_left _ hq)) (s7.more (fun q hq => List.mem_append_right _ hq)) (by have := HN.out; omega) (by rw [size_app]; have := HN.out; omega) (by have := HNN.out; have := HN.out; have := HM.out; omega) t7.row (by simp) (TX6.out.more (fun q hq => List.mem_append_left _ hq)) (fun z' hz => by
    rw [hwC_append] at hz
    rcases List.mem_append.1 hz with hz | hz
    · have := W6.out z' hz; simp at this ⊢; omega
    · have := y7 z' hz; simp [this]))
  have SQ7 : Mem.Aside (Stands (L6 ++ K7) q (.text (a ++ (b ++ c)))) := ⟨SQ.out.more (fun q hq => List.mem_append_left _ hq)⟩
  clear s7 t7 m7 y7 HB7 CC3
  go_upto_region 15 with (go_at_call 54; (with_reducible refine CC4.out.mono ?_); rintro e w10 ⟨v, rfl, hb⟩; have HB8 := Mem.Aside.mk hb; clear hb)
  obtain ⟨K8, s8, t8, m8, y8⟩ := HB8.out
  have hsz : (a ++ (b ++ c)).size ≤ 8388608 := by rw [size_app, size_app]; have := HN.out; omega
  have CCM := Mem.Aside.mk (t8.compare (SQ7.out.more (fun q hq => List.mem_append_left _ hq)) (s8.more (fun q hq => List.mem_append_right _ hq)) hsz hsz)
  rw [cmp_self] at CCM
  have COF := Mem.Aside.mk (fun (W : World) (hc : Chg [] w10 W) => (t8.same hc).of (s8.more (fun q hq => List.mem_append_right _ hq)) hsz)
  rw [← app_assoc] at COF
  have HF := Mem.Aside.mk t8.chg
  have CAW := Mem.Aside.mk awake8_calls
  have HSUM : Mem.Aside (a.size + b.size + c.size ≤ 900) := ⟨by have := HN.out; omega⟩
  clear s8 t8 m8 y8 HB8 CC4 hsz
  go_wp2_with (first
    | (go_at_call 55; (with_reducible refine CCM.out.mono ?_); rintro e w11 ⟨rfl, hc11⟩; have HC11 := Mem.Aside.mk hc11; clear hc11)
    | (go_at_call 56; (with_reducible refine (COF.out _ HC11.out).mono ?_); rintro e w12 ⟨rfl, hc12⟩; have HC12 := Mem.Aside.mk (HF.out.then (HC11.out.trans hc12) (by simp)); clear hc12)
    | (go_at_call 57; (with_reducible refine (CAW.out _).mono ?_); rintro e w13 ⟨rfl, hc13⟩; have HC13 := Mem.Aside.mk (HC12.out.then hc13 (by simp)); clear hc13))
  all_goals (try (exfalso; have h0 := HSUM.out; have h1 := size_app a b; omega))
  go_ret
  exact ⟨rfl, HC13.out⟩
end Go.Proofs.Ytgimcpnelogadaa.Tx
