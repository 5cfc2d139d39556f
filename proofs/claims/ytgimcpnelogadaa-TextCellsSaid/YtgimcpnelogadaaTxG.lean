/- Chapter 8: TextCells, walked. -/
import Derived.Test.YtgimcpnelogadaaTxE
import Derived.Test.YtgimcpnelogadaaTxF
namespace Go.Proofs.Ytgimcpnelogadaa.Tx
open Go.RowKit Go.Proofs.Ytgimcpnelogadaa.Mem Go.Proofs.Ytgimcpnelogadaa.Sto Go.Proofs.Ytgimcpnelogadaa.Wd Go.Proofs.Ytgimcpnelogadaa.Hp Go.Proofs.Ytgimcpnelogadaa.Va
set_option linter.unusedVariables false
set_option linter.unusedSimpArgs false
set_option maxHeartbeats 16000000 in
set_option maxRecDepth 100000 in
theorem cells_walk {w : World} (s t : ByteArray) (i : Int) :
    Calls Try.prog 20 #[.string s, .string t, .int .i64 i] w fun e w' => e = .returned (.bool true) ∧ Chg [] w w' := by
  by_cases n1 : 5 < s.size
  · have n1' : (5 : Int) < (s.size : Int) := by omega
    go_enter Try.func20, Try.ntmps20
    go_wp2
    go_ret
    exact ⟨rfl, Chg.refl _ _⟩
  have n1' : decide ((5 : Int) < (s.size : Int)) = false := decide_eq_false (by omega)
  by_cases n2 : 100 < t.size
  · have n2' : (100 : Int) < (t.size : Int) := by omega
    go_enter Try.func20, Try.ntmps20
    go_wp2
    go_ret
    exact ⟨rfl, Chg.refl _ _⟩
  have n2' : decide ((100 : Int) < (t.size : Int)) = false := decide_eq_false (by omega)
  have HN : Mem.Aside (s.size ≤ 5 ∧ t.size ≤ 100) := ⟨by omega⟩
  have NT := need_text t
  have NST := need_text (s ++ t)
  simp only [size_app] at NST
  have HNN := Mem.Aside.mk (And.intro NT NST)
  have CN := Mem.Aside.mk (new_k 1000 (by decide) w)
  rw [show ((1000 : Nat) : Int) = 1000 from rfl] at CN
  have CBX := Mem.Aside.mk (fun (W : World) (p : Nat) => box_small HN.out.1 W p (.slice none 0 0))
  have SA : Mem.Aside (Stands [] (textW s) (.text s)) := ⟨.inl ⟨by unfold Val.cel; simp [HN.out.1], rfl⟩⟩
  have HCA : Mem.Aside (Wd.cls (textW s) = 5) := ⟨cls_text HN.out.1⟩
  obtain ⟨a, ha⟩ : ∃ a, a = textW s := ⟨_, rfl⟩
  rw [← ha] at CBX SA HCA
  clear n1 n2 NT NST ha
  go_enter Try.func20, Try.ntmps20
  go_upto_region 6 with (go_at_call 38; (with_reducible refine CN.out.mono ?_); rintro e w1 ⟨p, G, rfl, h1, hc1, hg1⟩; have H1 : Mem.Aside (Three w p 1000 [] [] (.slice none 0 0) w1) := ⟨⟨⟨G, h1, fun k hk => ⟨hg1 k hk, by simp [Value.ownBlock]⟩⟩, Row.nil _ _ _, (fun g hg => by cases hg), hc1⟩⟩; clear h1 hc1 hg1)
  go_upto_region 7 with (go_at_call 53; (with_reducible refine (CBX.out _ p).mono ?_); rintro e w2 ⟨rfl, hc2⟩; have H2 := Mem.Aside.mk (H1.out.same hc2); clear hc2)
  have CP := Mem.Aside.mk (H2.out.put (s := s) (cv := .slice none 0 0) (rs := []) (by have := HN.out; omega) (by have := HN.out; simp only [needL, List.map_nil, List.sum_nil]; omega) (Row.nil _ _ _) (by simp) (Texts.nil _) (by simp [hwC]))
  go_upto_region 8 with (go_at_call 39; (with_reducible refine CP.out.mono ?_); rintro e w3 ⟨b, rfl, hcb, hb⟩; have HB := Mem.Aside.mk (And.intro hcb hb); clear hb hcb)
  obtain ⟨cb, K1, s1, t1, m1, y1⟩ := HB.out
  obtain ⟨L1, hL1⟩ : ∃ L1, L1 = [] ++ K1 := ⟨_, rfl⟩
  rw [← hL1] at t1 m1
  have SB : Mem.Aside (Stands L1 b (.text s)) := ⟨s1.more (by rw [hL1]; exact (fun q hq => List.mem_append_right _ hq))⟩
  have W1 : Mem.Aside (∀ z ∈ hwC L1, z ∈ [b]) := ⟨by rw [hL1]; intro z hz; have := y1 z (by simpa using hz); simp [this]⟩
  have T1 := Mem.Aside.mk t1
  have HM1 := Mem.Aside.mk m1
  have HAB : Mem.Aside (a ≠ b) := ⟨fun e => by rw [e, cb] at HCA; exact absurd HCA.out (by decide)⟩
  have eab : ((a : Int) == (b : Int)) = false := by simpa using (fun h => HAB.out (by omega) : ¬ (a : Int) = (b : Int))
  replace SA : Mem.Aside (Stands L1 a (.text s)) := ⟨SA.out.more (fun q hq => by simp at hq)⟩
  clear s1 t1 m1 y1 HB CP hL1 cb
  have CB2 := Mem.Aside.mk ((T1.out.same ((Chg.refl [] w3).alloc (.cells #[.int .u64 (b : Int)] 22))).box (s := t) (rs := [b]) (by have := HN.out; omega) (by have := HNN.out; have := HN.out; have := HM1.out; simp only [needL, List.map_nil, List.sum_nil] at *; omega) (row1 w3 b) (by simp) ((Texts.nil _).cons SB.out (by have := HN.out; omega)) W1.out)
  go_upto_region 9 with (go_at_call 53; (with_reducible refine CB2.out.mono ?_); rintro e w4 ⟨c, rfl, hb⟩; have HB2 := Mem.Aside.mk hb; clear hb)
  obtain ⟨K2, s2, t2, m2, y2⟩ := HB2.out
  obtain ⟨L2, hL2⟩ : ∃ L2, L2 = L1 ++ K2 := ⟨_, rfl⟩
  rw [← hL2] at t2 m2
  have SC : Mem.Aside (Stands L2 c (.text t)) := ⟨s2.more (by rw [hL2]; exact (fun q hq => List.mem_append_right _ hq))⟩
  replace SB : Mem.Aside (Stands L2 b (.text s)) := ⟨SB.out.more (by rw [hL2]; exact (fun q hq => List.mem_append_left _ hq))⟩
  replace SA : Mem.Aside (Stands L2 a (.text s)) := ⟨SA.out.more (by rw [hL2]; exact (fun q hq => List.mem_append_left _ hq))⟩
  have W2 : Mem.Aside (∀ z ∈ hwC L2, z ∈ [b, c]) := ⟨by
    rw [hL2, hwC_append]
    intro z hz
    rcases List.mem_append.1 hz with hz | hz
    · have := W1.out z hz; simp at this ⊢; exact .inl this
    · have := y2 z hz; simp [this]⟩
  have HM2 := Mem.Aside.mk m2
  have T2 := Mem.Aside.mk t2
  clear s2 t2 m2 y2 HB2 CB2 hL2 W1 T1
  go_upto_region 11 with fail
  have T3 := Mem.Aside.mk (T2.out.keep (rv' := .slice (some ⟨w4.heap.size, 0, none⟩) 2 2) (ws' := [b, c]) ((Chg.refl _ w4).alloc (.cells #[.int .u64 (b : Int), .int .u64 (c : Int)] 22)) (row2 w4 b c) (fun g hg => by simp [Value.ownBlock] at hg; exact .inr (by omega)))
  go_upto_region 12 with fail
  obtain ⟨gl, hgl⟩ : ∃ gl, gl = w4.heap.size := ⟨_, rfl⟩
  rw [← hgl] at T3 ⊢
  clear hgl
  generalize w4.alloc (.cells #[.int .u64 (b : Int), .int .u64 (c : Int)] 22) = w5 at T3 ⊢
  have h8 : s.size ≤ 8388608 ∧ t.size ≤ 8388608 ∧ (s ++ t).size ≤ 8388608 := by rw [size_app]; have := HN.out; omega
  have CO1 := Mem.Aside.mk (T3.out.of SB.out h8.1)
  have CL := Mem.Aside.mk (fun (W : World) (hc : Chg [] w5 W) => (T3.out.same hc).len SB.out h8.1)
  have CBA := Mem.Aside.mk (fun (W : World) (hc : Chg [] w5 W) => (T3.out.same hc).byte SA.out h8.1 i)
  have CBB := Mem.Aside.mk (fun (W : World) (hc : Chg [] w5 W) => (T3.out.same hc).byte SB.out h8.1 i)
  have CCA := Mem.Aside.mk (fun (W : World) (hc : Chg [] w5 W) => (T3.out.same hc).compare SA.out SC.out h8.1 h8.2.1)
  have CCB := Mem.Aside.mk (fun (W : World) (hc : Chg [] w5 W) => (T3.out.same hc).compare SB.out SC.out h8.1 h8.2.1)
  have HS3 := Mem.Aside.mk h8.2.2
  obtain ⟨bv, hbv⟩ : ∃ bv, bv = byteV s i := ⟨_, rfl⟩
  obtain ⟨be, hbe⟩ : ∃ be, be = byteE s i := ⟨_, rfl⟩
  obtain ⟨cm, hcm⟩ : ∃ cm, cm = Lib.compareBytes s.data.toList t.data.toList := ⟨_, rfl⟩
  rw [← hbv, ← hbe] at CBA CBB
  rw [← hcm] at CCA CCB
  clear h8 hbv hbe hcm
  go_upto_region 16 with (first
    | (go_at_call 56; (with_reducible refine CO1.out.mono ?_); rintro e w6 ⟨rfl, hc6⟩; have HC6 := Mem.Aside.mk hc6; clear hc6)
    | (go_at_call 58; (with_reducible refine (CL.out _ HC6.out).mono ?_); rintro e w7 ⟨rfl, hc7⟩; have HC7 := Mem.Aside.mk (HC6.out.trans hc7); clear hc7))
  go_upto_region 17 with (go_at_call 60; (with_reducible refine (CBA.out _ HC7.out).mono ?_); rintro e w8 ⟨rfl, hc8⟩; have HC8 := Mem.Aside.mk (HC7.out.trans hc8); clear hc8)
  go_upto_region 18 with (go_at_call 60; (with_reducible refine (CBB.out _ HC8.out).mono ?_); rintro e w9 ⟨rfl, hc9⟩; have HC9 := Mem.Aside.mk (HC8.out.trans hc9); clear hc9)
  go_upto_region 19 with (go_at_call 55; (with_reducible refine (CCA.out _ HC9.out).mono ?_); rintro e w10 ⟨rfl, hc10⟩; have HC10 := Mem.Aside.mk (HC9.out.trans hc10); clear hc10)
  go_upto_region 20 with (go_at_call 55; (with_reducible refine (CCB.out _ HC10.out).mono ?_); rintro e w11 ⟨rfl, hc11⟩; have HC11 := Mem.Aside.mk (HC10.out.trans hc11); clear hc11)
  have T11 := Mem.Aside.mk (T3.out.same HC11.out)
  have CC := Mem.Aside.mk (T11.out.concat SB.out SC.out (by have := HN.out; omega) (by have := HN.out; omega) (by have := HNN.out; have := HN.out; have h1 := HM1.out; have h2 := HM2.out; simp only [needL, List.map_nil, List.sum_nil] at *; omega) T11.out.row (by simp) (((Texts.nil _).cons SC.out (by have := HN.out; omega)).cons SB.out (by have := HN.out; omega)) (fun u hu => by have := W2.out u hu; simp at this ⊢; omega))
  go_upto_region 23 with (go_at_call 54; (with_reducible refine CC.out.mono ?_); rintro e w12 ⟨d, rfl, hb⟩; have HB4 := Mem.Aside.mk hb; clear hb)
  obtain ⟨K4, s4, t4, m4, y4⟩ := HB4.out
  have CO2 := Mem.Aside.mk (t4.of (s4.more (fun q hq => List.mem_append_right _ hq)) HS3.out)
  have HF := Mem.Aside.mk t4.chg
  have CAW := Mem.Aside.mk awake8_calls
  have HSUM : Mem.Aside (s.size + t.size ≤ 900) := ⟨by have := HN.out; omega⟩
  clear s4 t4 m4 y4 HB4 CC
  go_wp2_with (first
    | (go_at_call 56; (with_reducible refine CO2.out.mono ?_); rintro e w13 ⟨rfl, hc13⟩; have HC13 := Mem.Aside.mk (HF.out.then hc13 (by simp)); clear hc13)
    | (go_at_call 57; (with_reducible refine (CAW.out _).mono ?_); rintro e w14 ⟨rfl, hc14⟩; have HC14 := Mem.Aside.mk (HC13.out.then hc14 (by simp)); clear hc14))
  all_goals (try (exfalso; have h0 := HSUM.out; omega))
  go_ret
  exact ⟨rfl, HC14.out⟩
end Go.Proofs.Ytgimcpnelogadaa.Tx
