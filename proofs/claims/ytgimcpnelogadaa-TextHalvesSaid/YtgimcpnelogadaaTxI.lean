/- Chapter 8: TextHalves, walked. -/
import Derived.Test.YtgimcpnelogadaaTxH
namespace Go.Proofs.Ytgimcpnelogadaa.Tx
open Go.RowKit Go.Proofs.Ytgimcpnelogadaa.Mem Go.Proofs.Ytgimcpnelogadaa.Sto Go.Proofs.Ytgimcpnelogadaa.Wd Go.Proofs.Ytgimcpnelogadaa.Hp Go.Proofs.Ytgimcpnelogadaa.Va
set_option linter.unusedVariables false
set_option linter.unusedSimpArgs false
theorem cmp_cases : ∀ x y : List UInt8, Lib.compareBytes x y = -1 ∨ Lib.compareBytes x y = 0 ∨ Lib.compareBytes x y = 1
  | [], [] => .inr (.inl rfl)
  | [], _ :: _ => .inl rfl
  | _ :: _, [] => .inr (.inr rfl)
  | a :: x, b :: y => by
    unfold Lib.compareBytes
    by_cases h1 : a < b
    · rw [if_pos h1]; exact .inl rfl
    · by_cases h2 : b < a
      · rw [if_neg h1, if_pos h2]; exact .inr (.inr rfl)
      · rw [if_neg h1, if_neg h2]; exact cmp_cases x y
set_option maxHeartbeats 16000000 in
set_option maxRecDepth 100000 in
theorem halves_walk {w : World} (s t : ByteArray) :
    Calls Try.prog 19 #[.string s, .string t] w fun e w' => e = .returned (.bool true) ∧ Chg [] w w' := by
  by_cases n1 : 1000 < s.size
  · have n1' : (1000 : Int) < (s.size : Int) := by omega
    go_enter Try.func19, Try.ntmps19
    go_wp2
    go_ret
    exact ⟨rfl, Chg.refl _ _⟩
  have n1' : decide ((1000 : Int) < (s.size : Int)) = false := decide_eq_false (by omega)
  by_cases n2 : 1000 < t.size
  · have n2' : (1000 : Int) < (t.size : Int) := by omega
    go_enter Try.func19, Try.ntmps19
    go_wp2
    go_ret
    exact ⟨rfl, Chg.refl _ _⟩
  have n2' : decide ((1000 : Int) < (t.size : Int)) = false := decide_eq_false (by omega)
  have HN : Mem.Aside (s.size ≤ 1000 ∧ t.size ≤ 1000) := ⟨by omega⟩
  obtain ⟨N, hN⟩ : ∃ N, N = s.size + t.size := ⟨_, rfl⟩
  have hwsz : IntKind.i64.wrap ((s.size : Int) + (t.size : Int)) = (N : Int) := by rw [IntWalk.i64_in _ (by omega)]; omega
  have hsum : (s.size : Int) + (t.size : Int) = (N : Int) := by omega
  have hwN : IntKind.i64.wrap (N : Int) = (N : Int) := IntWalk.i64_in _ (by omega)
  have hwN2 : wrap64 (N : Int) = (N : Int) := IntWalk.wrap64_in _ (by omega)
  have HNS := Mem.Aside.mk hN
  have NS := need_text s
  have NT := need_text t
  have NST := need_text (s ++ t)
  simp only [size_app] at NST
  have HNN := Mem.Aside.mk (And.intro NS (And.intro NT NST))
  have CN := Mem.Aside.mk (new_k 5000 (by decide) w)
  rw [show ((5000 : Nat) : Int) = 5000 from rfl] at CN
  have HM : Mem.Aside (needL ([] : List (Nat × Cel)) = 0) := ⟨rfl⟩
  clear n1 n2 NS NT NST hN
  go_enter Try.func19, Try.ntmps19
  go_upto_region 6 with (go_at_call 38; (with_reducible refine CN.out.mono ?_); rintro e w1 ⟨p, G, rfl, h1, hc1, hg1⟩; have H1 : Mem.Aside (Three w p 5000 [] [] (.slice none 0 0) w1) := ⟨⟨⟨G, h1, fun k hk => ⟨hg1 k hk, by simp [Value.ownBlock]⟩⟩, Row.nil _ _ _, (fun g hg => by cases hg), hc1⟩⟩; clear h1 hc1 hg1)
  have CB1 := Mem.Aside.mk (H1.out.vbox (s := s) (cv := .slice none 0 0) (rs := []) (by have := HN.out; omega) (by have := HNN.out; have := HN.out; have := HM.out; omega) (Row.nil _ _ _) (by simp) (Texts.nil _) (by simp [hwC]))
  go_upto_region 7 with (go_at_call 46; (with_reducible refine CB1.out.mono ?_); rintro e w2 ⟨a, rfl, hb⟩; have HB1 := Mem.Aside.mk hb; clear hb)
  obtain ⟨K1, s1, t1, m1, y1⟩ := HB1.out
  obtain ⟨L1, hL1⟩ : ∃ L1, L1 = [] ++ K1 := ⟨_, rfl⟩
  rw [← hL1] at t1 m1
  have SA : Mem.Aside (Stands L1 a (.text s)) := ⟨s1.more (by rw [hL1]; exact (fun q hq => List.mem_append_right _ hq))⟩
  have W1 : Mem.Aside (∀ z ∈ hwC L1, z ∈ [a]) := ⟨by rw [hL1]; intro z hz; have := y1 z (by simpa using hz); simp [this]⟩
  have T1 := Mem.Aside.mk t1
  replace HM := Mem.Aside.mk (And.intro m1 HM.out)
  clear s1 t1 m1 y1 HB1 CB1 hL1 H1
  have CB2 := Mem.Aside.mk ((T1.out.same ((Chg.refl [] w2).alloc (.cells #[.int .u64 (a : Int)] 22))).vbox (s := t) (rs := [a]) (by have := HN.out; omega) (by have := HNN.out; have := HN.out; have := HM.out; omega) (row1 w2 a) (by simp) ((Texts.nil _).cons SA.out (by have := HN.out; omega)) W1.out)
  go_upto_region 8 with (go_at_call 46; (with_reducible refine CB2.out.mono ?_); rintro e w3 ⟨b, rfl, hb⟩; have HB2 := Mem.Aside.mk hb; clear hb)
  obtain ⟨K2, s2, t2, m2, y2⟩ := HB2.out
  obtain ⟨L2, hL2⟩ : ∃ L2, L2 = L1 ++ K2 := ⟨_, rfl⟩
  rw [← hL2] at t2 m2
  have SB : Mem.Aside (Stands L2 b (.text t)) := ⟨s2.more (by rw [hL2]; exact (fun q hq => List.mem_append_right _ hq))⟩
  replace SA : Mem.Aside (Stands L2 a (.text s)) := ⟨SA.out.more (by rw [hL2]; exact (fun q hq => List.mem_append_left _ hq))⟩
  have W2 : Mem.Aside (∀ z ∈ hwC L2, z ∈ [a, b]) := ⟨by
    rw [hL2, hwC_append]
    intro z hz
    rcases List.mem_append.1 hz with hz | hz
    · have := W1.out z hz; simp at this ⊢; exact .inl this
    · have := y2 z hz; simp [this]⟩
  have T2 := Mem.Aside.mk t2
  replace HM := Mem.Aside.mk (And.intro m2 HM.out)
  clear s2 t2 m2 y2 HB2 CB2 hL2 W1 T1
  have CC := Mem.Aside.mk (T2.out.concat (cv := .slice none 0 0) (rs := []) SA.out SB.out (by have := HN.out; omega) (by have := HN.out; omega) (by have := HNN.out; have := HN.out; have := HM.out; omega) (Row.nil _ _ _) (by simp) (Texts.nil _) W2.out)
  go_upto_region 9 with (go_at_call 54; (with_reducible refine CC.out.mono ?_); rintro e w4 ⟨c, rfl, hb⟩; have HB3 := Mem.Aside.mk hb; clear hb)
  obtain ⟨K3, s3, t3, m3, y3⟩ := HB3.out
  obtain ⟨L3, hL3⟩ : ∃ L3, L3 = L2 ++ K3 := ⟨_, rfl⟩
  rw [← hL3] at t3 m3
  have SC : Mem.Aside (Stands L3 c (.text (s ++ t))) := ⟨s3.more (by rw [hL3]; exact (fun q hq => List.mem_append_right _ hq))⟩
  replace SB : Mem.Aside (Stands L3 b (.text t)) := ⟨SB.out.more (by rw [hL3]; exact (fun q hq => List.mem_append_left _ hq))⟩
  replace SA : Mem.Aside (Stands L3 a (.text s)) := ⟨SA.out.more (by rw [hL3]; exact (fun q hq => List.mem_append_left _ hq))⟩
  have W3 : Mem.Aside (∀ z ∈ hwC L3, z ∈ [c, a, b]) := ⟨by
    rw [hL3, hwC_append]
    intro z hz
    rcases List.mem_append.1 hz with hz | hz
    · have := W2.out z hz; simp at this ⊢; omega
    · have := y3 z hz; simp [this]⟩
  replace HM := Mem.Aside.mk (And.intro m3 HM.out)
  have CL := Mem.Aside.mk (t3.len SC.out (by rw [size_app]; have := HN.out; omega))
  rw [size_app, ← HNS.out] at CL
  have T3 := Mem.Aside.mk t3
  clear s3 t3 m3 y3 HB3 CC hL3 W2 T2
  go_upto_region 12 with (go_at_call 58; (with_reducible refine CL.out.mono ?_); rintro e w5 ⟨rfl, hc5⟩; have T5 := Mem.Aside.mk (T3.out.same hc5); clear hc5)
  have CS1 := Mem.Aside.mk ((T5.out.same ((Chg.refl [] w5).alloc (.cells #[.int .u64 (a : Int), .int .u64 (b : Int)] 22))).sub_ (i := 0) (j := s.size) (rs := [a, b]) SC.out (by rw [size_app]; have := HN.out; omega) (Nat.zero_le _) (by rw [size_app]; omega) (by rw [extract_left]; have := HNN.out; have := HN.out; have := HM.out; omega) (row2 w5 a b) (by simp) (((Texts.nil _).cons SB.out (by have := HN.out; omega)).cons SA.out (by have := HN.out; omega)) (fun u hu => W3.out u hu))
  rw [extract_left, show ((0 : Nat) : Int) = 0 from rfl] at CS1
  go_upto_region 13 with (go_at_call 59; (with_reducible refine CS1.out.mono ?_); rintro e w6 ⟨x, rfl, hb⟩; have HB4 := Mem.Aside.mk hb; clear hb)
  obtain ⟨K4, s4, t4, m4, y4⟩ := HB4.out
  obtain ⟨L4, hL4⟩ : ∃ L4, L4 = L3 ++ K4 := ⟨_, rfl⟩
  rw [← hL4] at t4 m4
  have SX : Mem.Aside (Stands L4 x (.text s)) := ⟨s4.more (by rw [hL4]; exact (fun q hq => List.mem_append_right _ hq))⟩
  replace SC : Mem.Aside (Stands L4 c (.text (s ++ t))) := ⟨SC.out.more (by rw [hL4]; exact (fun q hq => List.mem_append_left _ hq))⟩
  replace SB : Mem.Aside (Stands L4 b (.text t)) := ⟨SB.out.more (by rw [hL4]; exact (fun q hq => List.mem_append_left _ hq))⟩
  replace SA : Mem.Aside (Stands L4 a (.text s)) := ⟨SA.out.more (by rw [hL4]; exact (fun q hq => List.mem_append_left _ hq))⟩
  have W4 : Mem.Aside (∀ z ∈ hwC L4, z ∈ [c, a, b, x]) := ⟨by
    rw [hL4, hwC_append]
    intro z hz
    rcases List.mem_append.1 hz with hz | hz
    · have := W3.out z hz; simp at this ⊢; omega
    · have := y4 z hz; simp [this]⟩
  replace HM := Mem.Aside.mk (And.intro m4 HM.out)
  have T6 := Mem.Aside.mk t4
  clear s4 t4 m4 y4 HB4 CS1 hL4 W3 T3 T5
  have CS2 := Mem.Aside.mk ((T6.out.same ((Chg.refl [] w6).alloc (.cells #[.int .u64 (a : Int), .int .u64 (b : Int), .int .u64 (x : Int)] 22))).sub_ (i := s.size) (j := N) (rs := [a, b, x]) SC.out (by rw [size_app]; have := HN.out; omega) (by rw [HNS.out]; omega) (by rw [size_app, HNS.out]; omega) (by rw [HNS.out, extract_right]; have := HNN.out; have := HN.out; have := HM.out; omega) (row3 w6 a b x) (by simp) ((((Texts.nil _).cons SX.out (by have := HN.out; omega)).cons SB.out (by have := HN.out; omega)).cons SA.out (by have := HN.out; omega)) (fun u hu => W4.out u hu))
  rw [show (s ++ t).extract s.size N = t by rw [HNS.out, extract_right]] at CS2
  go_upto_region 16 with (go_at_call 59; (with_reducible refine CS2.out.mono ?_); rintro e w7 ⟨y, rfl, hb⟩; have HB5 := Mem.Aside.mk hb; clear hb)
  obtain ⟨K5, s5, t5, m5, y5⟩ := HB5.out
  have h8 : s.size ≤ 8388608 ∧ t.size ≤ 8388608 := by have := HN.out; omega
  have CO1 := Mem.Aside.mk (t5.of (SX.out.more (fun q hq => List.mem_append_left _ hq)) h8.1)
  have CO2 := Mem.Aside.mk (fun (W : World) (hc : Chg [] w7 W) => (t5.same hc).of (s5.more (fun q hq => List.mem_append_right _ hq)) h8.2)
  have CC1 := Mem.Aside.mk (fun (W : World) (hc : Chg [] w7 W) => (t5.same hc).compare (SX.out.more (fun q hq => List.mem_append_left _ hq)) (SA.out.more (fun q hq => List.mem_append_left _ hq)) h8.1 h8.1)
  have CC2 := Mem.Aside.mk (fun (W : World) (hc : Chg [] w7 W) => (t5.same hc).compare (SA.out.more (fun q hq => List.mem_append_left _ hq)) (SB.out.more (fun q hq => List.mem_append_left _ hq)) h8.1 h8.2)
  have CC3 := Mem.Aside.mk (fun (W : World) (hc : Chg [] w7 W) => (t5.same hc).compare (SB.out.more (fun q hq => List.mem_append_left _ hq)) (SA.out.more (fun q hq => List.mem_append_left _ hq)) h8.2 h8.1)
  rw [cmp_self] at CC1
  rw [cmp_anti t.data.toList s.data.toList] at CC3
  have hcc := cmp_cases s.data.toList t.data.toList
  have hz := cmp_zero s.data.toList t.data.toList
  have hl := cmp_less s.data.toList t.data.toList
  obtain ⟨cm, hcm⟩ : ∃ cm, cm = Lib.compareBytes s.data.toList t.data.toList := ⟨_, rfl⟩
  rw [← hcm] at CC2 CC3 hcc hz hl
  have HF := Mem.Aside.mk t5.chg
  have CAW := Mem.Aside.mk awake8_calls
  have hbl : Op.bytesLess s.toList t.toList = decide (cm < 0) := by rw [ByteArray.toList_eq, ByteArray.toList_eq, hl]
  have hbe : (s.toList == t.toList) = decide (cm = 0) := by
    rw [ByteArray.toList_eq, ByteArray.toList_eq]
    by_cases c0 : cm = 0
    · rw [decide_eq_true c0]; simpa using hz.1 c0
    · rw [decide_eq_false c0]; simpa using fun e => c0 (hz.2 e)
  clear s5 t5 m5 y5 HB5 CS2 h8 hcm hz hl
  go_upto_region 18 with (go_at_call 56; first
    | ((with_reducible refine CO1.out.mono ?_); rintro e w8 ⟨rfl, hc8⟩; have HC8 := Mem.Aside.mk hc8; clear hc8)
    | ((with_reducible refine (CO2.out _ HC8.out).mono ?_); rintro e w9 ⟨rfl, hc9⟩; have HC9 := Mem.Aside.mk (HC8.out.trans hc9); clear hc9))
  go_upto_region 19 with (go_at_call 55; (with_reducible refine (CC1.out _ HC9.out).mono ?_); rintro e w10 ⟨rfl, hc10⟩; have HC10 := Mem.Aside.mk (HC9.out.trans hc10); clear hc10)
  go_upto_region 20 with (go_at_call 55; (with_reducible refine (CC2.out _ HC10.out).mono ?_); rintro e w11 ⟨rfl, hc11⟩; have HC11 := Mem.Aside.mk (HC10.out.trans hc11); clear hc11)
  go_upto_region 21 with (go_at_call 55; (with_reducible refine (CC3.out _ HC11.out).mono ?_); rintro e w12 ⟨rfl, hc12⟩; have HC12 := Mem.Aside.mk (HF.out.then (HC11.out.trans hc12) (by simp)); clear hc12)
  clear CO1 CO2 CC1 CC2 CC3
  rcases hcc with rfl | rfl | rfl
  all_goals
    simp only [Int.neg_neg, Int.reduceNeg, Int.reduceLT, Int.reduceEq, decide_true, decide_false, Int.neg_zero] at hbl hbe ⊢
    go_wp2_with (go_at_call 57; (with_reducible refine (CAW.out _).mono ?_); rintro e w14 ⟨rfl, hc14⟩; have HC14 := Mem.Aside.mk (HC12.out.then hc14 (by simp)); clear hc14)
    go_ret
    exact ⟨rfl, HC14.out⟩
end Go.Proofs.Ytgimcpnelogadaa.Tx
