/- Chapter 8: Sub; order. -/
import Derived.Test.YtgimcpnelogadaaTxE
import Derived.Test.YtgimcpnelogadaaTxF
namespace Go.Proofs.Ytgimcpnelogadaa.Tx
open Go.RowKit Go.Proofs.Ytgimcpnelogadaa.Mem Go.Proofs.Ytgimcpnelogadaa.Sto Go.Proofs.Ytgimcpnelogadaa.Wd Go.Proofs.Ytgimcpnelogadaa.Hp Go.Proofs.Ytgimcpnelogadaa.Va
set_option linter.unusedVariables false
set_option linter.unusedSimpArgs false
theorem u8_lt_irrefl (a : UInt8) : ¬ a < a := fun h => absurd h (by simp [UInt8.lt_iff_toNat_lt])
theorem u8_asymm {a b : UInt8} (h : a < b) : ¬ b < a := by
  rw [UInt8.lt_iff_toNat_lt] at h ⊢
  omega
theorem u8_eq {a b : UInt8} (h1 : ¬ a < b) (h2 : ¬ b < a) : a = b := by
  rw [UInt8.lt_iff_toNat_lt] at h1 h2
  exact UInt8.toNat.inj (by omega)
theorem cmp_anti : ∀ x y : List UInt8, Lib.compareBytes x y = - Lib.compareBytes y x
  | [], [] => rfl
  | [], _ :: _ => rfl
  | _ :: _, [] => rfl
  | a :: x, b :: y => by
    unfold Lib.compareBytes
    by_cases h1 : a < b
    · rw [if_pos h1, if_neg (u8_asymm h1), if_pos h1]
    · by_cases h2 : b < a
      · rw [if_neg h1, if_pos h2, if_pos h2]; rfl
      · rw [if_neg h1, if_neg h2, if_neg h2, if_neg h1]
        exact cmp_anti x y
theorem cmp_zero : ∀ x y : List UInt8, Lib.compareBytes x y = 0 ↔ x = y
  | [], [] => by simp [Lib.compareBytes]
  | [], _ :: _ => by simp [Lib.compareBytes]
  | _ :: _, [] => by simp [Lib.compareBytes]
  | a :: x, b :: y => by
    unfold Lib.compareBytes
    by_cases h1 : a < b
    · rw [if_pos h1]
      constructor
      · intro h; cases h
      · intro h; cases h; exact absurd h1 (u8_lt_irrefl _)
    · by_cases h2 : b < a
      · rw [if_neg h1, if_pos h2]
        constructor
        · intro h; cases h
        · intro h; cases h; exact absurd h2 (u8_lt_irrefl _)
      · rw [if_neg h1, if_neg h2, cmp_zero x y]
        have := u8_eq h1 h2
        subst this
        simp
theorem cmp_less : ∀ x y : List UInt8, decide (Lib.compareBytes x y < 0) = Op.bytesLess x y
  | [], [] => by simp [Lib.compareBytes, Op.bytesLess]
  | [], _ :: _ => by simp [Lib.compareBytes, Op.bytesLess]
  | _ :: _, [] => by simp [Lib.compareBytes, Op.bytesLess]
  | a :: x, b :: y => by
    unfold Lib.compareBytes Op.bytesLess
    by_cases h1 : a < b
    · rw [if_pos h1]; simp [h1]
    · by_cases h2 : b < a
      · rw [if_neg h1, if_pos h2]
        have : ¬ a = b := fun e => by subst e; exact u8_lt_irrefl _ h2
        simp [h1, this]
      · rw [if_neg h1, if_neg h2, cmp_less x y]
        have := u8_eq h1 h2
        subst this
        simp [h1]
section
variable {w W W1 : World} {p units : Nat} {L K : List (Nat × Cel)} {G : List Nat} {ws rs : List Nat} {rv cv : Value} {x y : Nat} {s t : ByteArray}
set_option maxRecDepth 100000 in
theorem Three.sub_ (h : Three w p units L ws rv W) (hs : Stands L x (.text s)) (hok : s.size ≤ 4000000) {i j : Nat} (hij : i ≤ j) (hj : j ≤ s.size) (hroom : needL L + (Val.text (s.extract i j)).need ≤ units) (hr : Row W 22 1 cv rs.length (u64V rs)) (hl : rs.length ≤ 1000000) (hT : Texts L rs) (hR : ∀ z ∈ hwC L, z ∈ x :: rs) :
    Calls Try.prog 59 #[.pointer (some ⟨p, 0, none⟩), .int .u64 (x : Int), .int .i64 (i : Int), .int .i64 (j : Int), cv] W fun e w' => ∃ a : Nat, e = .returned (.tuple #[.int .u64 (a : Int), .int .i64 0]) ∧ BoxS w p units L ws rv (s.extract i j) a w' := by
  obtain ⟨G, h1, h2⟩ := h.ex
  obtain ⟨r1, r2⟩ := hT.roots h1
  obtain ⟨lx1, lx2⟩ := hs.lt h1 (show s.size ≤ 8388608 by omega)
  have hes : (s.extract i j).size ≤ 8388608 := by simp; omega
  have CO := Mem.Aside.mk (of_k h1 hs (by omega))
  have CB := Mem.Aside.mk (fun (W2 : World) (hc : Chg [] W W2) => boxed_k (s := s.extract i j) (hs := [x]) (rs := rs) (rv := cv) (hv := .slice (some ⟨W2.heap.size, 0, none⟩) 1 1) ((h1.chg hc (by simp)).chg ((Chg.refl [] W2).alloc (.cells #[.int .u64 (x : Int)] 22)) (by simp)) hes hroom (row1 W2 x)
    (fun g hg hm => by have q1 := h1.lt _ hm; have q2 := hc.size; simp [Value.ownBlock] at hg; omega) ((hr.chg hc (by simp)).alloc _) (by simp; omega) (by intro z hz; simp only [List.cons_append, List.nil_append, List.mem_cons] at hz; rcases hz with rfl | hz; exact lx1; exact r1 z hz) (by intro z hz; simp only [List.cons_append, List.nil_append, List.mem_cons] at hz; rcases hz with rfl | hz; exact lx2; exact r2 z hz) hR)
  have c1 : ¬ (j : Int) < (i : Int) := by omega
  have c2 : ¬ (s.size : Int) < (j : Int) := by omega
  have HH := Mem.Aside.mk (And.intro h (And.intro h1 h2))
  clear h h1 h2 hs hok hroom hr hl hT hR lx1 lx2 hes r1 r2
  go_enter Try.func59, Try.ntmps59
  go_wp2_with (first
    | (go_at_call 56; (with_reducible refine CO.out.mono ?_); rintro e w1 ⟨rfl, hc1⟩; have HC1 := Mem.Aside.mk hc1; clear hc1)
    | (go_at_call 108; (with_reducible refine (CB.out _ HC1.out).mono ?_); rintro e w2 ⟨a, K, G', rfl, hc2, hg, hs, hk, hn, hy⟩; have HX := Mem.Aside.mk (And.intro hc2 (And.intro hg (And.intro hs (And.intro hk (And.intro hn hy))))); clear hc2 hg hs hk hn hy))
  go_ret2
  obtain ⟨g1, g2, g3, g4, g5, g6⟩ := HX.out
  have q1 := HC1.out.size
  exact ⟨a, rfl, HH.out.1.boxS HH.out.2.1 HH.out.2.2 (((HC1.out.alloc _).mono (by simp)).then g1 (fun v hv => by
    simp [Value.ownBlock] at hv
    rcases hv with rfl | hv
    · exact .inr q1
    · exact .inl hv)) (fun k hk => (g2 k hk).imp id (fun e => Nat.le_trans (HC1.out.alloc _).size e)) g3 g4 g5 g6⟩
/-- Box itself. -/
theorem Three.vbox (h : Three w p units L ws rv W) (hok : s.size ≤ 8388608) (hroom : needL L + (Val.text s).need ≤ units) (hr : Row W 22 1 cv rs.length (u64V rs)) (hl : rs.length ≤ 1000000) (hT : Texts L rs) (hR : ∀ z ∈ hwC L, z ∈ rs) :
    Calls Try.prog 46 #[.pointer (some ⟨p, 0, none⟩), .agg #[.int .i64 4, .int .i64 0, .int .u64 0, .string s, .int .u64 0], cv] W fun e w' => ∃ a : Nat, e = .returned (.tuple #[.int .u64 (a : Int), .int .i64 0]) ∧ BoxS w p units L ws rv s a w' := by
  obtain ⟨G, h1, h2⟩ := h.ex
  obtain ⟨r1, r2⟩ := hT.roots h1
  refine (box_ok h1 (.text s) hok hr (by omega) r1 r2 hR hroom).mono ?_
  rintro e w' ⟨a, K, G2, he, hc2, hg2, hs, hk, hn, hy, _⟩
  exact ⟨a, he, h.boxS h1 h2 hc2 hg2 hs hk hn hy⟩
end
theorem ext_list (s : ByteArray) (i j : Nat) : (s.extract i j).data.toList = (s.data.toList.drop i).take (j - i) := by
  rw [ByteArray.data_extract, Array.toList_extract, List.extract_eq_take_drop]
theorem app_list (s t : ByteArray) : (s ++ t).data.toList = s.data.toList ++ t.data.toList := by rw [ByteArray.data_append, Array.toList_append]
theorem bytes_eq {a b : ByteArray} (h : a.data.toList = b.data.toList) : a = b := ByteArray.ext (Array.toList_inj.1 h)
theorem extract_left (s t : ByteArray) : (s ++ t).extract 0 s.size = s := bytes_eq (by
  rw [ext_list, app_list, List.drop_zero, Nat.sub_zero]
  exact List.take_left' rfl)
theorem extract_right (s t : ByteArray) : (s ++ t).extract s.size (s.size + t.size) = t := bytes_eq (by
  rw [ext_list, app_list, List.drop_left' (show s.data.toList.length = s.size from rfl), Nat.add_sub_cancel_left]
  exact List.take_of_length_le (Nat.le_refl _))
end Go.Proofs.Ytgimcpnelogadaa.Tx
