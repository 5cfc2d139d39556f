/- Chapter 5, the store, by hand: Save. -/
import Derived.Test.YtgimcpnelogadaaStH
namespace Go.Proofs.Ytgimcpnelogadaa.Sto
open Go.RowKit Go.Proofs.Ytgimcpnelogadaa.Mem
set_option linter.unusedVariables false
set_option linter.unusedSimpArgs false

/-- A number's lowest bytes. -/
def leB (x : Nat) (n : Nat) : List UInt8 := (List.range n).map fun j => UInt8.ofNat (x / 256 ^ j)
theorem leB_length (x n : Nat) : (leB x n).length = n := by simp [leB]
theorem leB_succ (x n : Nat) : leB x (n + 1) = leB x n ++ [UInt8.ofNat (x / 256 ^ n)] := by simp [leB, List.range_succ]
theorem splice_snoc {α : Type} {r l : List α} {a : Nat} {b : α} (h : a + l.length < r.length) : splice r a (l ++ [b]) = (splice r a l).set (a + l.length) b := by
  apply List.ext_getElem?
  intro i
  rw [splice_getElem? _ _ _ (by simp; omega), List.getElem?_set, length_splice _ _ _ (by omega), splice_getElem? _ _ _ (by omega)]
  simp only [List.length_append, List.length_cons, List.length_nil]
  by_cases c : i < a
  · simp [c]; omega
  · by_cases d : i < a + l.length
    · rw [if_neg c, if_pos (by omega), if_neg (by omega), if_neg c, if_pos d, List.getElem?_append_left (by omega)]
    · by_cases e : i = a + l.length
      · subst e
        rw [if_neg c, if_pos (by omega), if_pos rfl, if_pos h, List.getElem?_append_right (by omega)]
        simp
      · rw [if_neg c, if_neg (by omega), if_neg (by omega), if_neg c, if_neg d]

theorem save_none {w : World} {p : Nat} {s : St} {F : List Nat} (h : Sto w p s F) (k off width x : Int) (hk : I64 k) (hn : atOf s.all k = none) :
    Calls Try.prog 23 #[.pointer (some ⟨p, 0, none⟩), .int .i64 k, .int .i64 off, .int .i64 width, .int .u64 x] w fun e w' => e = .returned (.int .i64 30) ∧ w = w' := by
  have C := Aside.mk (part_none h k off width hk hn)
  clear h hn hk
  go_enter Try.func23, Try.ntmps23
  go_wp2_with (go_at_call 66; (with_reducible refine C.out.mono ?_); rintro e w' ⟨rfl, rfl⟩)
  refine wp_loop_rounds 1 ?_
  rw [rounds_succ]; go_wp2
  go_ret
  exact ⟨rfl, rfl⟩

theorem save_bad {w : World} {p : Nat} {s : St} {F : List Nat} (h : Sto w p s F) (ho : Ok s) (hl : s.all.length ≤ 1000000000) (hr : s.raw.length ≤ 1000000000000) {i : Nat} (hi : i < s.all.length) (hk : I64 (s.all[i].id : Int)) (off width x : Int) (hb : reachE s.all[i].len off width ≠ 0) :
    Calls Try.prog 23 #[.pointer (some ⟨p, 0, none⟩), .int .i64 (s.all[i].id : Int), .int .i64 off, .int .i64 width, .int .u64 x] w fun e w' => e = .returned (.int .i64 (reachE s.all[i].len off width)) ∧ Chg [] w w' := by
  have C := Aside.mk (part_bad h ho hl hr hi hk off width hb)
  clear h ho hl hr hk hb
  go_enter Try.func23, Try.ntmps23
  go_wp2_with (go_at_call 66; (with_reducible refine C.out.mono ?_); rintro e w' ⟨rfl, hc⟩)
  refine wp_loop_rounds 1 ?_
  rw [rounds_succ]; go_wp2
  go_ret
  exact ⟨rfl, hc⟩

/-- The state behind a store of bytes. -/
def St.write (s : St) (a : Nat) (bs : List UInt8) : St := { s with raw := splice s.raw a bs }
theorem St.write_nil (s : St) (a : Nat) : s.write a [] = s := by simp [St.write, splice]

/-- One byte is written. -/
theorem StoAt.poke {w : World} {p mb : Nat} {s : St} {allv : Value} {g m cap : Nat} (h : StoAt w p s (.slice (some ⟨g, 0, none⟩) m cap) allv mb) {j : Nat} (hj : j < s.raw.length) (b : UInt8) :
    StoAt (w.setCell ⟨g, j, none⟩ (.int .u8 (b.toNat : Int))) p { s with raw := s.raw.set j b } (.slice (some ⟨g, 0, none⟩) m cap) allv mb := by
  have hp : p ≠ g := fun e => h.p_raw (by rw [e]; rfl)
  have hm : mb ≠ g := fun e => h.mb_raw (by rw [e]; rfl)
  refine ⟨h.cells.far hp _, ?_, h.all.keep (fun k hk => Below.heap_setCell _ _ _ _ (fun e => h.raw_all (g := g) rfl (by rw [hk]; exact congrArg some e))), h.by_.keep (Below.heap_setCell _ _ _ _ hm)⟩
  rcases h.raw.cases with ⟨h1, h2, _⟩ | ⟨g', cap', rest, h1, hb, hn, hc, hlen⟩
  · cases h1
  · cases h1
    show Row _ _ 1 _ (s.raw.set j b).length (u8V (s.raw.set j b))
    rw [List.length_set]
    have e : u8V (s.raw.set j b) = (u8V s.raw).set j (.int .u8 (b.toNat : Int)) := by simp [u8V, List.map_set]
    rw [e]
    refine Row.mk (rest := rest) ?_ (by simp [u8V]) hn hc (by simpa using hlen)
    have := hb.set j (.int .u8 (b.toNat : Int))
    rwa [List.set_append_left _ _ (by simpa [u8V] using hj)] at this

theorem byte_of (x k : Nat) : ((x : Int) / 2 ^ (8 * k) % 256) = ((UInt8.ofNat (x / 256 ^ k)).toNat : Int) := by
  rw [show (256 : Nat) ^ k = 2 ^ (8 * k) by rw [Nat.pow_mul]]
  simp
set_option maxRecDepth 100000 in
theorem save_ok {w : World} {p mb : Nat} {s : St} {rawv allv : Value} (h : StoAt w p s rawv allv mb) (ho : Ok s) (hl : s.all.length ≤ 1000000000) (hr : s.raw.length ≤ 1000000000000) {i : Nat} (hi : i < s.all.length) (hk : I64 (s.all[i].id : Int)) (o wd : Nat)
    (hw : wd = 1 ∨ wd = 2 ∨ wd = 4 ∨ wd = 8) (hfit : o + wd ≤ s.all[i].len) (hm : o % wd = 0) (x : Nat) (hx : x < 18446744073709551616) :
    Calls Try.prog 23 #[.pointer (some ⟨p, 0, none⟩), .int .i64 (s.all[i].id : Int), .int .i64 (o : Int), .int .i64 (wd : Int), .int .u64 (x : Int)] w fun e w' =>
      e = .returned (.int .i64 0) ∧ StoAt w' p (s.write (s.all[i].at_ + o) (leB x wd)) rawv allv mb ∧ Chg (foot p rawv allv mb) w w' := by
  have C := Aside.mk (part_ok h ho hl hr hi hk o wd hw hfit hm)
  have hin := ho.lay.inside _ (List.getElem_mem hi)
  have hup := up_ge s.all[i].len
  obtain ⟨A, hA⟩ : ∃ A, A = s.all[i].at_ + o := ⟨_, rfl⟩
  rw [← hA] at C ⊢
  have hb : A + wd ≤ s.raw.length := by omega
  have H := Aside.mk h
  have HB := Aside.mk hb
  have HX := Aside.mk hx
  have hw8 : wd ≤ 8 := by omega
  clear h ho hl hk hin hup hA hm hw hfit hb hx
  go_enter Try.func23, Try.ntmps23
  go_wp2_with (go_at_call 66; (with_reducible refine C.out.mono ?_); rintro e w1 ⟨g, m, cap, rfl, rfl, hc⟩)
  have H1 := Aside.mk (H.out.chg hc (by simp))
  go_loopw [24] (fun i wr => ∃ k : Nat, k ≤ wd ∧ i = .int .i64 (k : Int) ∧ Aside (StoAt wr p (s.write A (leB x k)) (.slice (some ⟨g, 0, none⟩) m cap) allv mb) ∧ Aside (Chg (foot p (.slice (some ⟨g, 0, none⟩) m cap) allv mb) w wr)) (fun i _ => wd - (intOf i).toNat)
  case atStart => exact ⟨0, Nat.zero_le _, rfl, ⟨by rw [show leB x 0 = [] from rfl, St.write_nil]; exact H1.out⟩, ⟨hc.mono (by simp)⟩⟩
  case round =>
    obtain ⟨k, hk, rfl, HK, HC⟩ := hrel
    by_cases c : k < wd
    · have hlen : (s.write A (leB x k)).raw.length = s.raw.length := length_splice _ _ _ (by rw [leB_length]; have := HB.out; omega)
      have hj : A + k < (s.write A (leB x k)).raw.length := by rw [hlen]; have := HB.out; omega
      obtain ⟨v0, b0⟩ : ∃ v, wr.cell? ⟨g, A + k, none⟩ = some v := ⟨_, (HK.out.byte hj).1⟩
      have b1 := (HK.out.byte hj).2
      have HL := Aside.mk hlen
      have HJ := Aside.mk hj
      clear hlen hj
      go_wp2
      go_roundw
      case rel =>
        refine ⟨k + 1, by omega, by go_num, ⟨?_⟩, ⟨HC.out.setCell (p := ⟨g, A + k, none⟩) (.inl (mem_foot.2 (.inr (.inr (.inl rfl))))) _⟩⟩
        have := HK.out.poke HJ.out (UInt8.ofNat (x / 256 ^ k))
        rw [byte_of]
        have e : s.write A (leB x (k + 1)) = { s.write A (leB x k) with raw := (s.write A (leB x k)).raw.set (A + k) (UInt8.ofNat (x / 256 ^ k)) } := by
          unfold St.write
          rw [leB_succ, splice_snoc (by rw [leB_length]; have := HB.out; omega), leB_length]
        rw [e]
        exact this
      case measure => simp [intOf]; omega
    · go_wp2
      obtain rfl : k = wd := by omega
      go_ret
      exact ⟨rfl, HK.out, HC.out⟩
end Go.Proofs.Ytgimcpnelogadaa.Sto
