/- Plain Lean: small words for what the print writes: rounds, bytes, wraps. -/
import Derived.Test.YtjdnneomkocghaaDoorWWords
import Derived.Laws.Strings
import Derived.Laws.BitsLemmas
import Derived.Lib.ItoaNum
import Derived.Lib.ParseIntB
import Derived.Lib.AtoiAll
import Derived.Lib.TrailingZeros
namespace Go.Proofs.YtjdnneomkocghaaDoor.Sp
open Go.RowKit Go.Proofs.YtjdnneomkocghaaDoorW.PrintWords

theorem Ev.t {α : Type} {g a : Nat → Option α} {c : Nat → Prop} [∀ k, Decidable (c k)] {b : Nat → Option α} {r : α} (h : ∀ k, c k) (he : Ev a r) (hg : ∀ k, g k = if c k then a k else b k) : Ev g r :=
  Ev.congr (fun k => by rw [hg k, if_pos (h k)]) he
theorem Ev.yes {α : Type} {a b : Nat → Option α} {c : Prop} [Decidable c] {r : α} (h : c) (he : Ev a r) : Ev (fun k => if c then a k else b k) r :=
  Ev.congr (fun k => by rw [if_pos h]) he
theorem Ev.no {α : Type} {a b : Nat → Option α} {c : Prop} [Decidable c] {r : α} (h : ¬ c) (he : Ev b r) : Ev (fun k => if c then a k else b k) r :=
  Ev.congr (fun k => by rw [if_neg h]) he
theorem Ev.ret {α : Type} {r r' : α} (h : r = r') : Ev (fun _ => some r) r' := h ▸ Ev.now r
/-- A call that answers at once. -/
theorem Ev.bind0 {α β : Type} {x : Option α} {f : Nat → α → Option β} {a : α} {r : β} (h : x = some a) (k : Ev (fun n => f n a) r) : Ev (fun n => x.bind (f n)) r := by
  subst h; exact k

theorem w64 {x : Int} (h0 : -9223372036854775808 ≤ x) (h1 : x ≤ 9223372036854775807) : wrap64 x = x := by unfold wrap64; omega
theorem wu64 {x : Int} (h0 : 0 ≤ x) (h1 : x ≤ 18446744073709551615) : IntKind.u64.wrap x = x := by
  simp [IntKind.wrap, IntKind.signed, IntKind.bits]; omega
theorem wu64_eq (x : Int) : IntKind.u64.wrap x = x % 18446744073709551616 := by simp [IntKind.wrap, IntKind.signed, IntKind.bits]

theorem tdiv_nn {a b : Int} (h : 0 ≤ a) : Int.tdiv a b = a / b := Int.tdiv_eq_ediv_of_nonneg h
theorem tmod_nn {a b : Int} (h : 0 ≤ a) : Int.tmod a b = a % b := Int.tmod_eq_emod_of_nonneg h
/-- A string of bytes. -/
abbrev bs (l : List UInt8) : ByteArray := ⟨l.toArray⟩
theorem bs_of (s : ByteArray) : s = bs s.data.toList := rfl
theorem bs_size (l : List UInt8) : (bs l).size = l.length := by simp [ByteArray.size]
theorem bs_toList (l : List UInt8) : (bs l).toList = l := by rw [ByteArray.toList_eq]
theorem bs_app (a b : List UInt8) : bs a ++ bs b = bs (a ++ b) := by
  apply ByteArray.ext; simp
theorem bs_ext (l : List UInt8) (i j : Nat) : (bs l).extract i j = bs ((l.take j).drop i) := by
  apply ByteArray.ext
  rw [ByteArray.data_extract]
  simp [List.drop_take]
theorem bs_from (l : List UInt8) (i : Nat) : (bs l).extract i (bs l).size = bs (l.drop i) := by
  rw [bs_ext, bs_size, List.take_length]
theorem bt_bs (l : List UInt8) (i : Nat) : bt (bs l) i = ((l.getD i 0).toNat : Int) := by
  unfold bt
  simp only [Int.toNat_natCast, bs_size]
  by_cases h : i < l.length
  · rw [dif_pos h]
    have : (bs l)[i]'(by rw [bs_size]; exact h) = l[i] := by
      show l.toArray[i]'_ = _
      simp
    rw [this, List.getD_eq_getElem?_getD, List.getElem?_eq_getElem h]; rfl
  · rw [dif_neg h, List.getD_eq_getElem?_getD, List.getElem?_eq_none (by omega)]; rfl
theorem bt0 (c : UInt8) (l : List UInt8) : bt (bs (c :: l)) 0 = (c.toNat : Int) := bt_bs (c :: l) 0
theorem bt1 (c d : UInt8) (l : List UInt8) : bt (bs (c :: d :: l)) 1 = (d.toNat : Int) := bt_bs (c :: d :: l) 1
theorem u8_eq {c : UInt8} {n : Nat} (h : (c.toNat : Int) = n) (hn : n < 256) : c = UInt8.ofNat n := by
  apply UInt8.toNat_inj.1
  simp
  omega
theorem drop_cons {l : List UInt8} {i : Nat} {c : UInt8} {r : List UInt8} (h : l.drop i = c :: r) : l.getD i 0 = c ∧ i < l.length ∧ l.drop (i + 1) = r := by
  have hi : i < l.length := by
    rcases Nat.lt_or_ge i l.length with h1 | h1
    · exact h1
    · rw [List.drop_eq_nil_of_le h1] at h; cases h
  rw [List.drop_eq_getElem_cons hi] at h
  obtain ⟨h1, h2⟩ := List.cons.inj h
  exact ⟨by rw [List.getD_eq_getElem?_getD, List.getElem?_eq_getElem hi, h1]; rfl, hi, h2⟩
theorem drop_nil {l : List UInt8} {i : Nat} (h : l.drop i = []) (hi : i ≤ l.length) : i = l.length := by
  have := congrArg List.length h
  rw [List.length_drop] at this
  simp at this
  omega
theorem sn_one (n : Nat) : strOfNums [(n : Int)] = bs [UInt8.ofNat n] := by simp [strOfNums]
end Go.Proofs.YtjdnneomkocghaaDoor.Sp
