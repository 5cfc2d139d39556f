/- Plain Lean: numbers as decimal text: numtext.Int, casketref4.Int. -/
import Derived.Test.YtjdnneomkocghaaDoorSpA
import Derived.Test.YtjdnneomkocghaaDoorPrint6
namespace Go.Proofs.YtjdnneomkocghaaDoor.Sp
open Go.RowKit Go.Proofs.YtjdnneomkocghaaDoorW.PrintWords Go.Proofs.YtjdnneomkocghaaDoor.Given Go.Proofs.YtjdnneomkocghaaDoor.Print
open Go.Lib (decDigits itoa nDigits)

theorem hexB (n : Nat) : bt (⟨#[48, 49, 50, 51, 52, 53, 54, 55, 56, 57, 97, 98, 99, 100, 101, 102]⟩ : ByteArray) (n : Int) = (hexL.getD n 0).toNat := bt_bs hexL n
theorem dig_hex (n : Nat) (h : n < 10) : UInt8.ofNat (hexL.getD n 0).toNat = UInt8.ofNat (48 + n) := by
  have : ∀ i : Fin 10, UInt8.ofNat (hexL.getD i.val 0).toNat = UInt8.ofNat (48 + i.val) := by decide
  exact this ⟨n, h⟩
theorem nDigits_le : ∀ (k n : Nat), n < 10 ^ k → 1 ≤ k → nDigits n ≤ k
  | 0, _, _, h => by omega
  | k + 1, n, h, _ => by
    by_cases h10 : n < 10
    · rw [Lib.nDigits_small h10]; omega
    · rw [Lib.nDigits_big h10]
      have hk : 1 ≤ k := by
        rcases Nat.eq_zero_or_pos k with e | e
        · subst e; simp at h; omega
        · exact e
      have := nDigits_le k (n / 10) (by rw [Nat.pow_succ] at h; omega) hk
      omega
theorem decDigits_len {n : Nat} (h : n < 18446744073709551616) : (decDigits n).length ≤ 20 := by
  rw [Lib.decDigits_length]
  exact nDigits_le 20 n (by omega) (by omega)

theorem size_l0 : ∀ (n : Nat) (t : List UInt8), n < 18446744073709551616 → (decDigits n).length + t.length ≤ 1000 → Ev (fun k => casketref4_size.l0 k (n : Int) (bs t)) (bs (decDigits n ++ t)) := by
  intro n
  induction n using Nat.strongRecOn with
  | _ n ih =>
    intro t hn ht
    refine Ev.step (fun k => by rw [casketref4_size.l0]) ?_
    rw [tmod_nn (by omega), tdiv_nn (by omega)]
    refine Ev.yes (by omega) (Ev.yes (by omega) (Ev.bind0 rfl ?_))
    have e1 : ((n : Int) % 10) = ((n % 10 : Nat) : Int) := by omega
    have e2 : ((n : Int) / 10) = ((n / 10 : Nat) : Int) := by omega
    have e3 : strOfNums [bt (⟨#[48, 49, 50, 51, 52, 53, 54, 55, 56, 57, 97, 98, 99, 100, 101, 102]⟩ : ByteArray) ((n : Int) % 10)] = bs [UInt8.ofNat (48 + n % 10)] := by
      rw [e1, hexB, sn_one, dig_hex _ (by omega)]
    rw [e3, bs_app, e2, wu64 (by omega) (by omega)]
    have hl : (decDigits n).length ≥ 1 := by rw [Lib.decDigits_length]; exact Lib.nDigits_pos n
    refine Ev.yes (by rw [bs_size, bs_size]; simp; omega) ?_
    by_cases h : n < 10
    · refine Ev.yes (by omega) (Ev.ret ?_)
      rw [decDigits, dif_pos h, Nat.mod_eq_of_lt h]
    · refine Ev.no (by omega) ?_
      have hd : decDigits n = decDigits (n / 10) ++ [UInt8.ofNat (48 + n % 10)] := by rw [decDigits, dif_neg h]
      rw [hd, List.append_assoc]
      refine ih (n / 10) (by omega) _ (by omega) ?_
      rw [hd] at ht
      simp at ht ⊢
      omega
theorem size_ev {n : Nat} (hn : n < 18446744073709551616) : Ev (fun k => casketref4_size.f k (n : Int)) (bs (decDigits n)) := by
  have h := size_l0 n [] hn (by have := decDigits_len hn; simp; omega)
  rw [List.append_nil] at h
  exact h
theorem refInt_ev {i : Int} (h0 : -9223372036854775808 ≤ i) (h1 : i ≤ 9223372036854775807) : Ev (fun k => casketref4_Int.f k i) (bs (itoa i)) := by
  unfold casketref4_Int.f itoa
  by_cases h : i < 0
  · rw [if_pos h]
    refine Ev.yes h ?_
    have e : IntKind.u64.wrap ((IntKind.u64.wrap (wrap64 (-(wrap64 (i + 1))))) + 1) = ((i.natAbs : Nat) : Int) := by
      rw [w64 (x := i + 1) (by omega) (by omega), w64 (by omega) (by omega), wu64 (x := -(i + 1)) (by omega) (by omega), wu64 (by omega) (by omega)]
      omega
    rw [e]
    refine Ev.bind (size_ev (by omega)) ?_
    have := decDigits_len (n := i.natAbs) (by omega)
    exact Ev.yes (by rw [bs_size]; omega) (Ev.ret (by rw [show (⟨#[45]⟩ : ByteArray) = bs [45] from rfl, bs_app]; rfl))
  · rw [if_neg h]
    refine Ev.no h ?_
    rw [wu64 (by omega) (by omega)]
    obtain ⟨n, rfl⟩ := Int.eq_ofNat_of_zero_le (show 0 ≤ i by omega)
    exact Ev.bind (size_ev (by omega)) (Ev.ret rfl)
end Go.Proofs.YtjdnneomkocghaaDoor.Sp
