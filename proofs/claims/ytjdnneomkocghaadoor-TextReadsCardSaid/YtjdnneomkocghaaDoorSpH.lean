/- Plain Lean: casketref4.ParseFloat answers the same word. -/
import Derived.Test.YtjdnneomkocghaaDoorSpG
import Derived.Test.YtjdnneomkocghaaDoorPrint10
import Derived.Test.YtjdnneomkocghaaDoorPrint12
namespace Go.Proofs.YtjdnneomkocghaaDoor.Sp
open Go.RowKit Go.Proofs.YtjdnneomkocghaaDoorW.PrintWords Go.Proofs.YtjdnneomkocghaaDoorW.PrintMore Go.Proofs.YtjdnneomkocghaaDoor.Given Go.Proofs.YtjdnneomkocghaaDoor.Print
set_option linter.unusedVariables false
set_option linter.unusedSimpArgs false

def hexI (c : UInt8) : Int := match hexV c with
  | some v => (v : Int)
  | none => -1
theorem hexB' (n : Nat) : bt (⟨#[48, 49, 50, 51, 52, 53, 54, 55, 56, 57, 97, 98, 99, 100, 101, 102]⟩ : ByteArray) (n : Int) = (hexL.getD n 0).toNat := bt_bs hexL n
theorem hex_l0 (c : UInt8) : ∀ (d j : Nat), j + d = 16 → (∀ j' : Nat, j' < j → hexL.getD j' 0 ≠ c) → Ev (fun k => casketref4_hex.l0 k (c.toNat : Int) (j : Int)) (hexI c)
  | 0, j, h, hn => by
    obtain rfl : j = 16 := by omega
    refine Ev.step (fun k => by rw [casketref4_hex.l0]) ?_
    refine Ev.no (by omega) (Ev.ret ?_)
    unfold hexI
    rw [hex_none hn]
  | d + 1, j, h, hn => by
    refine Ev.step (fun k => by rw [casketref4_hex.l0]) ?_
    refine Ev.yes (by omega) (Ev.yes (by omega) ?_)
    rw [hexB']
    by_cases he : hexL.getD j 0 = c
    · refine Ev.yes (by rw [he]) (Ev.ret ?_)
      unfold hexI
      rw [hex_some (by omega) he]
    · refine Ev.no (fun e => he (UInt8.toNat_inj.1 (by omega))) ?_
      rw [w64 (by omega) (by omega)]
      exact hex_l0 c d (j + 1) (by omega) (no_more hn he)
theorem hex_ev (c : UInt8) : Ev (fun k => casketref4_hex.f k (c.toNat : Int)) (hexI c) := hex_l0 c 16 0 rfl (fun j' h => absurd h (by omega))
theorem nibble_f (l : List Nat) (v : Nat) (hv : v < 16) (hl : l.length ≤ 1000000) : casketref4_nibble.f (ints l) (v : Int) = some (ints (l ++ nib v)) := by
  unfold casketref4_nibble.f
  simp only [Option.bind_some, ints_len, List.length_cons, List.length_nil]
  rw [if_pos (by omega), ints_app]
  congr 2
  rw [tdiv_nn (by omega), tdiv_nn (by omega), tdiv_nn (by omega), w64 (x := (v : Int) / 8) (by omega) (by omega), w64 (x := (v : Int) / 4) (by omega) (by omega), w64 (x := (v : Int) / 2) (by omega) (by omega), tmod_nn (by omega), tmod_nn (by omega), tmod_nn (by omega)]
  simp [ints, nib]
def rowOf (ds : List Nat) : List Int := ints (ds.flatMap nib)
theorem rowOf_snoc (ds : List Nat) (v : Nat) : rowOf (ds ++ [v]) = ints (ds.flatMap nib ++ nib v) := by simp [rowOf]
theorem rp_exact (neg : Bool) (ds : List Nat) (e : Int) (hd : ∀ d ∈ ds, d < 16) (hl : ds.length ≤ 200) (he : -700000 ≤ e ∧ e ≤ 700000) :
    Ev (fun k => (casketref4_exact.f k (signN neg : Int) (rowOf ds) e).bind fun b => some (b.1, b.2)) (resR (signN neg) (exactS (val 16 0 ds) e)) := by
  have h := refExact_ev (signN neg) (by cases neg <;> simp [signN]) (ds.flatMap nib) e (nibs_lt hd) (by rw [nibs_len]; omega) (by omega)
  rw [val_nibs ds 0 hd] at h
  exact Ev.bind h (Ev.ret rfl)
theorem rp_l2 (m : List UInt8) (hm : m.length ≤ 64) (neg : Bool) (ds : List Nat) (b : Nat) (minus : Bool) (hd : ∀ d ∈ ds, d < 16) (hl : ds.length ≤ 200) (hb : b ≤ 200) :
    ∀ (r : List UInt8) (i v q : Nat), m.drop i = r → i ≤ m.length → v < 10 ^ q → q + r.length ≤ 5 →
    Ev (fun k => casketref4_ParseFloat.l2 k (bs m) (signN neg : Int) (i : Int) (rowOf ds) (b : Int) minus (v : Int))
      (if r.all isDig = true then resR (signN neg) (exactS (val 16 0 ds) ((if minus = true then -(decVal v r : Int) else (decVal v r : Int)) - 4 * b)) else (0, 20))
  | [], i, v, q, h, hi, hv, hq => by
    have hv5 : v < 100000 := Nat.lt_of_lt_of_le hv (Nat.pow_le_pow_right (n := 10) (by decide) (show q ≤ 5 by simpa using hq))
    have := drop_nil h hi
    refine Ev.step (fun k => by rw [casketref4_ParseFloat.l2]) ?_
    rw [bs_size]
    refine Ev.no (by omega) ?_
    rw [if_pos (show ([] : List UInt8).all isDig = true from rfl), show decVal v [] = v from rfl]
    cases minus with
    | true =>
      refine Ev.yes rfl ?_
      rw [w64 (x := -(v : Int)) (by omega) (by omega), w64 (x := 4 * (b : Int)) (by omega) (by omega), w64 (by omega) (by omega), if_pos rfl]
      exact rp_exact neg ds _ hd hl (by omega)
    | false =>
      refine Ev.no (by simp) ?_
      rw [w64 (x := 4 * (b : Int)) (by omega) (by omega), w64 (by omega) (by omega), if_neg (by simp)]
      exact rp_exact neg ds _ hd hl (by omega)
  | c :: r, i, v, q, h, hi, hv, hr => by
    obtain ⟨h1, h2, h3⟩ := drop_cons h
    refine Ev.step (fun k => by rw [casketref4_ParseFloat.l2]) ?_
    rw [bs_size]
    refine Ev.yes (by omega) (Ev.yes (by omega) ?_)
    rw [bt_bs, h1]
    by_cases hc : isDig c = true
    · have hcc : 48 ≤ c.toNat ∧ c.toNat ≤ 57 := by simpa [isDig] using hc
      obtain ⟨hs1, hs2⟩ := dig_sub hc
      refine Ev.no (by omega) (Ev.no (by omega) ?_)
      rw [hs1]
      have hq4 : q ≤ 4 := by simp at hr; omega
      have hv5 : v < 10000 := Nat.lt_of_lt_of_le hv (Nat.pow_le_pow_right (n := 10) (by decide) hq4)
      have hv2 : v * 10 + (c.toNat - 48) < 10 ^ (q + 1) := by rw [Nat.pow_succ]; omega
      have ih := rp_l2 m hm neg ds b minus hd hl hb r (i + 1) (v * 10 + (c.toNat - 48)) (q + 1) h3 (by omega) hv2 (by simp at hr; omega)
      rw [w64 (x := 10 * (v : Int)) (by omega) (by omega), w64 (x := 10 * (v : Int) + _) (by omega) (by omega), w64 (x := (i : Int) + 1) (by omega) (by omega)]
      rw [show 10 * (v : Int) + ((c.toNat - 48 : Nat) : Int) = ((v * 10 + (c.toNat - 48) : Nat) : Int) by omega]
      have e2 : (c :: r).all isDig = r.all isDig := by simp [hc]
      rw [e2]
      exact ih
    · have hc' : isDig c = false := by simpa using hc
      rw [if_neg (by simp [hc'])]
      by_cases h48 : (c.toNat : Int) < 48
      · exact Ev.yes h48 (Ev.ret rfl)
      · refine Ev.no h48 (Ev.yes ?_ (Ev.ret rfl))
        unfold isDig at hc'
        simp at hc'
        omega
theorem getD_of_drop {m : List UInt8} {i : Nat} {l : List UInt8} (h : m.drop i = l) (j : Nat) : m.getD (i + j) 0 = l.getD j 0 := by
  rw [← h, List.getD_eq_getElem?_getD, List.getD_eq_getElem?_getD, List.getElem?_drop]
theorem rp_j8 (m : List UInt8) (hm : m.length ≤ 64) (neg : Bool) (ds : List Nat) (b : Nat) (hd : ∀ d ∈ ds, d < 16) (hl : ds.length ≤ 200) (hb : b ≤ 200) (l : List UInt8) (i : Nat) (h : m.drop i = l) (hi : i ≤ m.length) :
    Ev (fun k => casketref4_ParseFloat.j8 k (bs m) (signN neg : Int) (i : Int) (rowOf ds) (b : Int)) (tailS neg ds b l) := by
  have hlen : l.length = m.length - i := by rw [← h]; simp
  have bad : ∀ i : Int, Ev (fun k => casketref4_ParseFloat.j9 k (bs m) (signN neg : Int) i (rowOf ds) (b : Int) true) (0, 20) := fun i => by
    refine Ev.step (fun k => by rw [casketref4_ParseFloat.j9]) ?_
    exact Ev.yes rfl (Ev.ret rfl)
  have bad2 : ∀ (i : Int) (x : Bool), Ev (fun k => casketref4_ParseFloat.j10 k (bs m) (signN neg : Int) i (rowOf ds) (b : Int) x true) (0, 20) := fun i x => by
    refine Ev.step (fun k => by rw [casketref4_ParseFloat.j10]) ?_
    exact Ev.yes rfl (Ev.ret rfl)
  refine Ev.step (fun k => by rw [casketref4_ParseFloat.j8]) ?_
  simp only [bs_size]
  rw [w64 (x := (i : Int) + 1) (by omega) (by omega)]
  cases l with
  | nil => exact Ev.yes (by simp at hlen; omega) (bad _)
  | cons c0 l1 =>
    cases l1 with
    | nil =>
      refine Ev.yes (by simp at hlen; omega) ?_
      rw [show tailS neg ds b [c0] = (0, 20) by unfold tailS; split <;> simp_all]
      exact bad _
    | cons c r =>
      refine Ev.no (by simp at hlen; omega) (Ev.yes (by omega) (Ev.yes (by simp at hlen; omega) ?_))
      have g0 := getD_of_drop h 0
      have g1 := getD_of_drop h 1
      rw [Nat.add_zero] at g0
      have e1 : bt (bs m) ((i : Int) + 1) = (c.toNat : Int) := by
        rw [show (i : Int) + 1 = ((i + 1 : Nat) : Int) by omega, bt_bs, g1]; rfl
      rw [bt_bs, g0, e1]
      by_cases hp : c0 = 112
      · subst hp
        refine Ev.yes rfl (Ev.yes (by omega) (Ev.yes (by simp at hlen; omega) ?_))
        rw [tailS_p]
        have go : (c = 43 ∨ c = 45) → Ev (fun k => casketref4_ParseFloat.j9 k (bs m) (signN neg : Int) (i : Int) (rowOf ds) (b : Int) false) (if (c = 43 ∨ c = 45) ∧ r ≠ [] ∧ r.length ≤ 5 ∧ r.all isDig = true then resR (signN neg) (exactS (val 16 0 ds) (expo c r - 4 * b)) else (0, 20)) := by
          intro hc
          refine Ev.step (fun k => by rw [casketref4_ParseFloat.j9]) ?_
          simp only [bs_size]
          rw [w64 (x := (i : Int) + 1) (by omega) (by omega), w64 (x := (i : Int) + 2) (by omega) (by omega), e1]
          refine Ev.no (by simp) (Ev.yes (by omega) (Ev.yes (by simp at hlen; omega) ?_))
          cases r with
          | nil =>
            refine Ev.yes (by simp at hlen; omega) ?_
            rw [if_neg (fun h => h.2.1 rfl)]
            exact bad2 _ _
          | cons d r =>
            refine Ev.no (by simp at hlen; omega) ?_
            rw [w64 (x := (m.length : Int) - ((i : Int) + 2)) (by omega) (by omega)]
            by_cases h5 : (d :: r).length ≤ 5
            · rw [decide_eq_false (by simp at hlen h5; omega)]
              refine Ev.step (fun k => by rw [casketref4_ParseFloat.j10]) ?_
              refine Ev.no (by simp) ?_
              have h2 := rp_l2 m hm neg ds b ((c.toNat : Int) == 45) hd hl hb (d :: r) (i + 2) 0 0 (by rw [← List.drop_drop, h]; rfl) (by simp at hlen; omega) (by simp) (by simpa using h5)
              have e3 : (if ((c.toNat : Int) == 45) = true then -(decVal 0 (d :: r) : Int) else (decVal 0 (d :: r) : Int)) = expo c (d :: r) := by
                unfold expo
                rcases hc with rfl | rfl
                · rfl
                · rfl
              rw [e3] at h2
              have e4 : (if (c = 43 ∨ c = 45) ∧ (d :: r) ≠ [] ∧ (d :: r).length ≤ 5 ∧ (d :: r).all isDig = true then resR (signN neg) (exactS (val 16 0 ds) (expo c (d :: r) - 4 * b)) else (0, 20)) = (if (d :: r).all isDig = true then resR (signN neg) (exactS (val 16 0 ds) (expo c (d :: r) - 4 * b)) else (0, 20)) := by
                by_cases ha : (d :: r).all isDig = true
                · rw [if_pos ⟨hc, by simp, h5, ha⟩, if_pos ha]
                · rw [if_neg (fun h => ha h.2.2.2), if_neg ha]
              rw [e4]
              exact h2
            · rw [decide_eq_true (by simp at hlen h5 ⊢; omega), if_neg (fun h => h5 h.2.2.1)]
              exact bad2 _ _
        by_cases c43 : c = 43
        · refine Ev.yes (by subst c43; rfl) ?_
          exact go (.inl c43)
        · refine Ev.no (fun h => c43 (u8_eq (n := 43) h (by decide))) ?_
          by_cases c45 : c = 45
          · have : ((c.toNat : Int) != 45) = false := by subst c45; rfl
            rw [this]
            exact go (.inr c45)
          · have : ((c.toNat : Int) != 45) = true := bne_iff_ne.2 (fun h => c45 (u8_eq (n := 45) h (by decide)))
            rw [this, if_neg (fun h => h.1.elim c43 c45)]
            exact bad _
      · refine Ev.no (fun h => hp (u8_eq (n := 112) h (by decide))) ?_
        rw [show tailS neg ds b (c0 :: c :: r) = (0, 20) by unfold tailS; split <;> simp_all]
        exact bad _
theorem dotS_no (neg : Bool) (ds : List Nat) (l : List UInt8) (h : ∀ r, l ≠ 46 :: r) : dotS neg ds l = tailS neg ds 0 l := by
  unfold dotS
  split
  · rename_i r; exact absurd rfl (h r)
  · rfl
theorem rp_stop1 (m : List UInt8) (hm : m.length ≤ 64) (neg : Bool) (l : List UInt8) (ds : List Nat) (b i : Nat) (h : m.drop i = l) (hi : i ≤ m.length) (hd : ∀ d ∈ ds, d < 16) (h1 : ds.length + l.length ≤ 200) (h2 : b + l.length ≤ 200) :
    (cutN l).1 = [] → (cutN l).2 = l → Ev (fun k => casketref4_ParseFloat.j7 k (bs m) (signN neg : Int) (i : Int) (rowOf ds) (b : Int) false) (if b + (cutN l).1.length = 0 then (0, 20) else tailS neg (ds ++ (cutN l).1) (b + (cutN l).1.length) (cutN l).2) := by
  intro e1 e2
  rw [e1, e2]
  refine Ev.step (fun k => by rw [casketref4_ParseFloat.j7]) ?_
  refine Ev.no (by simp) ?_
  simp only [List.length_nil, Nat.add_zero, List.append_nil]
  by_cases hb : b = 0
  · rw [if_pos hb]; exact Ev.yes (by omega) (Ev.ret rfl)
  · rw [if_neg hb]
    refine Ev.no (by omega) ?_
    exact rp_j8 m hm neg ds b hd (by omega) (by omega) l i h hi
theorem rp_l1 (m : List UInt8) (hm : m.length ≤ 64) (neg : Bool) : ∀ (l : List UInt8) (ds : List Nat) (b i : Nat), m.drop i = l → i ≤ m.length → (∀ d ∈ ds, d < 16) → ds.length + l.length ≤ 200 → b + l.length ≤ 200 →
    Ev (fun k => casketref4_ParseFloat.l1 k (bs m) (signN neg : Int) (i : Int) (rowOf ds) (b : Int)) (if b + (cutN l).1.length = 0 then (0, 20) else tailS neg (ds ++ (cutN l).1) (b + (cutN l).1.length) (cutN l).2)
  | [], ds, b, i, h, hi, hd, h1, h2 => by
    have := drop_nil h hi
    refine Ev.step (fun k => by rw [casketref4_ParseFloat.l1]) ?_
    rw [bs_size]
    refine Ev.no (by omega) ?_
    exact rp_stop1 m hm neg [] ds b i h hi hd h1 h2 rfl rfl
  | c :: r, ds, b, i, h, hi, hd, h1, h2 => by
    obtain ⟨g1, g2, g3⟩ := drop_cons h
    refine Ev.step (fun k => by rw [casketref4_ParseFloat.l1]) ?_
    rw [bs_size]
    refine Ev.yes (by omega) (Ev.yes (by omega) ?_)
    rw [bt_bs, g1]
    refine Ev.bind (hex_ev c) ?_
    cases hv : hexV c with
    | none =>
      have e : decide (hexI c ≥ 0) = false := by unfold hexI; rw [hv]; rfl
      rw [e]
      exact rp_stop1 m hm neg (c :: r) ds b i h hi hd h1 h2 (by unfold cutN; rw [hv]) (by unfold cutN; rw [hv])
    | some v =>
      have hlt := hexV_lt hv
      have ei : hexI c = (v : Int) := by unfold hexI; rw [hv]
      have e : decide (hexI c ≥ 0) = true := by rw [ei]; exact decide_eq_true (by omega)
      rw [e]
      refine Ev.step (fun k => by rw [casketref4_ParseFloat.j7]) ?_
      rw [bs_size]
      refine Ev.yes rfl (Ev.yes (by omega) (Ev.yes (by omega) ?_))
      rw [bt_bs, g1]
      refine Ev.bind (hex_ev c) ?_
      rw [ei]
      refine Ev.bind0 (nibble_f _ v hlt (by rw [nibs_len]; simp at h1; omega)) ?_
      rw [← rowOf_snoc, w64 (x := (i : Int) + 1) (by omega) (by omega), w64 (x := (b : Int) + 1) (by omega) (by omega)]
      have ih := rp_l1 m hm neg r (ds ++ [v]) (b + 1) (i + 1) g3 (by omega) (fun d hx => by
        rcases List.mem_append.1 hx with hx | hx
        · exact hd d hx
        · rw [List.mem_singleton.1 hx]; exact hlt) (by simp at h1 ⊢; omega) (by simp at h2; omega)
      have ec : cutN (c :: r) = (v :: (cutN r).1, (cutN r).2) := by rw [cutN, hv]
      rw [ec]
      simp only [List.length_cons, List.append_assoc, List.singleton_append] at ih ⊢
      rw [show b + ((cutN r).1.length + 1) = b + 1 + (cutN r).1.length by omega]
      exact ih
theorem rp_stop0 (m : List UInt8) (hm : m.length ≤ 64) (neg : Bool) (l : List UInt8) (ds : List Nat) (i : Nat) (h : m.drop i = l) (hi : i ≤ m.length) (hd : ∀ d ∈ ds, d < 16) (h1 : ds.length + l.length ≤ 200) :
    (cutN l).1 = [] → (cutN l).2 = l → (∀ r, l = 46 :: r → m.drop (i + 1) = r ∧ i + 1 ≤ m.length ∧ bt (bs m) (i : Int) = 46) → (∀ c r, l = c :: r → bt (bs m) (i : Int) = (c.toNat : Int)) → Ev (fun k => casketref4_ParseFloat.j4 k (bs m) (signN neg : Int) (i : Int) (rowOf ds) (ds.length : Int) 0 false) (if (ds ++ (cutN l).1) = [] then (0, 20) else dotS neg (ds ++ (cutN l).1) (cutN l).2) := by
  intro e1 e2 hdot hb
  rw [e1, e2]
  refine Ev.step (fun k => by rw [casketref4_ParseFloat.j4]) ?_
  refine Ev.no (by simp) ?_
  simp only [List.append_nil, bs_size]
  by_cases hds : ds = []
  · rw [if_pos hds]; subst hds; exact Ev.yes rfl (Ev.ret rfl)
  · rw [if_neg hds]
    have := List.length_pos_iff.2 hds
    refine Ev.no (by omega) ?_
    have last : (∀ r, l ≠ 46 :: r) → Ev (fun k => casketref4_ParseFloat.j5 k (bs m) (signN neg : Int) (i : Int) (rowOf ds) 0 false) (dotS neg ds l) := by
      intro hno
      refine Ev.step (fun k => by rw [casketref4_ParseFloat.j5]) ?_
      refine Ev.no (by simp) ?_
      rw [dotS_no neg ds l hno]
      exact rp_j8 m hm neg ds 0 hd (by omega) (by omega) l i h hi
    cases l with
    | nil =>
      have := drop_nil h hi
      refine Ev.no (by omega) ?_
      exact last (by simp)
    | cons c r =>
      obtain ⟨g1, g2, g3⟩ := drop_cons h
      refine Ev.yes (by omega) (Ev.yes (by omega) ?_)
      rw [hb c r rfl]
      by_cases h46 : c = 46
      · subst h46
        refine Ev.step (fun k => by rw [casketref4_ParseFloat.j5]) ?_
        refine Ev.yes rfl ?_
        rw [w64 (by omega) (by omega)]
        have h2 := rp_l1 m hm neg r ds 0 (i + 1) g3 (by omega) hd (by simp at h1; omega) (by simp at h1; omega)
        show Ev _ (if (cutN r).1 = [] then (0, 20) else tailS neg (ds ++ (cutN r).1) (cutN r).1.length (cutN r).2)
        simp only [Nat.zero_add, List.length_eq_zero_iff] at h2
        exact h2
      · have : ((c.toNat : Int) == 46) = false := beq_eq_false_iff_ne.2 (fun h => h46 (u8_eq (n := 46) h (by decide)))
        rw [this]
        exact last (fun r' e => h46 (List.cons.inj e).1)
theorem rp_l0 (m : List UInt8) (hm : m.length ≤ 64) (neg : Bool) : ∀ (l : List UInt8) (ds : List Nat) (i : Nat), m.drop i = l → i ≤ m.length → (∀ d ∈ ds, d < 16) → ds.length + l.length ≤ 200 →
    Ev (fun k => casketref4_ParseFloat.l0 k (bs m) (signN neg : Int) (i : Int) (rowOf ds) (ds.length : Int) 0) (if (ds ++ (cutN l).1) = [] then (0, 20) else dotS neg (ds ++ (cutN l).1) (cutN l).2)
  | [], ds, i, h, hi, hd, h1 => by
    have := drop_nil h hi
    refine Ev.step (fun k => by rw [casketref4_ParseFloat.l0]) ?_
    rw [bs_size]
    refine Ev.no (by omega) ?_
    exact rp_stop0 m hm neg [] ds i h hi hd h1 rfl rfl (by simp) (by simp)
  | c :: r, ds, i, h, hi, hd, h1 => by
    obtain ⟨g1, g2, g3⟩ := drop_cons h
    have hb : bt (bs m) (i : Int) = (c.toNat : Int) := by rw [bt_bs, g1]
    refine Ev.step (fun k => by rw [casketref4_ParseFloat.l0]) ?_
    rw [bs_size]
    refine Ev.yes (by omega) (Ev.yes (by omega) ?_)
    rw [hb]
    refine Ev.bind (hex_ev c) ?_
    cases hv : hexV c with
    | none =>
      have e : decide (hexI c ≥ 0) = false := by unfold hexI; rw [hv]; rfl
      rw [e]
      exact rp_stop0 m hm neg (c :: r) ds i h hi hd h1 (by unfold cutN; rw [hv]) (by unfold cutN; rw [hv]) (fun r' e' => by
        obtain ⟨rfl, rfl⟩ := List.cons.inj e'
        exact ⟨g3, by omega, hb⟩) (fun c' r' e' => by
        obtain ⟨rfl, rfl⟩ := List.cons.inj e'
        exact hb)
    | some v =>
      have hlt := hexV_lt hv
      have ei : hexI c = (v : Int) := by unfold hexI; rw [hv]
      have e : decide (hexI c ≥ 0) = true := by rw [ei]; exact decide_eq_true (by omega)
      rw [e]
      refine Ev.step (fun k => by rw [casketref4_ParseFloat.j4]) ?_
      rw [bs_size]
      refine Ev.yes rfl (Ev.yes (by omega) (Ev.yes (by omega) ?_))
      rw [hb]
      refine Ev.bind (hex_ev c) ?_
      rw [ei]
      refine Ev.bind0 (nibble_f _ v hlt (by rw [nibs_len]; simp at h1; omega)) ?_
      rw [← rowOf_snoc, w64 (x := (i : Int) + 1) (by omega) (by omega), w64 (x := (ds.length : Int) + 1) (by simp at h1; omega) (by simp at h1; omega)]
      have ih := rp_l0 m hm neg r (ds ++ [v]) (i + 1) g3 (by omega) (fun d hx => by
        rcases List.mem_append.1 hx with hx | hx
        · exact hd d hx
        · rw [List.mem_singleton.1 hx]; exact hlt) (by simp at h1 ⊢; omega)
      have ec : cutN (c :: r) = (v :: (cutN r).1, (cutN r).2) := by rw [cutN, hv]
      rw [ec]
      simp only [List.length_append, List.length_cons, List.length_nil, List.append_assoc, List.singleton_append] at ih ⊢
      exact ih
theorem rp_j1 (m : List UInt8) (hm : m.length ≤ 64) (neg : Bool) : Ev (fun k => casketref4_ParseFloat.j1 k (bs m) (signN neg : Int)) (hexS neg m) := by
  have bad : Ev (fun k => casketref4_ParseFloat.j2 k (bs m) (signN neg : Int) true) (0, 20) := by
    refine Ev.step (fun k => by rw [casketref4_ParseFloat.j2]) ?_
    exact Ev.yes rfl (Ev.ret rfl)
  have no : (∀ r, m ≠ 48 :: 120 :: r) → hexS neg m = (0, 20) := by
    intro h
    unfold hexS
    split
    · rename_i r; exact absurd rfl (h r)
    · rfl
  refine Ev.step (fun k => by rw [casketref4_ParseFloat.j1]) ?_
  simp only [bs_size]
  match m, hm, bad, no with
  | [], hm, bad, no => rw [no (by simp)]; exact Ev.yes (by simp) bad
  | [c], hm, bad, no => rw [no (by simp)]; exact Ev.yes (by simp) bad
  | c :: d :: r, hm, bad, no =>
    refine Ev.no (by simp; omega) (Ev.yes (by simp; omega) ?_)
    rw [bt0, bt1]
    by_cases h48 : c = 48
    · subst h48
      refine Ev.yes rfl (Ev.yes (by simp; omega) ?_)
      by_cases h120 : d = 120
      · subst h120
        have : ((UInt8.toNat 120 : Int) != 120) = false := rfl
        rw [this]
        refine Ev.step (fun k => by rw [casketref4_ParseFloat.j2]) ?_
        refine Ev.no (by simp) ?_
        have h := rp_l0 (48 :: 120 :: r) hm neg r [] 2 rfl (by simp) (fun d hd => by simp at hd) (by simp at hm ⊢; omega)
        show Ev _ (bodyS neg r)
        unfold bodyS
        simp only [List.nil_append] at h
        exact h
      · have : ((d.toNat : Int) != 120) = true := bne_iff_ne.2 (fun h => h120 (u8_eq (n := 120) h (by decide)))
        rw [this, no (fun r' e => by simp at e; exact h120 e.1)]
        exact bad
    · refine Ev.no (fun h => h48 (u8_eq (n := 48) h (by decide))) ?_
      rw [no (fun r' e => by simp at e; exact h48 e.1)]
      exact bad
theorem refParseFloat_ev (l : List UInt8) (hl : l.length ≤ 1000000) : Ev (fun k => casketref4_ParseFloat.f k (bs l)) (pfS l) := by
  unfold casketref4_ParseFloat.f pfS
  simp only [bs_size, bs_toList]
  by_cases h0 : 64 < l.length
  · rw [if_pos h0]; exact Ev.yes (by omega) (Ev.ret rfl)
  · rw [if_neg h0]
    refine Ev.no (by omega) ?_
    by_cases h1 : l = [110, 97, 110]
    · rw [if_pos h1]; exact Ev.yes h1 (Ev.ret rfl)
    · rw [if_neg h1]
      refine Ev.no h1 ?_
      by_cases h2 : l = [105, 110, 102]
      · rw [if_pos h2]; exact Ev.yes h2 (Ev.ret rfl)
      · rw [if_neg h2]
        refine Ev.no h2 ?_
        by_cases h3 : l = [45, 105, 110, 102]
        · rw [if_pos h3]; exact Ev.yes h3 (Ev.ret rfl)
        · rw [if_neg h3]
          refine Ev.no h3 ?_
          have j0no : minusB l = false → Ev (fun k => casketref4_ParseFloat.j0 k (bs l) 0 false) (hexS (minusB l) (magB l)) := by
            intro hm
            have hg : magB l = l := by unfold magB; rw [hm]; simp
            rw [hm, hg]
            refine Ev.step (fun k => by rw [casketref4_ParseFloat.j0]) ?_
            refine Ev.no (by simp) ?_
            exact rp_j1 l (by omega) false
          cases l with
          | nil => exact Ev.yes rfl (j0no rfl)
          | cons c r =>
            refine Ev.no (by simp) (Ev.yes (by simp <;> omega) ?_)
            rw [bt0]
            by_cases hm : c = 45
            · subst hm
              have e : ((UInt8.toNat 45 : Int) == 45) = true := rfl
              rw [e]
              have hg : magB (45 :: r) = r := rfl
              have hb : minusB (45 :: r) = true := rfl
              rw [hg, hb]
              refine Ev.step (fun k => by rw [casketref4_ParseFloat.j0]) ?_
              refine Ev.yes rfl (Ev.yes (by rw [bs_size]; simp <;> omega) ?_)
              rw [bs_from]
              exact rp_j1 r (by simp at h0; omega) true
            · have e : ((c.toNat : Int) == 45) = false := by
                rw [beq_eq_false_iff_ne]
                intro h
                exact hm (u8_eq (n := 45) h (by decide))
              rw [e]
              exact j0no (by unfold minusB; simpa using hm)
end Go.Proofs.YtjdnneomkocghaaDoor.Sp
