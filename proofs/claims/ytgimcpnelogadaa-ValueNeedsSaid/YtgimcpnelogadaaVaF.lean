/- Chapter 7: values, their words, in a heap of leaves: Box, Unbox. -/
import Derived.Test.YtgimcpnelogadaaVaD
import Derived.Test.YtgimcpnelogadaaVaE
namespace Go.Proofs.Ytgimcpnelogadaa.Va
open Go.RowKit Go.Proofs.Ytgimcpnelogadaa.Mem Go.Proofs.Ytgimcpnelogadaa.Sto Go.Proofs.Ytgimcpnelogadaa.Wd Go.Proofs.Ytgimcpnelogadaa.Hp
set_option linter.unusedVariables false
set_option linter.unusedSimpArgs false
inductive Val where
  | nil
  | bool (b : Bool)
  | int (i : Int)
  | float (b : Nat)
  | text (s : ByteArray)
def Val.v : Val → Value
  | .nil => valV 0 0 0 noText 0
  | .bool true => valV 1 1 0 noText 0
  | .bool false => valV 1 0 0 noText 0
  | .int i => valV 2 i 0 noText 0
  | .float b => valV 3 0 (b : Int) noText 0
  | .text s => valV 4 0 0 s 0
/-- What Unbox tells. -/
def Val.u : Val → Value
  | .float b => valV 3 0 (floatW b : Nat) noText 0
  | v => v.v
def Val.cel : Val → Option Cel
  | .int i => if Small i then none else some (intC i)
  | .text s => if s.size ≤ 5 then none else some (textC s)
  | _ => none
/-- The cell that has a value, needed or not. -/
def Val.cell : Val → Option Cel
  | .int i => some (intC i)
  | .text s => some (textC s)
  | _ => none
theorem Val.cel_cell {v : Val} {c : Cel} (h : v.cel = some c) : v.cell = some c := by
  cases v with
  | int i =>
    unfold Val.cel at h
    by_cases d : Small i
    · simp only [if_pos d] at h; cases h
    · simp only [if_neg d] at h; exact h
  | text s =>
    unfold Val.cel at h
    by_cases d : s.size ≤ 5
    · simp only [if_pos d] at h; cases h
    · simp only [if_neg d] at h; exact h
  | nil => cases h
  | bool b => cases h
  | float b => cases h
def Val.word : Val → Nat
  | .nil => 18444492273895866368
  | .bool true => 18444492273895866370
  | .bool false => 18444492273895866369
  | .int i => intW i
  | .float b => floatW b
  | .text s => textW s
def Val.ok : Val → Prop
  | .float b => b < 18446744073709551616
  | .text s => s.size ≤ 8388608
  | _ => True
def Val.need (v : Val) : Nat := match v.cel with | some c => c.need | none => 0
def Val.cls : Val → Nat
  | .nil => 3
  | .bool _ => 4
  | .int _ => 2
  | .float _ => 1
  | .text _ => 5
theorem Val.word_cls {v : Val} (hok : v.ok) (hc : v.cel = none) : v.word < 18446744073709551616 ∧ Wd.cls v.word = v.cls := by
  cases v with
  | nil => exact ⟨by decide, by decide +kernel⟩
  | bool b => cases b <;> exact ⟨by decide, by decide +kernel⟩
  | int i => exact ⟨(intW_lt i).1, cls_int i⟩
  | float b =>
    refine ⟨?_, cls_float b⟩
    show floatW b < _
    unfold floatW
    split
    · decide
    · exact hok
  | text s =>
    have hs : s.size ≤ 5 := by
      unfold Val.cel at hc
      by_cases c : s.size ≤ 5
      · exact c
      · simp only [if_neg c] at hc; cases hc
    exact ⟨(textW_parts hs).1, cls_text hs⟩
theorem Val.word_hdl {v : Val} (hok : v.ok) (hc : v.cel = none) : hdl v.word = none := by
  obtain ⟨h1, h2⟩ := v.word_cls hok hc
  cases h : hdl v.word with
  | none => rfl
  | some n =>
    have := (cls_hdl h1).2 (by rw [h]; rfl)
    rw [h2] at this
    cases v <;> cases this
/-- The word x stands for the value v. -/
def Stands (L : List (Nat × Cel)) (x : Nat) (v : Val) : Prop := (v.cel = none ∧ x = v.word) ∨ ∃ c n, v.cell = some c ∧ x = hw n ∧ (n, c) ∈ L
section
variable {W W' W1 : World} {p units : Nat} {L K : List (Nat × Cel)} {G : List Nat}
theorem Stands.more {x : Nat} {v : Val} (h : Stands L x v) (hs : ∀ q ∈ L, q ∈ K) : Stands K x v := by
  rcases h with h | ⟨c, n, h1, h2, h3⟩
  · exact .inl h
  · exact .inr ⟨c, n, h1, h2, hs _ h3⟩
theorem Stands.small {x : Nat} {v : Val} (h : Stands [] x v) : x = v.word := by
  rcases h with ⟨_, h⟩ | ⟨c, n, _, _, h⟩
  · exact h
  · cases h
theorem Stands.lt {x : Nat} {v : Val} (h : Stands L x v) (hk : HeapK p units L G W) (hok : v.ok) : x < 18446744073709551616 ∧ (x ∈ hwC L ∨ hdl x = none) := by
  rcases h with ⟨h1, rfl⟩ | ⟨c, n, h1, rfl, h3⟩
  · exact ⟨(v.word_cls hok h1).1, .inr (v.word_hdl hok h1)⟩
  · exact ⟨(hk.word h3).1, .inl (List.mem_map_of_mem (f := fun q : Nat × Cel => hw q.1) h3)⟩
theorem needL_le (h : HeapK p units L G W) : needL L ≤ units := by
  obtain ⟨M, h1, h2, _⟩ := h.ex
  obtain ⟨cv, rp, F, most, h3, _⟩ := h1.ex
  have := keptC_used h2
  have := h3.small
  omega
/-- What Box answers. -/
def BoxK (W : World) (p units : Nat) (L : List (Nat × Cel)) (G : List Nat) (v : Val) (a : Nat) (er : Int) (w' : World) : Prop :=
  Chg G W w' ∧ ∃ G', (∀ k ∈ G', k ∈ G ∨ W.heap.size ≤ k) ∧
  ((needL L + v.need ≤ units ∧ er = 0 ∧ ∃ K, Stands K a v ∧ HeapK p units (L ++ K) G' w' ∧ needL (L ++ K) = needL L + v.need ∧ (∀ y ∈ hwC K, y = a) ∧ (v.cel = none → K = [])) ∨ (units < needL L + v.need ∧ a = 0 ∧ er = 40 ∧ HeapK p units L G' w'))
theorem box_k (h : HeapK p units L G W) (v : Val) (hok : v.ok) {rv : Value} {rs : List Nat} (hr : Row W 22 1 rv rs.length (u64V rs)) (hrl : rs.length ≤ 1000000000) (hrx : ∀ x ∈ rs, x < 18446744073709551616) (hR1 : ∀ x ∈ rs, x ∈ hwC L ∨ hdl x = none) (hR2 : ∀ x ∈ hwC L, x ∈ rs) :
    Calls Try.prog 46 #[.pointer (some ⟨p, 0, none⟩), v.v, rv] W fun e w' => ∃ (a : Nat) (er : Int), e = .returned (.tuple #[.int .u64 (a : Int), .int .i64 er]) ∧ BoxK W p units L G v a er w' := by
  have hn := needL_le h
  have small : ∀ {e : Ending} {w' : World} {a : Nat}, v.cel = none → a = v.word → e = .returned (.tuple #[.int .u64 (a : Int), .int .i64 0]) ∧ Chg [] W w' → ∃ (a : Nat) (er : Int), e = .returned (.tuple #[.int .u64 (a : Int), .int .i64 er]) ∧ BoxK W p units L G v a er w' := by
    intro e w' a hc ha ⟨he, hch⟩
    have h0 : v.need = 0 := by unfold Val.need; rw [hc]
    exact ⟨a, 0, he, hch.mono (by simp), G, fun k hk => .inl hk, .inl ⟨by omega, rfl, [], .inl ⟨hc, ha⟩, by rw [List.append_nil]; exact h.chg hch (by simp), by rw [List.append_nil, h0]; rfl, by simp [hwC], fun _ => rfl⟩⟩
  have great : ∀ {c : Cel} {e : Ending} {w' W2 : World}, v.cel = some c → Chg [] W W2 → PutK W2 p units L G c e w' → ∃ (a : Nat) (er : Int), e = .returned (.tuple #[.int .u64 (a : Int), .int .i64 er]) ∧ BoxK W p units L G v a er w' := by
    intro c e w' W2 hc hch ⟨h1, G', h2, h3⟩
    have h0 : v.need = c.need := by unfold Val.need; rw [hc]
    have hch' : Chg G W w' := (hch.mono (by simp)).trans h1
    have h2' : ∀ k ∈ G', k ∈ G ∨ W.heap.size ≤ k := fun k hk => (h2 k hk).imp id (fun e => Nat.le_trans hch.size e)
    rcases h3 with ⟨h4, n, h5, h6⟩ | ⟨h4, h5, h6⟩
    · exact ⟨hw n, 0, h5, hch', G', h2', .inl ⟨by omega, rfl, [(n, c)], .inr ⟨c, n, Val.cel_cell hc, rfl, by simp⟩, h6, by rw [needL_append, h0]; simp [needL], by simp [hwC], fun e => by rw [hc] at e; cases e⟩⟩
    · exact ⟨0, 40, h5, hch', G', h2', .inr ⟨by omega, rfl, rfl, h6⟩⟩
  cases v with
  | nil => exact (box_nil p rv W).mono fun e w' h => small (a := 18444492273895866368) rfl rfl h
  | bool b =>
    cases b with
    | true => exact (box_true p rv W).mono fun e w' h => small (a := 18444492273895866370) rfl rfl h
    | false => exact (box_false p rv W).mono fun e w' h => small (a := 18444492273895866369) rfl rfl h
  | int i =>
    by_cases c : Small i
    · exact (box_small p rv W c).mono fun e w' h => small (a := intW i) (by simp [Val.cel, c]) rfl h
    · exact box_great p rv W c (fun W2 hc2 => (put_int_k (h.chg hc2 (by simp)) i (hr.chg hc2 (by simp)) hrl hrx hR1 hR2).mono fun e w' hp => great (by simp [Val.cel, c]) hc2 hp)
  | float b => exact (box_float p rv W hok).mono fun e w' h => small (a := floatW b) rfl rfl h
  | text s =>
    by_cases c : s.size ≤ 5
    · exact (box_short p rv W c).mono fun e w' h => small (a := textW s) (by simp [Val.cel, c]) rfl h
    · exact box_long p rv W (by omega) hok (fun W2 hc2 => (put_text_k (h.chg hc2 (by simp)) s hok (hr.chg hc2 (by simp)) hrl hrx hR1 hR2).mono fun e w' hp => great (by simp [Val.cel, c]) hc2 hp)
/-- Box where there is room. -/
theorem box_ok (h : HeapK p units L G W) (v : Val) (hok : v.ok) {rv : Value} {rs : List Nat} (hr : Row W 22 1 rv rs.length (u64V rs)) (hrl : rs.length ≤ 1000000000) (hrx : ∀ x ∈ rs, x < 18446744073709551616) (hR1 : ∀ x ∈ rs, x ∈ hwC L ∨ hdl x = none) (hR2 : ∀ x ∈ hwC L, x ∈ rs) (hroom : needL L + v.need ≤ units) :
    Calls Try.prog 46 #[.pointer (some ⟨p, 0, none⟩), v.v, rv] W fun e w' => ∃ (a : Nat) (K : List (Nat × Cel)) (G' : List Nat), e = .returned (.tuple #[.int .u64 (a : Int), .int .i64 0]) ∧ Chg G W w' ∧ (∀ k ∈ G', k ∈ G ∨ W.heap.size ≤ k) ∧
      Stands K a v ∧ HeapK p units (L ++ K) G' w' ∧ needL (L ++ K) = needL L + v.need ∧ (∀ y ∈ hwC K, y = a) ∧ (v.cel = none → K = []) := by
  refine (box_k h v hok hr hrl hrx hR1 hR2).mono ?_
  rintro e w' ⟨a, er, he, hc, G', hG, ⟨_, rfl, K, h1, h2, h3, h4, h5⟩ | ⟨hlt, _⟩⟩
  · exact ⟨a, K, G', he, hc, hG, h1, h2, h3, h4, h5⟩
  · omega
theorem unbox_k (h : HeapK p units L G W) {x : Nat} {v : Val} (hs : Stands L x v) (hok : v.ok) (hnb : ∀ b, v ≠ .bool b) :
    Calls Try.prog 48 #[.pointer (some ⟨p, 0, none⟩), .int .u64 (x : Int)] W fun e w' => e = .returned (.tuple #[v.u, .int .i64 0]) ∧ Chg [] W w' := by
  rcases hs with ⟨hc, rfl⟩ | ⟨c, n, hc, rfl, hm⟩
  · obtain ⟨h1, h2⟩ := v.word_cls hok hc
    cases v with
    | nil => exact unbox_nil p W
    | bool b => exact absurd rfl (hnb b)
    | int i =>
      have hs : Small i := by
        unfold Val.cel at hc
        by_cases c : Small i
        · exact c
        · simp only [if_neg c] at hc; cases hc
      exact unbox_int p W hs
    | float b => exact unbox_float p W h1 h2
    | text s =>
      have hs : s.size ≤ 5 := by
        unfold Val.cel at hc
        by_cases c : s.size ≤ 5
        · exact c
        · simp only [if_neg c] at hc; cases hc
      exact unbox_text p W hs
  · obtain ⟨h1, h2⟩ := h.word hm
    have h3 : Wd.cls (hw n) = 6 := (cls_hdl h1).2 (by rw [h2]; rfl)
    have hS := fun (W2 : World) (hc2 : Chg [] W W2) => shape_k (h.chg hc2 (by simp)) hm
    have hP := fun (W2 : World) (hc2 : Chg [] W W2) => plain_k (h.chg hc2 (by simp)) hm
    cases v with
    | nil => cases hc
    | bool b => cases hc
    | float b => cases hc
    | int i =>
      obtain rfl : c = intC i := by cases hc; rfl
      exact unbox_cint p W h1 h3 i noText (fun W2 hc2 => hS W2 hc2 rfl rfl) (fun W2 hc2 => hP W2 hc2)
    | text s =>
      obtain rfl : c = textC s := by cases hc; rfl
      exact unbox_ctext p W h1 h3 0 s (fun W2 hc2 => hS W2 hc2 rfl rfl) (fun W2 hc2 => hP W2 hc2)
end
end Go.Proofs.Ytgimcpnelogadaa.Va
