/- Chapter 6: slices.Clone, Index and ContainsFunc, as the heap calls them. -/
import Derived.Test.YtgimcpnelogadaaHpB
import Derived.Test.YtgimcpnelogadaaMemG
namespace Go.Proofs.Ytgimcpnelogadaa.Hp
open Go.RowKit Go.Proofs.Ytgimcpnelogadaa.Mem Go.Proofs.Ytgimcpnelogadaa.Sto Go.Proofs.Ytgimcpnelogadaa.Wd
set_option linter.unusedVariables false
set_option linter.unusedSimpArgs false
attribute [local go_sem] Option.isNone_some Option.isNone_none

theorem elemU64 : Elem Try.prog 22 1 8 (.int .u64 0) := Elem.of (by kernel_rfl) rfl (by intro v hv; simp [Value.cells] at hv; subst hv; rfl) (by decide)
theorem elemByte : Elem Try.prog 5 1 1 (.int .u8 0) := Elem.of (by kernel_rfl) rfl (by intro v hv; simp [Value.cells] at hv; subst hv; rfl) (by decide)
theorem u64V_one (l : List Nat) : ∀ u ∈ u64V l, u.oneCell' = true := by
  intro u hu
  obtain ⟨x, _, rfl⟩ := List.mem_map.1 hu
  rfl
theorem byteV_one (l : List UInt8) : ∀ u ∈ u8V l, u.oneCell' = true := by
  intro u hu
  obtain ⟨x, _, rfl⟩ := List.mem_map.1 hu
  rfl
theorem u64V_length (l : List Nat) : (u64V l).length = l.length := by simp [u64V]
theorem u8V_len (l : List UInt8) : (u8V l).length = l.length := by simp [u8V]
/-- An empty row that was made now. -/
theorem Row.made0 {w : World} (t : TypeId) (size : Nat) : Row (w.alloc (.cells #[] t)) t size (.slice (some ⟨w.heap.size, 0, none⟩) 0 0) 0 [] :=
  Row.mk (rest := []) (Blk.newL [] rfl) (by simp) (Nat.le_refl _) (Nat.zero_le _) (by simp)

set_option maxHeartbeats 4000000 in
theorem clone64 {w : World} {v : Value} {l : List Nat} (h : Row w 22 1 v l.length (u64V l)) (hl : l.length ≤ 1000000000) :
    Calls Try.prog 84 #[v] w fun e w' => ∃ v', e = .returned v' ∧ Row w' 22 1 v' l.length (u64V l) ∧ Chg [] w w' ∧ ∀ g, v'.ownBlock = some g → w.heap.size ≤ g := by
  have hq := fun (w : World) a n c => Lib.run_eql_slice_nil (P := Try.prog) w 58 22 a n c 0 0 Try.underlying58
  rcases h.cases with ⟨rfl, hn, hx⟩ | ⟨g, cap, rest, rfl, hb, hn, hc, hlen⟩
  · have hl0 : l = [] := List.eq_nil_of_length_eq_zero hn
    subst hl0
    clear h hn hx
    go_enter Try.func84, Try.ntmps84
    go_wp2
    go_ret
    exact ⟨_, rfl, Row.nil _ _ _, Chg.refl _ _, fun g hg => by cases hg⟩
  · obtain ⟨v', w1, hr, hR, hC, hO⟩ := (Row.made0 (w := w) 22 1).append (c := cap) Try.underlying58 elemU64 (m := l.length) (news := u64V l) (ad := ⟨g, 0, none⟩) (by simp [u64V]) ((hb.alloc _).from (fun j u hu => by rw [Nat.zero_add]; exact List.getElem?_append_left_some hu)) (u64V_one l) (by omega) (by omega)
    have HR := Mem.Aside.mk hr
    have HRR := Mem.Aside.mk hR
    have HC := Mem.Aside.mk hC
    have HO := Mem.Aside.mk hO
    clear h hb hn hc hlen hl hr hR hC hO
    go_enter Try.func84, Try.ntmps84
    go_wp2_with (at_builtin; refine wpList_builtin2 _ (by rfl) .append _ _ _ (by rfl) _ _ (by rfl) (by rfl) _ _ (HR.out _) ?_)
    go_ret
    have e := HRR.out
    rw [Nat.zero_add, List.nil_append] at e
    refine ⟨v', rfl, e, ((Chg.refl [] w).alloc (.cells #[] 22)).then HC.out (fun x hx => .inr ?_), fun k hk => ?_⟩
    · simp [Value.ownBlock] at hx; omega
    · rcases HO.out with e | e <;> rw [e] at hk
      · simp [Value.ownBlock] at hk; omega
      · cases hk; simp
set_option maxHeartbeats 4000000 in
theorem clone8 {w : World} {v : Value} {l : List UInt8} (h : Row w 5 1 v l.length (u8V l)) (hl : l.length ≤ 1000000000) :
    Calls Try.prog 89 #[v] w fun e w' => ∃ v', e = .returned v' ∧ Row w' 5 1 v' l.length (u8V l) ∧ Chg [] w w' ∧ ∀ g, v'.ownBlock = some g → w.heap.size ≤ g := by
  have hq := fun (w : World) a n c => Lib.run_eql_slice_nil (P := Try.prog) w 57 5 a n c 0 0 Try.underlying57
  rcases h.cases with ⟨rfl, hn, hx⟩ | ⟨g, cap, rest, rfl, hb, hn, hc, hlen⟩
  · have hl0 : l = [] := List.eq_nil_of_length_eq_zero hn
    subst hl0
    clear h hn hx
    go_enter Try.func89, Try.ntmps89
    go_wp2
    go_ret
    exact ⟨_, rfl, Row.nil _ _ _, Chg.refl _ _, fun g hg => by cases hg⟩
  · obtain ⟨v', w1, hr, hR, hC, hO⟩ := (Row.made0 (w := w) 5 1).append (c := cap) Try.underlying57 elemByte (m := l.length) (news := u8V l) (ad := ⟨g, 0, none⟩) (by simp [u8V]) ((hb.alloc _).from (fun j u hu => by rw [Nat.zero_add]; exact List.getElem?_append_left_some hu)) (byteV_one l) (by omega) (by omega)
    have HR := Mem.Aside.mk hr
    have HRR := Mem.Aside.mk hR
    have HC := Mem.Aside.mk hC
    have HO := Mem.Aside.mk hO
    clear h hb hn hc hlen hl hr hR hC hO
    go_enter Try.func89, Try.ntmps89
    go_wp2_with (at_builtin; refine wpList_builtin2 _ (by rfl) .append _ _ _ (by rfl) _ _ (by rfl) (by rfl) _ _ (HR.out _) ?_)
    go_ret
    have e := HRR.out
    rw [Nat.zero_add, List.nil_append] at e
    refine ⟨v', rfl, e, ((Chg.refl [] w).alloc (.cells #[] 5)).then HC.out (fun x hx => .inr ?_), fun k hk => ?_⟩
    · simp [Value.ownBlock] at hx; omega
    · rcases HO.out with e | e <;> rw [e] at hk
      · simp [Value.ownBlock] at hk; omega
      · cases hk; simp
/-- Which place is free: the first, or -1. -/
def FreeAt (M : List (Option MC)) (z : Int) : Prop := (∃ i : Nat, z = i ∧ M[i]? = some none ∧ ∀ j : Nat, j < i → M[j]? ≠ some none) ∨ (z = -1 ∧ ∀ j : Nat, M[j]? ≠ some none)
theorem under_cell : ∃ e, Try.prog.underlying 134 = some (.pointer e) := by
  have h : (match Try.prog.underlying 134 with | some (.pointer _) => true | _ => false) = true := by kernel_rfl
  split at h
  · next e he => exact ⟨e, he⟩
  · exact absurd h (by simp)
theorem eqIn_nil (d : Nat) (o : Option Addr) (w : World) : (Op.equalIn (d + 1) 134 (.pointer none) (.pointer o)).run Try.prog w = .ok o.isNone w := by
  obtain ⟨e, h⟩ := under_cell
  cases o <;> simp [Op.equalIn, run_underlying h]
theorem eql_nil (o : Option Addr) (w : World) : (binOp .eql 134 (.pointer none) (.pointer o)).run Try.prog w = .ok (.bool o.isNone) w := by
  simp only [binOp]
  simp [Op.equal, Op.maxDepth, eqIn_nil 9999 o w]
set_option maxHeartbeats 4000000 in
set_option maxRecDepth 100000 in
theorem index_calls {w : World} {v : Value} {M : List (Option MC)} (h : Row w 134 1 v M.length (M.map ptrV)) (hl : M.length ≤ 1000000000) :
    Calls Try.prog 86 #[v, .pointer none] w fun e w' => (∃ z : Int, e = .returned (.int .i64 z) ∧ FreeAt M z) ∧ w = w' := by
  obtain ⟨a, c, rfl⟩ := Row_form h
  have H := Mem.Aside.mk h
  clear h
  go_enter Try.func86, Try.ntmps86
  go_wp2
  go_loopw [8] (fun i wr => ∃ k : Nat, i = .int .i64 (k : Int) ∧ k ≤ M.length ∧ Mem.Aside (∀ j : Nat, j < k → M[j]? ≠ some none) ∧ w = wr) (fun i _ => M.length - (intOf i).toNat)
  case atStart => exact ⟨0, rfl, Nat.zero_le _, ⟨fun j hj => absurd hj (Nat.not_lt_zero _)⟩, rfl⟩
  case round =>
    obtain ⟨k, rfl, hk, HN, rfl⟩ := hrel
    by_cases d : k < M.length
    · have d' : (k : Int) < (M.length : Int) := by omega
      have hwk := (IntWalk.i64_in ((k : Int) + 1) (by omega) : IntKind.i64.wrap ((k : Int) + 1) = ((k + 1 : Nat) : Int))
      obtain ⟨g, cap, hac, hcell⟩ := row_get1 H.out (i := k) (u := ptrV M[k]) (by rw [List.getElem?_map, List.getElem?_eq_getElem d]; rfl)
      cases hac
      have HM : Mem.Aside (M[k]? = some M[k]) := ⟨List.getElem?_eq_getElem d⟩
      obtain ⟨o, ho⟩ : ∃ o, o = M[k] := ⟨_, rfl⟩
      rw [← ho] at hcell HM
      clear ho
      have ep : ptrV o = .pointer (o.map fun m => ⟨m.blk, 0, none⟩) := by cases o <;> rfl
      rw [ep] at hcell
      obtain ⟨q, hq⟩ : ∃ q, q = o.map fun m => (⟨m.blk, 0, none⟩ : Addr) := ⟨_, rfl⟩
      rw [← hq] at hcell
      have hEQ := fun (w : World) => eql_nil q w
      cases hqn : q.isNone with
      | true =>
        rw [hqn] at hEQ
        have HO : Mem.Aside (o = none) := ⟨by cases o with | none => rfl | some m => rw [hq] at hqn; cases hqn⟩
        clear hq ep
        go_wp2
        go_ret
        exact ⟨⟨_, rfl, Or.inl ⟨k, rfl, by rw [HM.out, HO.out], HN.out⟩⟩, rfl⟩
      | false =>
        rw [hqn] at hEQ
        have HO : Mem.Aside (o ≠ none) := ⟨fun e => by rw [hq, e] at hqn; cases hqn⟩
        clear hq ep
        go_wp2
        refine ⟨⟨k + 1, by go_num, by omega, ⟨fun j hj e => ?_⟩, trivial⟩, by simp [intOf]; omega⟩
        rcases Nat.lt_succ_iff_lt_or_eq.1 hj with h | h
        · exact HN.out j h e
        · subst h; rw [HM.out] at e; exact HO.out (Option.some.inj e)
    · have d' : decide ((k : Int) < (M.length : Int)) = false := decide_eq_false (by omega)
      go_wp2
      go_ret
      refine ⟨⟨_, rfl, Or.inr ⟨rfl, fun j e => ?_⟩⟩, rfl⟩
      have := (List.getElem?_eq_some_iff.1 e).1
      exact HN.out j (by omega) e

section
variable {w : World} {p units used rp most : Nat} {M : List (Option MC)} {cv : Value} {F : List Nat}
theorem stray_calls (h : HeapAt w p units used M cv rp F most) {hb : Nat} (hc : w.cell? ⟨hb, 0, none⟩ = some (.pointer (some ⟨p, 0, none⟩))) (x : Nat) (hx : x < 18446744073709551616) :
    Calls Try.prog 119 #[.int .u64 (x : Int), .pointer (some ⟨hb, 0, none⟩)] w fun e w' => e = .returned (.bool (!soundB M x)) ∧ w = w' := by
  have CS := Mem.Aside.mk (sound_calls h x hx)
  clear h
  go_enter Try.func119, Try.ntmps119
  go_wp2_with (go_at_call 90; (with_reducible refine CS.out.mono ?_); rintro e w' ⟨rfl, rfl⟩)
  go_ret
  exact ⟨rfl, rfl⟩
set_option maxHeartbeats 4000000 in
theorem indexf_calls (h : HeapAt w p units used M cv rp F most) {hb : Nat} (hc : w.cell? ⟨hb, 0, none⟩ = some (.pointer (some ⟨p, 0, none⟩))) {v : Value} {l : List Nat} (hr : Row w 22 1 v l.length (u64V l)) (hl : l.length ≤ 1000000000) (hx : ∀ x ∈ l, x < 18446744073709551616) :
    Calls Try.prog 139 #[v, .func (.func 119) #[] #[.pointer (some ⟨hb, 0, none⟩)]] w fun e w' => (∃ z : Int, e = .returned (.int .i64 z) ∧ (0 ≤ z ↔ (l.any fun x => !soundB M x) = true)) ∧ w = w' := by
  obtain ⟨a, c, rfl⟩ := Row_form hr
  have H := Mem.Aside.mk h
  have HR := Mem.Aside.mk hr
  have HX := Mem.Aside.mk hx
  have HC := Mem.Aside.mk hc
  clear h hr hx hc
  go_enter Try.func139, Try.ntmps139
  go_wp2
  go_loopw [8] (fun i wr => ∃ k : Nat, i = .int .i64 (k : Int) ∧ k ≤ l.length ∧ Mem.Aside (∀ x ∈ l.take k, soundB M x = true) ∧ w = wr) (fun i _ => l.length - (intOf i).toNat)
  case atStart => exact ⟨0, rfl, Nat.zero_le _, ⟨by simp⟩, rfl⟩
  case round =>
    obtain ⟨k, rfl, hk, HN, rfl⟩ := hrel
    by_cases d : k < l.length
    · have d' : (k : Int) < (l.length : Int) := by omega
      have hwk := (IntWalk.i64_in ((k : Int) + 1) (by omega) : IntKind.i64.wrap ((k : Int) + 1) = ((k + 1 : Nat) : Int))
      obtain ⟨g, cap, hac, hcell⟩ := row_get1 HR.out (i := k) (u := .int .u64 (l[k] : Int)) (by unfold u64V; rw [List.getElem?_map, List.getElem?_eq_getElem d]; rfl)
      cases hac
      have CS := Mem.Aside.mk (stray_calls H.out HC.out l[k] (HX.out _ (List.getElem_mem d)))
      have HM : Mem.Aside (l[k]? = some l[k]) := ⟨List.getElem?_eq_getElem d⟩
      obtain ⟨x, hxx⟩ : ∃ x, x = l[k] := ⟨_, rfl⟩
      rw [← hxx] at hcell HM CS
      clear hxx
      cases hs : soundB M x with
      | true =>
        rw [hs] at CS
        have HS := Mem.Aside.mk hs
        clear hs
        go_wp2_with (go_at_call 119; (with_reducible refine CS.out.mono ?_); rintro e w' ⟨rfl, rfl⟩)
        refine ⟨⟨k + 1, by go_num, by omega, ⟨fun y hy => ?_⟩, trivial⟩, by simp [intOf]; omega⟩
        rw [List.take_add_one, HM.out] at hy
        rcases List.mem_append.1 hy with hy | hy
        · exact HN.out y hy
        · simp at hy; subst hy; exact HS.out
      | false =>
        rw [hs] at CS
        have HS := Mem.Aside.mk hs
        clear hs
        go_wp2_with (go_at_call 119; (with_reducible refine CS.out.mono ?_); rintro e w' ⟨rfl, rfl⟩)
        go_ret
        exact ⟨⟨_, rfl, ⟨fun _ => List.any_eq_true.2 ⟨x, List.mem_of_getElem? HM.out, by rw [HS.out]; rfl⟩, fun _ => by omega⟩⟩, rfl⟩
    · have d' : decide ((k : Int) < (l.length : Int)) = false := decide_eq_false (by omega)
      have hN := HN.out
      rw [List.take_of_length_le (by omega)] at hN
      have HN2 := Mem.Aside.mk hN
      clear hN
      go_wp2
      go_ret
      refine ⟨⟨_, rfl, ⟨fun h => absurd h (by decide), fun h => ?_⟩⟩, rfl⟩
      obtain ⟨x, hx, e⟩ := List.any_eq_true.1 h
      rw [HN2.out x hx] at e
      cases e
theorem contains_calls (h : HeapAt w p units used M cv rp F most) {hb : Nat} (hc : w.cell? ⟨hb, 0, none⟩ = some (.pointer (some ⟨p, 0, none⟩))) {v : Value} {l : List Nat} (hr : Row w 22 1 v l.length (u64V l)) (hl : l.length ≤ 1000000000) (hx : ∀ x ∈ l, x < 18446744073709551616) :
    Calls Try.prog 118 #[v, .func (.func 119) #[] #[.pointer (some ⟨hb, 0, none⟩)]] w fun e w' => e = .returned (.bool (l.any fun x => !soundB M x)) ∧ w = w' := by
  have CI := Mem.Aside.mk (indexf_calls h hc hr hl hx)
  obtain ⟨B, hB⟩ : ∃ B, B = l.any fun x => !soundB M x := ⟨_, rfl⟩
  rw [← hB] at CI ⊢
  clear h hc hr hx hB
  go_enter Try.func118, Try.ntmps118
  go_wp2_with (go_at_call 139; (with_reducible refine CI.out.mono ?_); rintro e w' ⟨⟨z, rfl, hz⟩, rfl⟩; have HZ := Mem.Aside.mk hz; clear hz)
  go_ret
  refine ⟨?_, rfl⟩
  have hz := HZ.out
  cases B with
  | true => simp only [iff_true] at hz; simp [hz]
  | false => simp only [Bool.false_eq_true, iff_false] at hz; simp [hz]
end
end Go.Proofs.Ytgimcpnelogadaa.Hp
