/- LexLong: the row, and the tied card: for every input the law answers true; the arguments read behind the call as before. The listed variables of Go's library are tied to the program's text (in a pruned copy of the project). -/
/- Packed by a program of this session (wip/tools/pack.py): the declarations of its texts that this claim needs. Not trusted: Lean checks it. -/
import Derived.Test.YtjolkombhdibcaaDoorLonF
import Derived.Test.YtjolkombhdibcaaDoorCards
import Derived.Test.YtjolkombhdibcaaDoorTie
import Derived.ChangeOld
import Derived.SizedLaws
import Derived.SevenTiedAt
import Derived.Lib.SmallJoins
import Derived.Deep.Strs
import Derived.Test.YtjolkombhdibcaaDoorChecked
section
namespace Go.Proofs.YtjolkombhdibcaaDoor.Pure
open Go.RowKit Go.Proofs.YtjolkombhdibcaaDoorW.PrintWords Go.Proofs.YtjolkombhdibcaaDoorW.PrintMore Go.Proofs.YtjolkombhdibcaaDoor.Given Go.Proofs.YtjolkombhdibcaaDoor.Print Go.Proofs.YtjolkombhdibcaaDoor.Sp
set_option linter.unusedVariables false
theorem awake_ev : Ev (fun _ => (casketlaw11_awake.f).bind fun t490 => (some t490)) true := Ev.bind0 awake_f (Ev.ret rfl)
theorem long_l1 (xs : List S30) (hx : xs.length ≤ 1000000) : ∀ (m i : Nat), xs.length - i ≤ m → i ≤ xs.length → Ev (fun k => casketlaw11_LexLong.l1 k xs xs (i : Int)) true := by
  intro m
  induction m with
  | zero =>
    intro i hm hi
    refine Ev.step (fun k => by rw [casketlaw11_LexLong.l1]) ?_
    exact Ev.no (by omega) awake_ev
  | succ m ih =>
    intro i hm hi
    refine Ev.step (fun k => by rw [casketlaw11_LexLong.l1]) ?_
    by_cases h : i < xs.length
    · refine Ev.yes (by omega) (Ev.yes (by omega) (Ev.yes (by omega) (Ev.no (by simp) ?_)))
      have e1 : wrap64 ((i : Int) + 1) = ((i + 1 : Nat) : Int) := wrapP (a := i) (b := 1) (by omega)
      rw [e1]
      exact ih (i + 1) (by omega) h
    · exact Ev.no (by omega) awake_ev
theorem allT_len (l : List UInt8) : (allT l).1.length ≤ l.length + 1 := by
  have h : ∀ (ys : List E) (acc : List S30), (col acc ys).1.length ≤ acc.length + ys.length := by
    intro ys
    induction ys with
    | nil => intro acc; simp [col]
    | cons y r ih =>
      intro acc
      obtain ⟨t, c, a⟩ := y
      rw [col]
      split
      · have := ih (acc ++ [t]); simp at this ⊢; omega
      · simp
  have h1 := h (seqT l) []
  have h2 := seq_le l
  unfold allT
  simp at h1
  omega
theorem long_end (n : Nat) (c : Int) (y : List Int) (hy : y.length = n) (hn : n ≤ 66000) :
    Ev (fun k => (lex_All.f (strOfNums y)).bind fun bt475 => (if (n : Int) > 65536 then (if (bt475.1.length : Int) = 0 then (if (bt475.2.1 == 2 && (bt475.2.2 == 0)) = true then ((casketlaw11_awake.f).bind fun t481 => (some t481)) else (some false)) else (some false)) else ((casketref11_All.f k (strOfNums y)).bind fun bt482 => (if (bt475.1.length : Int) = (bt482.1.length : Int) then (casketlaw11_LexLong.j2 k bt475.1 bt482.1 (!(bt475.2.1 == bt482.2.1) || (!(bt475.2.2 == bt482.2.2)))) else (casketlaw11_LexLong.j2 k bt475.1 bt482.1 true))))) true := by
  have hs : strOfNums y = bs (y.map fun n => UInt8.ofNat n.toNat) := rfl
  obtain ⟨L, hL⟩ : ∃ L : List UInt8, (y.map fun n => UInt8.ofNat n.toNat) = L := ⟨_, rfl⟩
  have hlen : L.length = n := by rw [← hL, List.length_map, hy]
  rw [hs, hL]
  refine Ev.bind0 (all_f L (by omega)) ?_
  have hl := allT_len L
  by_cases h : 65536 < n
  · have ha : allT L = ([], 2, 0) := by
      unfold allT seqT
      rw [if_pos (by omega)]
      rfl
    rw [ha]
    exact Ev.yes (by omega) (Ev.yes rfl (Ev.yes rfl awake_ev))
  · refine Ev.no (by omega) (Ev.bind (rall_ev L (by omega)) (Ev.yes rfl ?_))
    rw [beq_self_eq_true, beq_self_eq_true]
    refine Ev.step (fun k => by rw [casketlaw11_LexLong.j2]) ?_
    exact Ev.no (by simp) (long_l1 _ (by omega) _ 0 (Nat.le_refl _) (Nat.zero_le _))
theorem long_l0 (n : Nat) (c : Int) (h1 : 1 ≤ n) (hn : n ≤ 66000) : ∀ (m i : Nat) (xs : List Int), n - i ≤ m → i ≤ n → xs.length = n → Ev (fun k => casketlaw11_LexLong.l0 k (n : Int) c xs (i : Int)) true := by
  intro m
  have e0 : wrap64 ((n : Int) - 1) = ((n - 1 : Nat) : Int) := by rw [w64 (by omega) (by omega)]; omega
  have fin : ∀ (xs : List Int), xs.length = n → Ev (fun k => if 0 ≤ (wrap64 ((n : Int) - 1)) then (if (wrap64 ((n : Int) - 1)) < (xs.length : Int) then ((some (xs.set ((wrap64 ((n : Int) - 1)) : Int).toNat c : List Int)).bind fun y474 => ((lex_All.f (strOfNums y474)).bind fun bt475 => (if (n : Int) > 65536 then (if (bt475.1.length : Int) = 0 then (if (bt475.2.1 == 2 && (bt475.2.2 == 0)) = true then ((casketlaw11_awake.f).bind fun t481 => (some t481)) else (some false)) else (some false)) else ((casketref11_All.f k (strOfNums y474)).bind fun bt482 => (if (bt475.1.length : Int) = (bt482.1.length : Int) then (casketlaw11_LexLong.j2 k bt475.1 bt482.1 (!(bt475.2.1 == bt482.2.1) || (!(bt475.2.2 == bt482.2.2)))) else (casketlaw11_LexLong.j2 k bt475.1 bt482.1 true)))))) else (none)) else (none)) true := by
    intro xs hx
    rw [e0]
    refine Ev.yes (by omega) (Ev.yes (by omega) (Ev.bind0 rfl ?_))
    exact long_end n c _ (by rw [List.length_set]; exact hx) hn
  induction m with
  | zero =>
    intro i xs hm hi hx
    refine Ev.step (fun k => by rw [casketlaw11_LexLong.l0]) ?_
    exact Ev.no (by omega) (fin xs hx)
  | succ m ih =>
    intro i xs hm hi hx
    refine Ev.step (fun k => by rw [casketlaw11_LexLong.l0]) ?_
    by_cases h : i < n
    · refine Ev.yes (by omega) (Ev.yes (by omega) (Ev.yes (by omega) ?_))
      have e1 : wrap64 ((i : Int) + 1) = ((i + 1 : Nat) : Int) := wrapP (a := i) (b := 1) (by omega)
      rw [e1]
      exact ih (i + 1) _ (by omega) h (by rw [List.length_set]; exact hx)
    · exact Ev.no (by omega) (fin xs hx)
theorem long_j0 (n : Int) (c : Int) (b : Bool) (h : b = false → 65000 ≤ n ∧ n ≤ 66000) : Ev (fun k => casketlaw11_LexLong.j0 k n c b) true := by
  refine Ev.step (fun k => by rw [casketlaw11_LexLong.j0]) ?_
  cases b with
  | true => exact Ev.yes rfl (Ev.ret rfl)
  | false =>
    obtain ⟨h1, h2⟩ := h rfl
    obtain ⟨m, rfl⟩ := Int.eq_ofNat_of_zero_le (show 0 ≤ n by omega)
    refine Ev.no (by simp) (Ev.yes (by omega) (Ev.yes (by omega) ?_))
    rw [Int.toNat_natCast]
    exact long_l0 m c (by omega) (by omega) m 0 _ (Nat.sub_le _ _) (Nat.zero_le _) (by simp)
theorem LexLong : casketlaw11_LexLong.Pure := by
  intro n c _ _
  refine Ev.rounds (g := fun k => casketlaw11_LexLong.f k n c) ?_
  unfold casketlaw11_LexLong.f
  by_cases h1 : n < 65000
  · exact Ev.yes h1 (long_j0 n c true (fun h => by cases h))
  · refine Ev.no h1 ?_
    by_cases h2 : n > 66000
    · exact Ev.yes h2 (long_j0 n c true (fun h => by cases h))
    · have hj : ∀ b, Ev (fun k => casketlaw11_LexLong.j0 k n c b) true := fun b => long_j0 n c b (fun _ => by omega)
      refine Ev.no h2 ?_
      by_cases c1 : c = 32
      · exact Ev.yes c1 (hj false)
      · refine Ev.no c1 ?_
        by_cases c2 : c = 10
        · exact Ev.yes c2 (hj false)
        · refine Ev.no c2 ?_
          by_cases c3 : c = 97
          · exact Ev.yes c3 (hj false)
          · refine Ev.no c3 ?_
            by_cases c4 : c = 55
            · exact Ev.yes c4 (hj false)
            · refine Ev.no c4 ?_
              by_cases c5 : c = 34
              · exact Ev.yes c5 (hj false)
              · exact Ev.no c5 (hj _)
end Go.Proofs.YtjolkombhdibcaaDoor.Pure
namespace Go.Proofs.YtjolkombhdibcaaDoor.lexLong
open Go.ChangeShapes Go.WideShapes Go.ChangeAt Go.RowKit Go.Joins
open Go.ChangeMaps (open_string shut_string)
set_option linter.unusedVariables false
set_option maxRecDepth 100000 in
theorem lifted (os : Os) (started : os.Started) (H : Type) (enc : TypeId × Value → H) :
    ReturnsInHanded {} Tryd.checked os 4 .any (fun w args => (Rows.lexLongSpec.pre enc Tryd.prog Tryd.f4 [] false w args ∧ laidMetH Tryd.prog Laid.laid w) ∧ sizedMet enc Tryd.prog Tryd.f4 (OpenSpec.ofChange Rows.lexLongSpec) false w args) (Rows.lexLongSpec.post enc Tryd.prog Tryd.f4 false true false false) := by
  refine returnsInHanded_of_change_and (C := Tryd.checked) (X := fun w _ => laidMetH Tryd.prog Laid.laid w) (fun _ _ _ hh h => h.of_heap hh) Laid.own started (by kernel_rfl) Tryd.func4
    (ChangeSpec.witness_shaped (enc := enc) (C := Tryd.checked) (os := os) (X := fun w _ => laidMetH Tryd.prog Laid.laid w) false (World.doorLaid Tryd.prog 62 os) #[.int .i64 0, .int .u8 0] 8 rfl (World.shaped_of_RefB (by kernel_rfl) (by kernel_rfl)) (by kernel_rfl) (by kernel_rfl) (by kernel_rfl) (Laid.door_met os _)) ?_
  intro W base args ds gs before hval0 hW hcnd hsz0 hL _
  have hsz : (DataW.weightsEach Tryd.prog (Tryd.f4.params.toList ++ Rows.lexLongSpec.plain.varTypes Tryd.prog) (ds ++ gs)).all (· ≤ reachBytes) = true := hsz0
  have hval : ∀ (j : Nat) t v, Tryd.f4.params[j]? = some t → args[j]? = some v → Value.okWide Tryd.prog W .any base t v := hval0
  have hW' := hW
  obtain ⟨p, q, hA0, hV, rfl, hfz, hnd⟩ := hW
  have hA : DataW.TrodAll enc Tryd.prog W 0 (fun _ => true) true Tryd.f4.params.toList args.toList ds p := hA0
  rw [Tryd.params4] at hA hval hsz
  obtain ⟨v0, vs0, d0, ds0, p0, q0, hargs, rfl, rfl, h0, r0⟩ := trodAll_cons hA
  obtain ⟨v1, vs1, d1, ds1, p1, q1, rfl, rfl, rfl, h1, r1⟩ := trodAll_cons r0
  obtain ⟨rfl, rfl, rfl⟩ := trodAll_nil r1
  obtain rfl : args = #[v0, v1] := by cases args; simp_all
  obtain ⟨rfl, rfl⟩ := trodVars_none hV
  have hG : Given.Glob W := Laid.of_laid hL
  obtain ⟨a0, rfl, rfl, rfl, w0⟩ := open_int Tryd.underlying3 (hval 0 3 v0 rfl rfl) h0
  obtain ⟨a1, rfl, rfl, rfl, w1⟩ := open_int Tryd.underlying5 (hval 1 5 v1 rfl rfl) h1
  clear hA0 hval0 hsz0 hsz
  refine (Print.casketlaw11_LexLong.walk Pure.LexLong a0 a1 W hG w0 w1).mono fun e W' ⟨he, bel⟩ => ?_
  subst he
  exact ⟨_, rfl, _, _, _, [], _, [], hW', trodAll_mk1 (shut_bool Tryd.underlying4 _), (trodAll_cons_mk (shut_int Tryd.underlying3 w0) (trodAll_cons_mk (shut_int Tryd.underlying5 w1) trodAll_mk0)), rfl, bel.frame _, fun h => by cases h⟩
theorem over : Rows.lexLongRow.holds Tryd.pinned (OpenSpec.ofChange Rows.lexLongSpec) :=
  OpenClaim.holds_of_wide 4 Tryd.f4 rfl rfl rfl rfl rfl rfl rfl ⟨rfl, rfl, rfl, rfl, rfl⟩ rfl rfl rfl rfl rfl (by kernel_rfl) Tryd.func4 (by kernel_rfl)
    (of_decide_eq_true (by kernel_rfl)) (by unfold Func.isWrapper; first | (rw [if_pos (by decide +kernel)]; kernel_rfl) | (rw [if_neg (by decide +kernel)]; exact ⟨rfl, rfl⟩))
    (fun os started H enc _ => lifted os started H enc)
theorem card_holds : Rows.LexLongCardSaid :=
  Claim7.holds_tied_plain_at .later [] [.data, .data, .data, .sentinel, .sentinel] true (true, "431a033b8f36b9d9c52e85b2436dbd75d9d44333d6a5eb7a63f0f069f0875b74") true
    over (fun _ h => by cases h) (by kernel_rfl) (fun _ h => by cases h) lexLong_row_tie rfl ⟨rfl, rfl⟩ (by kernel_rfl) rfl
    (fun f fn hf hfn => by
      obtain rfl : f = 4 := Option.some.inj ((show Tryd.prog.funcNamed "casket/casketlaw11.LexLong" = some 4 by kernel_rfl).symm.trans hf) |>.symm
      obtain rfl : fn = Tryd.f4 := (Option.some.inj (Tryd.func4.symm.trans hfn)).symm
      exact ⟨by kernel_rfl, fun j t ht => by
        rw [Tryd.params4] at ht
        have hm : t ∈ [3, 5] := by simpa using Array.mem_of_getElem? ht
        have hall : ([3, 5].all fun u => !Tryd.prog.wantsStandIn u) = true := by kernel_rfl
        exact (show Tryd.prog.wantsStandIn t = false by simpa using List.all_eq_true.1 hall t hm)⟩)
    (by kernel_rfl)
#print axioms card_holds
end Go.Proofs.YtjolkombhdibcaaDoor.lexLong
namespace Go.Proofs.YtjolkombhdibcaaDoor
theorem lexLong_card : Rows.LexLongCardSaid := lexLong.card_holds
end Go.Proofs.YtjolkombhdibcaaDoor
end
