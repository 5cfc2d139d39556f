/- Chapter 5: what lies keeps; its invariant. -/
import Derived.Test.YtgimcpnelogadaaPlB
import Derived.Test.YtgimcpnelogadaaStM
import Derived.Test.YtgimcpnelogadaaFillsP
import Derived.Test.YtgimcpnelogadaaMemH
import Derived.Test.YtgimcpnelogadaaPlM
import Derived.Sort.CutIn
namespace Go.Proofs.Ytgimcpnelogadaa.Sto
open Go.RowKit Go.Proofs.Ytgimcpnelogadaa.Mem
set_option linter.unusedVariables false
set_option linter.unusedSimpArgs false
attribute [local go_sem] Oper.semAt_some

/-! Plain: how far the extents reach; the last one. -/
def endOf (l : List Ext) : Nat := l.foldl (fun e x => max e (x.at_ + x.len)) 0
theorem endOf_snoc (l : List Ext) (x : Ext) : endOf (l ++ [x]) = max (endOf l) (x.at_ + x.len) := by simp [endOf]
theorem endOf_le {l : List Ext} {b : Nat} (h : ∀ x ∈ l, x.at_ + x.len ≤ b) : endOf l ≤ b := by
  have : ∀ (l : List Ext) (e : Nat), e ≤ b → (∀ x ∈ l, x.at_ + x.len ≤ b) → l.foldl (fun e x => max e (x.at_ + x.len)) e ≤ b := by
    intro l
    induction l with
    | nil => intro e he _; exact he
    | cons x l ih => intro e he h; exact ih _ (Nat.max_le.2 ⟨he, h x (List.mem_cons_self ..)⟩) fun y hy => h y (List.mem_cons_of_mem _ hy)
  exact this l 0 (Nat.zero_le _) h
def lastAt (l : List Ext) : Int := match l.getLast? with | none => -1 | some x => x.at_
def lastId (l : List Ext) : Int := match l.getLast? with | none => 0 | some x => x.id
def lastLen (l : List Ext) : Int := match l.getLast? with | none => 0 | some x => x.len
theorem lies_end {l : List Ext} {x : Ext} (hs : (l ++ [x]).Pairwise Ext.lt) (ha : (l ++ [x]).Pairwise Ext.apart) (h0 : 0 < x.len) : endOf l ≤ x.at_ := by
  refine endOf_le fun y hy => ?_
  have h1 := (List.pairwise_append.1 hs).2.2 y hy x (by simp)
  have h2 := (List.pairwise_append.1 ha).2.2 y hy x (by simp)
  have h3 := Ext.lt_at h1
  have h4 := up_ge y.len
  have h5 := up_ge x.len
  by_cases c : y.len = 0
  · omega
  · have := h2 (by omega) h0; omega
theorem lies_last {l : List Ext} {x : Ext} (hs : (l ++ [x]).Pairwise Ext.lt) : lastAt l < (x.at_ : Int) ∨ (lastAt l = (x.at_ : Int) ∧ lastId l < (x.id : Int)) := by
  unfold lastAt lastId
  cases h : l.getLast? with
  | none => left; simp; omega
  | some y =>
    have h1 := (List.pairwise_append.1 hs).2.2 y (List.mem_of_getLast? h) x (by simp)
    unfold Ext.lt at h1
    simp only
    omega
theorem lies_prefix {l m : List Ext} {span : Nat} (h : Lay m span) (hp : l <+: m) : l.Pairwise Ext.lt ∧ l.Pairwise Ext.apart := ⟨h.sorted.sublist hp.sublist, h.apart.sublist hp.sublist⟩

theorem eqF_nil {P : Program} (w : World) (d : Nat) (t : TypeId) {ps rs : Array TypeId} {vd : Bool} (fn : Fn) (fi ca : Array Value) (h : P.underlying t = some (.func ps rs vd)) : (Op.equalIn (d + 1) t (.func fn fi ca) .nilFunc).run P w = .ok false w := by
  simp [Op.equalIn, run_underlying h]
theorem underSeq : ∃ ps rs vd, Try.prog.underlying 55 = some (.func ps rs vd) := by
  have h : (match Try.prog.underlying 55 with | some (.func _ _ _) => true | _ => false) = true := by kernel_rfl
  split at h
  · next a b c e => exact ⟨a, b, c, e⟩
  · exact absurd h (by simp)
theorem eqSeq_nil (w : World) (fn : Fn) (fi ca : Array Value) : (binOp .eql 55 (.func fn fi ca) .nilFunc).run Try.prog w = .ok (.bool false) w := by
  obtain ⟨_, _, _, h⟩ := underSeq
  simp only [binOp]
  simp [Op.equal, Op.maxDepth, eqF_nil w 9999 55 fn fi ca h]
/-- What lies has behind the extents pre. -/
structure LieI (w : World) (b p q : Nat) (pre : List Ext) (W : World) : Prop where
  b0 : Blk W b 23 [.pointer (some ⟨p, 0, none⟩)]
  b1 : Blk W (b + 1) 40 [.pointer (some ⟨q, 0, none⟩)]
  b2 : Blk W (b + 2) 29 [.slice none 0 0]
  b3 : Blk W (b + 3) 4 [.bool false]
  b4 : ∃ v, Blk W (b + 4) 29 [v] ∧ Row W 3 1 v pre.length (intsV (pre.map fun x => (x.id : Int))) ∧ ∀ g, v.ownBlock = some g → b + 8 ≤ g
  b5 : Blk W (b + 5) 3 [.int .i64 (endOf pre : Int)]
  b6 : Blk W (b + 6) 114 [.int .i64 (lastId pre), .int .i64 (lastAt pre), .int .i64 (lastLen pre)]
  chg : Chg [] w W
  top : b + 7 < W.heap.size

theorem row_own {X Y : World} {row : Option Nat} (hg : X.grownBy Y row) (hr : ∀ r, row = some r → ∃ o : Obj, X.heap[r]? = some o ∧ o.isCells = false) {t : TypeId} {size n : Nat} {v : Value} {xs : List Value} (h : Row X t size v n xs) : Row Y t size v n xs :=
  h.keep fun g hg' => by
    obtain ⟨cs, hb⟩ := h.typed hg'
    exact hg.block _ hb.lt (fun e => by
      obtain ⟨o, ho, hc⟩ := hr _ e.symm
      have := hb.symm.trans ho
      cases this
      cases hc)
theorem LieI.own {w : World} {b p q B : Nat} {β : Type} (f : β → List Ext) (hB : w.heap.size ≤ B) : OwnFrom B (fun s W => LieI w b p q (f s) W) := fun s X Y row h hg hr => by
  have k : ∀ {g : Nat} {t : TypeId} {cs : List Value}, Blk X g t cs → Blk Y g t cs := fun hb => blk_own (fun (_ : Unit) => _) (fun _ => _) (fun _ => _) () X Y row hb hg (fun r e => (hr r e).2)
  obtain ⟨v, h1, h2, h3⟩ := h.b4
  exact ⟨k h.b0, k h.b1, k h.b2, k h.b3, ⟨v, k h1, row_own hg (fun r e => (hr r e).2) h2, h3⟩, k h.b5, k h.b6, chg_own [] w hB () X Y row h.chg hg hr, Nat.lt_of_lt_of_le h.top hg.size⟩
theorem chg_keeps {A B : World} (h : Chg [] A B) : KeepsOthers A B := ⟨h.size, fun k o hk _ => h.obj hk (by simp)⟩
theorem LieI.next {w W W' : World} {b p q : Nat} {pre : List Ext} (h : LieI w b p q pre W) (hc : Chg [] W W') : LieI w b p q pre W' := by
  obtain ⟨v, h1, h2, h3⟩ := h.b4
  exact ⟨h.b0.chg hc (by simp), h.b1.chg hc (by simp), h.b2.chg hc (by simp), h.b3.chg hc (by simp), ⟨v, h1.chg hc (by simp), h2.chg hc (by simp), h3⟩, h.b5.chg hc (by simp), h.b6.chg hc (by simp), h.chg.then hc (by simp), Nat.lt_of_lt_of_le h.top hc.size⟩

theorem chg_keepsF {A B : World} {F : List Nat} (h : Chg F A B) (hF : ∀ k ∈ F, ∃ t cs, Blk A k t cs) : KeepsOthers A B := ⟨h.size, fun k o hk ho => h.obj hk fun hm => by
  obtain ⟨t, cs, hb⟩ := hF k hm
  have e := hk.symm.trans hb
  cases e
  cases ho⟩
/-- What a round of lies writes. -/
theorem LieI.round {w W W' : World} {b p q : Nat} {pre : List Ext} {v : Value} (h : LieI w b p q pre W) (h4b : Blk W (b + 4) 29 [v]) (h4r : Row W 3 1 v pre.length (intsV (pre.map fun x => (x.id : Int)))) {B : Nat} (hB : b + 7 < B)
    (hc : Chg ([b + 4, b + 5, b + 6] ++ v.ownBlock.toList) W W') : KeepsFrom B W W' ∧ KpE B W W' := by
  refine ⟨(chg_keepsF hc fun k hk => ?_).from _, fun k cs hk hb => hb.chg hc fun hm => ?_⟩
  · rcases List.mem_append.1 hk with hk | hk
    · simp at hk
      rcases hk with rfl | rfl | rfl
      · exact ⟨_, _, h4b⟩
      · exact ⟨_, _, h.b5⟩
      · exact ⟨_, _, h.b6⟩
    · obtain ⟨cs, hb⟩ := h4r.typed (Option.mem_toList.1 hk)
      exact ⟨_, _, hb⟩
  · rcases List.mem_append.1 hm with hm | hm
    · simp at hm; omega
    · obtain ⟨ds, hd⟩ := h4r.typed (Option.mem_toList.1 hm)
      exact absurd (hb.inj hd).1 (by decide)
/-- From the steps to the invariant. -/
theorem LieJ.lie {w W : World} {b p q E n : Nat} {last ids : List Value} {v : Value} {l : List Ext} (h : LieJ w b p q E last v n ids W) (hE : E = endOf l) (hl : last = [.int .i64 (lastId l), .int .i64 (lastAt l), .int .i64 (lastLen l)]) (hn : n = l.length)
    (hi : ids = intsV (l.map fun x => (x.id : Int))) : LieI w b p q l W := by
  subst hE hl hn hi
  exact ⟨h.b0, h.b1, h.b2, h.b3, ⟨v, h.b4, h.row, h.own⟩, h.b5, h.b6, h.chg, h.top⟩
theorem last_snoc (l : List Ext) (x : Ext) : lastId (l ++ [x]) = x.id ∧ lastAt (l ++ [x]) = x.at_ ∧ lastLen (l ++ [x]) = x.len := by simp [lastId, lastAt, lastLen]
theorem ids_snoc (l : List Ext) (x : Ext) : intsV ((l ++ [x]).map fun x => (x.id : Int)) = intsV (l.map fun x => (x.id : Int)) ++ [.int .i64 (x.id : Int)] := by simp [intsV]
end Go.Proofs.Ytgimcpnelogadaa.Sto
