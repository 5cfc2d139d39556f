/- Chapter 5's reference, by hand: Take, Give. -/
import Derived.Test.YtgimcpnelogadaaRefC
import Derived.Test.YtgimcpnelogadaaMemG
import Derived.Test.YtgimcpnelogadaaStU
namespace Go.Proofs.Ytgimcpnelogadaa.Sto
open Go.RowKit Go.Proofs.Ytgimcpnelogadaa.Mem
set_option linter.unusedVariables false
set_option linter.unusedSimpArgs false

theorem elemRX : Elem Try.prog 125 2 32 (.agg #[.int .i64 0, .slice none 0 0]) := Elem.of (by kernel_rfl) rfl (by intro v hv; simp [Value.cells] at hv; rcases hv with rfl | rfl <;> rfl) (by decide)

theorem refV_pre {X : List RX} {m j : Nat} {u : Value} (h : (refV (X.take m))[j]? = some u) : (refV X)[j]? = some u := by
  have e : refV X = refV (X.take m) ++ refV (X.drop m) := by rw [← refV_append, List.take_append_drop]
  rw [e]
  exact List.getElem?_append_left_some h
theorem refV_post {X : List RX} {m j : Nat} {u : Value} (hm : m ≤ X.length) (h : (refV (X.drop m))[j]? = some u) : (refV X)[m * 2 + j]? = some u := by
  have e : refV X = refV (X.take m) ++ refV (X.drop m) := by rw [← refV_append, List.take_append_drop]
  have hl : (refV (X.take m)).length = m * 2 := by rw [refV_length, List.length_take, Nat.min_eq_left hm]
  rw [e, List.getElem?_append_right (by omega), hl, Nat.add_sub_cancel_left]
  exact h
theorem refV_one (X : List RX) : ∀ u ∈ refV X, u.oneCell' = true := by
  intro u hu
  obtain ⟨x, _, hx⟩ := List.mem_flatMap.1 hu
  simp only [rxV, List.mem_cons, List.not_mem_nil, or_false] at hx
  rcases hx with rfl | rfl <;> rfl
theorem _root_.Go.Proofs.Ytgimcpnelogadaa.Mem.Blk.cast {w : World} {g : Nat} {t : TypeId} {cs ds : List Value} (h : Blk w g t cs) (e : cs = ds) : Blk w g t ds := e ▸ h
theorem Addr.add_add' (ad : Addr) (i j : Nat) : (ad.add i).add j = ad.add (i + j) := by
  unfold Addr.add
  split <;> split <;> simp_all <;> omega
/-- Rising Ids are at their place or above. -/
theorem rx_ge {X : List RX} (h : (X.map RX.id).Pairwise (· < ·)) : ∀ (j : Nat) (hj : j < X.length), j ≤ X[j].id
  | 0, _ => Nat.zero_le _
  | j + 1, hj => by
    have ih := rx_ge h j (by omega)
    have := List.pairwise_iff_getElem.1 h j (j + 1) (by simp; omega) (by simpa using hj) (Nat.lt_succ_self j)
    simp at this
    omega
theorem RefAt.drew {w : World} {q most : Nat} {X : List RX} {lv : Value} (h : RefAt w q X lv most) : RefAt w.drew q X lv most := h.keep fun _ _ => rfl
theorem RefAt.setMost {w : World} {q most m : Nat} {X : List RX} {lv : Value} (h : RefAt w q X lv most) (hm : m ≤ 1000000000000000) : RefAt (w.setCell ⟨q, 1, none⟩ (.int .i64 (m : Int))) q X lv m :=
  ⟨h.cells.set 1 _, h.row.farCell (p := ⟨q, 1, none⟩) h.q_row _, fun x hx => (h.bytes x hx).far (p := ⟨q, 1, none⟩) (h.q_bytes x hx) _, h.apart, h.sorted, ⟨h.small.1, h.small.2.1, hm⟩⟩
theorem RefAt.took {w w6 : World} {q most m nb n : Nat} {X : List RX} {lv v6 : Value} (h : RefAt w q X lv most) (hm : m ≤ X.length) (h1 : ∀ j (hj : j < X.length), j < m → X[j].id = j) (h2 : ∀ hi : m < X.length, X[m].id ≠ m) (hc : Chg [] w w6)
    (hr : Row w6 125 2 v6 (X.length + 1) (refV (X.take m) ++ rxV ⟨m, List.replicate n 0, nb⟩ ++ refV (X.drop m))) (hb : Blk w6 nb 5 (u8V (List.replicate n 0))) (hnb : w.heap.size ≤ nb) (hv : ∀ g, v6.ownBlock = some g → w.heap.size ≤ g) (hn : n ≤ 8388608) (hX : X.length ≤ 10000000) :
    RefAt (w6.setCell ⟨q, 0, none⟩ v6) q (X.take m ++ ⟨m, List.replicate n 0, nb⟩ :: X.drop m) v6 most := by
  have hq := h.cells.lt
  have hlen : (X.take m ++ (⟨m, List.replicate n 0, nb⟩ : RX) :: X.drop m).length = X.length + 1 := by simp; omega
  have hid : ∀ j (hj : j < X.length), m ≤ j → m < X[j].id := fun j hj hmj => by
    have a1 := rx_ge h.sorted m (by omega)
    have a2 := h2 (by omega)
    by_cases e : m = j
    · subst e; omega
    · have := h.rise (i := m) (j := j) (by omega) hj; omega
  refine ⟨(h.cells.chg hc (by simp)).set 0 v6, ?_, fun x hx => ?_, ?_, ?_, ?_⟩
  · rw [hlen, refV_append, refV_cons, ← List.append_assoc]
    exact hr.farCell (p := ⟨q, 0, none⟩) (fun e => by have := hv q e; omega) v6
  · rcases List.mem_append.1 hx with hx | hx
    · have := List.mem_of_mem_take hx
      exact ((h.bytes x this).chg hc (by simp)).far (p := ⟨q, 0, none⟩) (h.q_bytes x this) v6
    · rcases List.mem_cons.1 hx with rfl | hx
      · exact hb.far (p := ⟨q, 0, none⟩) (by show nb ≠ q; omega) v6
      · have := List.mem_of_mem_drop hx
        exact ((h.bytes x this).chg hc (by simp)).far (p := ⟨q, 0, none⟩) (h.q_bytes x this) v6
  · have hnot : nb ∉ X.map RX.blk := fun hx => by
      obtain ⟨x, hx, e⟩ := List.mem_map.1 hx
      have := (h.bytes x hx).lt
      omega
    have hp : ((X.take m ++ (⟨m, List.replicate n 0, nb⟩ : RX) :: X.drop m).map RX.blk).Perm (nb :: X.map RX.blk) := by
      have := (List.perm_middle (a := (⟨m, List.replicate n 0, nb⟩ : RX)) (l₁ := X.take m) (l₂ := X.drop m)).map RX.blk
      rwa [List.map_cons, List.take_append_drop] at this
    exact hp.nodup_iff.2 (List.nodup_cons.2 ⟨hnot, h.apart⟩)
  · have hs := h.sorted
    rw [← List.take_append_drop m X, List.map_append, List.pairwise_append] at hs
    rw [List.map_append, List.map_cons, List.pairwise_append, List.pairwise_cons]
    have hA : ∀ y ∈ (X.take m).map RX.id, y < m := fun y hy => by
      obtain ⟨x, hx, rfl⟩ := List.mem_map.1 hy
      obtain ⟨j, hj, rfl⟩ := List.getElem_of_mem hx
      rw [List.length_take] at hj
      rw [List.getElem_take, h1 j (by omega) (by omega)]
      omega
    have hB : ∀ y ∈ (X.drop m).map RX.id, m < y := fun y hy => by
      obtain ⟨x, hx, rfl⟩ := List.mem_map.1 hy
      obtain ⟨j, hj, rfl⟩ := List.getElem_of_mem hx
      rw [List.length_drop] at hj
      rw [List.getElem_drop]
      exact hid _ (by omega) (by omega)
    refine ⟨hs.1, ⟨hB, hs.2.1⟩, fun a ha b hb => ?_⟩
    rcases List.mem_cons.1 hb with rfl | hb
    · exact hA a ha
    · exact hs.2.2 a ha b hb
  · refine ⟨by rw [hlen]; omega, fun x hx => ?_, h.small.2.2⟩
    rcases List.mem_append.1 hx with hx | hx
    · exact h.small.2.1 x (List.mem_of_mem_take hx)
    · rcases List.mem_cons.1 hx with rfl | hx
      · exact ⟨by simp only; omega, by simpa using hn⟩
      · exact h.small.2.1 x (List.mem_of_mem_drop hx)
set_option maxRecDepth 100000 in
set_option maxHeartbeats 8000000 in
theorem rtake_ok {w : World} {q most : Nat} {X : List RX} {lv : Value} (h : RefAt w q X lv most) (hX : X.length ≤ 10000000) (n : Nat) (hn : n ≤ 8388608) :
    Calls Try.prog 70 #[.pointer (some ⟨q, 0, none⟩), .int .i64 (n : Int)] w fun e w' => ∃ (id nb : Nat) (lv' : Value), e = .returned (.tuple #[.int .i64 (id : Int), .int .i64 0]) ∧ id ≤ X.length ∧ (∀ j (hj : j < X.length), j < id → X[j].id = j) ∧ (∀ hi : id < X.length, X[id].id ≠ id) ∧
      RefAt w' q (X.take id ++ ⟨id, List.replicate n 0, nb⟩ :: X.drop id) lv' (max most (totalX X + up n)) ∧ Chg (rfoot q lv X) w w' ∧ (∀ g, lv'.ownBlock = some g → lv.ownBlock = some g ∨ w.heap.size ≤ g) ∧ w.heap.size ≤ nb := by
  have h0 := h.c0
  have H := Mem.Aside.mk h
  obtain ⟨a, c, rfl⟩ := Row_form h.row
  have hl := h.small.1
  clear h
  go_enter Try.func70, Try.ntmps70
  go_wp2
  go_loopw [6] (fun i wr => ∃ m : Nat, i = .int .i64 (m : Int) ∧ m ≤ X.length ∧ Mem.Aside (∀ j (hj : j < X.length), j < m → X[j].id = j) ∧ w = wr) (fun i _ => X.length - (intOf i).toNat)
  case atStart => exact ⟨0, rfl, Nat.zero_le _, ⟨fun j hj h => by omega⟩, rfl⟩
  case round =>
    obtain ⟨m, rfl, hm, HM, rfl⟩ := hrel
    have CF : Mem.Aside ((∀ hi : m < X.length, X[m].id ≠ m) → Calls Try.prog 116 #[.pointer (some ⟨q, 0, none⟩), .int .i64 (m : Int)] w fun e w' => (∃ b : Bool, e = .returned (.tuple #[.int .i64 (m : Int), .bool b])) ∧ Chg [] w w') := ⟨fun hne => by
      refine (rfind_calls H.out (m : Int) ⟨by omega, by omega⟩).mono ?_
      rintro e w' ⟨⟨k, b, rfl, k1, k2, k3, k4⟩, hc⟩
      have : k = m := by
        rcases Nat.lt_trichotomy k m with c | c | c
        · have h1 := HM.out k (by omega) c
          have h2 := k3 (by omega)
          omega
        · exact c
        · have h1 := k2 m (by omega) c
          have h2 := rx_ge H.out.sorted m (by omega)
          omega
      subst this
      exact ⟨⟨b, rfl⟩, hc⟩⟩
    have hwm := (IntWalk.i64_in ((m : Int) + 1) (by omega) : IntKind.i64.wrap ((m : Int) + 1) = ((m + 1 : Nat) : Int))
    obtain ⟨hcc, hsrc⟩ : X.length ≤ c ∧ (∀ ad, a = some ad → ∀ j u, (refV X)[j]? = some u → w.cell? (ad.add j) = some u) := by
      rcases H.out.row.cases with ⟨h1, h2, _⟩ | ⟨g, cap, rest, h1, hb, h2, _⟩
      · simp only [Value.slice.injEq] at h1; exact ⟨by omega, fun ad e => by rw [h1.1] at e; cases e⟩
      · cases h1
        exact ⟨h2, fun ad e j u hu => by cases e; rw [addr_add, Nat.zero_add]; exact hb.cellAt (List.getElem?_append_left_some (b := rest) hu)⟩
    have hnl : a = none → X.length = 0 ∧ c = 0 := fun e => by
      rcases H.out.row.cases with ⟨h1, h2, _⟩ | ⟨g, cap, rest, h1, _⟩
      · simp only [Value.slice.injEq] at h1; exact ⟨h2, h1.2.2⟩
      · cases h1; cases e
    have HSRC := Mem.Aside.mk hsrc
    have HNL := Mem.Aside.mk hnl
    clear hsrc hnl
    have hmc : (m : Int) ≤ (c : Int) := by omega
    have hmc' : m ≤ c := by omega
    have hmX : (m : Int) ≤ (X.length : Int) := by omega
    have hXc : (X.length : Int) ≤ (c : Int) := by omega
    by_cases ex : ∃ hd : m < X.length, X[m].id = m
    · obtain ⟨d, e⟩ := ex
      obtain ⟨g, cap, hac, e0, e1⟩ := H.out.ext d
      cases hac
      have d' : (m : Int) < (X.length : Int) := by omega
      rw [e] at e0
      go_wp2
      refine ⟨⟨m + 1, by go_num, by omega, ⟨fun j hj h => ?_⟩, trivial⟩, by simp [intOf]; omega⟩
      by_cases f : j = m
      · subst f; exact e
      · exact HM.out j hj (by omega)
    · have hne : ∀ hi : m < X.length, X[m].id ≠ m := fun hi e => ex ⟨hi, e⟩
      have CF' := Mem.Aside.mk (CF.out hne)
      have HNE := Mem.Aside.mk hne
      clear CF ex hne
      have hsp : X.length ≤ 10000000 := hX
      by_cases d : m < X.length
      case' pos =>
        obtain ⟨g, cap, hac, e0, e1⟩ := H.out.ext d
        cases hac
        have d' : (m : Int) < (X.length : Int) := by omega
        have e' : ((X[m].id : Int) == (m : Int)) = false := by simpa using fun h => HNE.out d (by omega)
        obtain ⟨Z, hZ⟩ : ∃ Z, Z = X[m].id := ⟨_, rfl⟩
        rw [← hZ] at e0 e'
        clear hZ e1
        go_upto_region 8 with fail
        generalize (some (⟨g, 0, none⟩ : Addr)) = a at h0 H HSRC HNL ⊢
        clear d' e' e0
      case' neg =>
        have d' : decide ((m : Int) < (X.length : Int)) = false := decide_eq_false (by omega)
        go_upto_region 8 with fail
        clear d'
      all_goals
        clear d
        go_upto_region 11 with (first
          | (go_at_call 116; (with_reducible refine CF'.out.mono ?_); rintro e w1 ⟨⟨b, rfl⟩, hc1⟩
             have HC1 := Mem.Aside.mk hc1
             have h1 := (H.out.chg (hc1.alloc (.cells #[] 125)) (by simp)).c0
             have R0 : Row (w1.alloc (.cells #[] 125)) 125 2 (.slice (some ⟨w1.heap.size, 0, none⟩) 0 0) 0 [] := Row.mk (rest := []) (Blk.newL [] rfl) rfl (Nat.le_refl _) (by omega) rfl
             obtain ⟨v2, w2, hr2, hR2, hC2, hO2⟩ := R0.append2 (c := c) Try.underlying41 elemRX (ad := a) (m := m) (news := refV (X.take m)) (by rw [refV_length, List.length_take]; congr 1; omega) (fun e => by have := (HNL.out e).1; omega) (fun ad e j u hu => cell_chg (hc1.alloc _) (HSRC.out ad e j u (refV_pre hu)) (by simp)) (refV_one _) (by omega) (by omega)
             have HR2 := Mem.Aside.mk hR2
             have HC2 : Mem.Aside (Chg [] w w2) := ⟨(hc1.alloc _).then hC2 (fun x hx => .inr (by simp [Value.ownBlock] at hx; subst hx; exact hc1.size))⟩
             have HO2 : Mem.Aside (∀ g, v2.ownBlock = some g → w.heap.size ≤ g) := ⟨fun g hg => by have := hc1.size; rcases hO2 with e | e <;> rw [e] at hg <;> simp [Value.ownBlock] at hg <;> omega⟩
             have HRUN2 := Mem.Aside.mk hr2
             clear hc1 R0 hr2 hR2 hC2 hO2 h0)
          | (at_builtin; refine wpList_builtin2 _ (by rfl) .append _ _ _ (by rfl) _ _ (by rfl) (by rfl) _ _ (HRUN2.out _) ?_; clear HRUN2 h1)
          | (at_make; refine wpList_make1 (z := .int .u8 0) rfl _ _ rfl Try.underlying57 elemU8 rfl n rfl rfl (by omega) (by omega) ?_
             intro w3 hb3 hc3 hs3
             obtain ⟨nb, hnb⟩ : ∃ nb, nb = w2.heap.size := ⟨_, rfl⟩
             rw [← hnb] at hb3 ⊢
             have HB3 := Mem.Aside.mk hb3
             have HC3 : Mem.Aside (Chg [] w (w3.alloc (.cells #[.int .i64 (m : Int), .slice (some ⟨nb, 0, none⟩) n n] 125))) := ⟨(HC2.out.then hc3 (by simp)).alloc _⟩
             have R3 := (HR2.out.chg hc3 (by simp)).alloc (.cells #[.int .i64 (m : Int), .slice (some ⟨nb, 0, none⟩) n n] 125)
             obtain ⟨v5, w5, hr5, hR5, hC5, hO5⟩ := R3.append (c := 1) Try.underlying41 elemRX (m := 1) (news := rxV ⟨m, List.replicate n 0, nb⟩) (ad := ⟨w3.heap.size, 0, none⟩) rfl ((Blk.newL [.int .i64 (m : Int), .slice (some ⟨nb, 0, none⟩) n n] rfl).from (fun j u hu => by rw [Nat.zero_add]; simpa [rxV] using hu)) (by intro u hu; simp [rxV] at hu; rcases hu with rfl | rfl <;> rfl) (by omega) (by omega)
             have HR5 := Mem.Aside.mk hR5
             have HC5 : Mem.Aside (Chg [] w w5) := ⟨HC3.out.then hC5 (fun x hx => .inr (HO2.out x (Option.mem_toList.1 hx)))⟩
             have hnb5 : nb ∉ v2.ownBlock.toList := fun hm => by have := HR2.out.lt (Option.mem_toList.1 hm); omega
             have HB5 : Mem.Aside (Blk w5 nb 5 (u8V (List.replicate n 0))) := ⟨((hb3.alloc _).chg hC5 hnb5).cast (by simp [u8V])⟩
             have HO5 : Mem.Aside (∀ g, v5.ownBlock = some g → w.heap.size ≤ g ∧ g ≠ nb) := ⟨fun g hg => by
               rcases hO5 with e | e
               · rw [e] at hg
                 exact ⟨HO2.out g hg, fun e2 => hnb5 (Option.mem_toList.2 (e2 ▸ hg))⟩
               · rw [e] at hg
                 have h1 := Option.some.inj hg
                 have h2 := HC2.out.size
                 simp at h1
                 exact ⟨by omega, by omega⟩⟩
             have HNBW : Mem.Aside (w.heap.size ≤ nb) := ⟨by have := HC2.out.size; omega⟩
             have h5 := (H.out.chg HC5.out (by simp)).c0
             have HRUN5 := Mem.Aside.mk hr5
             clear hb3 hc3 hs3 R3 hr5 hR5 hC5 hO5 HC1 HB3 HC3 hnb hnb5)
          | (at_builtin; refine wpList_builtin2 _ (by rfl) .append _ _ _ (by rfl) _ _ (by rfl) (by rfl) _ _ (HRUN5.out _) ?_; clear HRUN5))
        rw [Nat.zero_add, List.nil_append] at HR5
        have f5 := ((H.out.chg HC5.out (by simp)).cells.frozen 0)
        by_cases hcm : c = m
        case' pos =>
          have hXm : X.length - m = 0 := by omega
          obtain ⟨v6, w6, hr6, hR6, hC6, hO6⟩ := HR5.out.append2 (c := 0) Try.underlying41 elemRX (ad := a) (m := X.length - m) (news := refV (X.drop m)) (by rw [refV_length, List.length_drop]) (fun _ => hXm) (fun _ _ _ _ hu => by rw [List.drop_eq_nil_of_le (by omega)] at hu; simp [refV] at hu) (refV_one _) (by omega) (by omega)
          rw [show m + 1 + (X.length - m) = X.length + 1 by omega] at hR6
          clear hXm
        case' neg =>
          obtain ⟨ad, rfl⟩ : ∃ ad, a = some ad := by
            cases a with
            | some ad => exact ⟨ad, rfl⟩
            | none => have := HNL.out rfl; omega
          obtain ⟨v6, w6, hr6, hR6, hC6, hO6⟩ := HR5.out.append2 (c := c - m) Try.underlying41 elemRX (ad := some (ad.add (m * 2))) (m := X.length - m) (news := refV (X.drop m)) (by rw [refV_length, List.length_drop]) (fun e => by cases e) (fun a' e j u hu => by cases e; rw [Addr.add_add']; exact cell_chg HC5.out (HSRC.out ad rfl _ u (refV_post (by omega) hu)) (by simp)) (refV_one _) (by omega) (by omega)
          rw [show m + 1 + (X.length - m) = X.length + 1 by omega] at hR6
        all_goals
          obtain ⟨a6, c6, rfl⟩ := Row_form hR6
          have HRUN6 := Mem.Aside.mk hr6
          have HR6 := Mem.Aside.mk hR6
          have HC6 : Mem.Aside (Chg [] w w6) := ⟨HC5.out.then hC6 (fun x hx => .inr (HO5.out x (Option.mem_toList.1 hx)).1)⟩
          have HB6 := Mem.Aside.mk (HB5.out.chg hC6 (fun hm => (HO5.out nb (Option.mem_toList.1 hm)).2 rfl))
          have HO6 : Mem.Aside (∀ g, (Value.slice a6 (X.length + 1) c6).ownBlock = some g → w.heap.size ≤ g) := ⟨fun g hg => by
            rcases hO6 with e | e
            · rw [e] at hg; exact (HO5.out g hg).1
            · rw [e] at hg; have h1 := Option.some.inj hg; have h2 := HC5.out.size; omega⟩
          have f6 := (H.out.chg HC6.out (by simp)).cells.frozen 0
          have h6 := (H.out.chg HC6.out (by simp)).c0
          have H7 := Mem.Aside.mk (H.out.took hm HM.out HNE.out HC6.out HR6.out HB6.out HNBW.out HO6.out hn hX)
          clear hr6 hR6 hC6 hO6 HR2 HC2 HO2 HB5 HO5 HR5 HB6 HR6
          go_upto_region 12 with (at_builtin; refine wpList_builtin2 _ (by rfl) .append _ _ _ (by rfl) _ _ (by rfl) (by rfl) _ _ (HRUN6.out _) ?_)
          have hT : totalX (X.take m ++ ⟨m, List.replicate n 0, nb⟩ :: X.drop m) = totalX X + up n := by
            have e : totalX X = totalX (X.take m) + totalX (X.drop m) := by rw [← totalX_append, List.take_append_drop]
            rw [totalX_append, e]
            simp [totalX]
            omega
          have hTb : totalX X + up n ≤ 100000000000000 := by
            have h1 := totalX_le X (fun x hx => (H.out.small.2.1 x hx).2)
            have h2 := up_le n
            omega
          have HC7 : Mem.Aside (Chg [q] w (w6.setCell ⟨q, 0, none⟩ (.slice a6 (X.length + 1) c6))) := ⟨(HC6.out.mono (by simp)).setCell (p := ⟨q, 0, none⟩) (.inl (by simp)) _⟩
          generalize w6.setCell ⟨q, 0, none⟩ (.slice a6 (X.length + 1) c6) = W7 at H7 HC7 ⊢
          clear h6 f6 h5 f5
          obtain ⟨T, hTT⟩ : ∃ T, T = totalX X + up n := ⟨_, rfl⟩
          have CU := Mem.Aside.mk (fun W (h : RefAt W q (X.take m ++ ⟨m, List.replicate n 0, nb⟩ :: X.drop m) (.slice a6 (X.length + 1) c6) most) => rused_calls h)
          rw [hT] at CU
          rw [← hTT] at CU hTb
          have HTT := Mem.Aside.mk hTT
          have m1 := H7.out.c1
          have m1' := H7.out.drew.c1
          have fm1 := H7.out.drew.cells.frozen 1
          have hmo := H7.out.small.2.2
          clear hT hTT
          refine region_tail 6 (by kernel_rfl) (by kernel_rfl) ?_
          simp only [List.take_succ_cons, List.take_zero, List.drop_succ_cons, List.drop_zero]
          repeat (first | still_step | still_call (calls_same (CU.out _ H7.out.drew)))
          refine wpStill_nil ?_
          by_cases big : most < T
          · have big' : (most : Int) < (T : Int) := by omega
            go_wp2_with (go_at_call 76; (with_reducible refine (CU.out _ H7.out.drew).mono ?_); rintro e w8 ⟨rfl, rfl⟩)
            go_ret2
            rw [← HTT.out, Nat.max_eq_right (by omega)]
            exact ⟨m, nb, _, rfl, hm, HM.out, HNE.out, H7.out.drew.setMost (by omega), ((HC7.out.drew).setCell (p := ⟨q, 1, none⟩) (.inl (by simp)) _).mono (fun x hx => mem_rfoot.2 (.inl (by simpa using hx))), fun g hg => .inr (HO6.out g hg), HNBW.out⟩
          · have big' : (T : Int) ≤ (most : Int) := by omega
            go_wp2
            go_ret2
            rw [← HTT.out, Nat.max_eq_left (by omega)]
            exact ⟨m, nb, _, rfl, hm, HM.out, HNE.out, H7.out.drew, HC7.out.drew.mono (fun x hx => mem_rfoot.2 (.inl (by simpa using hx))), fun g hg => .inr (HO6.out g hg), HNBW.out⟩
end Go.Proofs.Ytgimcpnelogadaa.Sto
