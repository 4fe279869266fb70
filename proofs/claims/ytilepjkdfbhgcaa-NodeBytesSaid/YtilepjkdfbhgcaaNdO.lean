/- The document's Right, the law's of by contract. -/
import Derived.Test.YtilepjkdfbhgcaaNdN
namespace Go.Proofs.Ytilepjkdfbhgcaa
open Go.RowKit Go.Shelf

theorem rightN_rising {lv : Int} {ks vs : List Int} (h : 0 ≤ lv ∧ lv ≤ 20 ∧ 1 ≤ ks.length ∧ ks.length ≤ 7) : rightN lv ks vs = risingN ks vs := by
  unfold rightN risingN
  by_cases e : ks.length = vs.length
  · rw [decide_eq_true ⟨h.1, h.2.1, e, h.2.2.1, h.2.2.2⟩, decide_eq_true e]
  · rw [decide_eq_false (fun g => e g.2.2.1), decide_eq_false e]
theorem rightN_no {lv : Int} {ks vs : List Int} (h : ¬ (0 ≤ lv ∧ lv ≤ 20 ∧ 1 ≤ ks.length ∧ ks.length ≤ 7)) : rightN lv ks vs = false := by
  unfold rightN
  rw [decide_eq_false (fun g => h ⟨g.1, g.2.1, g.2.2.2.1, g.2.2.2.2⟩), Bool.false_and]

set_option maxRecDepth 20000 in
set_option maxHeartbeats 1000000 in
theorem dright_any (lv : Int) (a a' : Option Addr) (n m c c' : Nat) (ks vs : List Int) (w : World) (hk : IS w w.heap.size a n ks) (hv : IS w w.heap.size a' m vs) :
    Calls Try.prog 11 #[.agg #[.int .i64 lv, .slice a n c, .slice a' m c']] w fun e w' => e = .returned (.bool (rightN lv ks vs)) ∧ Below w.heap.size w w' := by
  have HLK := mkHid hk.len
  obtain ⟨W, hW⟩ : ∃ W, w.alloc (.cells #[.int .i64 lv, .slice a n c, .slice a' m c'] 24) = W := ⟨_, rfl⟩
  have HAL := mkHid (show Below w.heap.size w W by rw [← hW]; exact (Below.refl _ _).alloc (Nat.le_refl _) _)
  have HKS := mkHid ((hk.below HAL.out).more HAL.out.size)
  have HVS := mkHid ((hv.below HAL.out).more HAL.out.size)
  have hQ : W.heap[w.heap.size]? = some (.cells #[.int .i64 lv, .slice a n c, .slice a' m c'] 24) := by rw [← hW]; exact heap_alloc_new _ _
  have k0 := cell_of_row W w.heap.size 0 _ _ _ hQ
  have k1 := cell_of_row W w.heap.size 1 _ _ _ hQ
  have k2 := cell_of_row W w.heap.size 2 _ _ _ hQ
  simp at k0 k1 k2
  clear hk hv hQ
  by_cases h1 : lv < 0
  · have HV := mkHid (show rightN lv ks vs = false from rightN_no (by omega))
    go_enter Try.func11, Try.ntmps11
    go_wp2_with fail
    go_ret
    exact ⟨ret_bool HV.out.symm, HAL.out⟩
  have g1 : 0 ≤ lv := by omega
  by_cases h2 : 20 < lv
  · have HV := mkHid (show rightN lv ks vs = false from rightN_no (by omega))
    go_enter Try.func11, Try.ntmps11
    go_wp2_with fail
    go_ret
    exact ⟨ret_bool HV.out.symm, HAL.out⟩
  have g2 : lv ≤ 20 := by omega
  by_cases h4 : n < 1
  · have HV := mkHid (show rightN lv ks vs = false from rightN_no (by rw [HLK.out]; omega))
    go_enter Try.func11, Try.ntmps11
    go_wp2_with fail
    go_ret
    exact ⟨ret_bool HV.out.symm, HAL.out⟩
  have g4 : 1 ≤ n := by omega
  by_cases h5 : 7 < n
  · have HV := mkHid (show rightN lv ks vs = false from rightN_no (by rw [HLK.out]; omega))
    go_enter Try.func11, Try.ntmps11
    go_wp2_with fail
    go_ret
    exact ⟨ret_bool HV.out.symm, HAL.out⟩
  have g5 : n ≤ 7 := by omega
  have HV := mkHid (show rightN lv ks vs = risingN ks vs from rightN_rising (by rw [HLK.out]; omega))
  clear h1 h2 h4 h5
  go_enter Try.func11, Try.ntmps11
  go_wp2_with fail
  refine (rising_any lv a a' n m c c' ks vs W HKS.out HVS.out (by omega)).mono ?_
  rintro e w2 ⟨rfl, hb⟩
  have HB := mkHid (HAL.out.trans (hb.mono HAL.out.size))
  clear hb
  go_wp2_with fail
  go_ret
  exact ⟨ret_bool HV.out.symm, HB.out⟩

theorem own_empty {w : World} {k base : Nat} {e : TypeId} (hk : w.heap[k]? = some (.cells #[] e (0, 0))) (hb : base ≤ k) : w.ownsRow base e 1 (.slice (some ⟨k, 0, none⟩) 0 0) 0 [] :=
  ⟨rfl, .inr ⟨k, 0, #[], rfl, hb, hk, Nat.le_refl _, Nat.zero_le _, rfl, rfl⟩⟩
/-- An operation's own law for append, for a region that draws its order. -/
theorem step_app {P : Program} (w : World) {ops : Array Oper} {o : Oper} {a : Act} {K : Act → World → Prop} {Q : Exit → Act → World → Prop} {E : Prop} (hgd : o.guard = none) (s x : Operand) (t : TypeId)
    (ho : o.op = .call { callee := .builtin .append, args := #[s, x], argTypes := #[t, t] })
    (base : Nat) {e : TypeId} {size bytes : Nat} (he : ElemOk P t e size bytes) (A : Option Addr) (n c : Nat) (xs : List Value) (hs : a.eval s = .slice A n c) (hown : w.ownsRow base e size (.slice A n c) n xs)
    (B : Nat) (A2 : Option Addr) (m c2 : Nat) (news : List Value) (hx : a.eval x = .slice A2 m c2) (hr : SL w B size A2 m news) (h1 : ∀ u ∈ news, u.oneCell' = true)
    (h63 : n + m ≤ maxLen) (hbytes : (n + m) * bytes ≤ 140737488355328) (hbase : base ≤ w.heap.size)
    (h : ∀ A' c' w', w'.ownsRow base e size (.slice A' (n + m) c') (n + m) (xs ++ news) → w.grownBy w' (Value.slice A n c).ownBlock →
      ((Value.slice A' (n + m) c').ownBlock = (Value.slice A n c).ownBlock ∨ (Value.slice A' (n + m) c').ownBlock = some w.heap.size) → K (a.put o.dst (.slice A' (n + m) c')) w') :
    if Region.wanted o (yielded ops a.tmps) = true then Oper.wp P o a w K Q else E := by
  have hw : Region.wanted o (yielded ops a.tmps) = true := by simp [Region.wanted, hgd]
  rw [if_pos hw]
  obtain ⟨A', c', w', hrun, h2, h3, h4⟩ := run_app (P := P) w base (ty := o.type) he A n c xs hown B A2 m c2 news hr h1 h63 hbytes hbase
  unfold Oper.wp execOp
  simp only [ho, resolve, invoke, builtin, Sem.run_bind, Sem.run_pure, Result.andThen_ok, List.map_toArray, List.map_cons, List.map_nil, hs, hx, hrun]
  exact h A' c' w' h2 h3 h4
/-- The same onto an empty row. -/
theorem step_app0 {P : Program} (w : World) {ops : Array Oper} {o : Oper} {a : Act} {K : Act → World → Prop} {Q : Exit → Act → World → Prop} {E : Prop} (hgd : o.guard = none) (s x : Operand) (t : TypeId)
    (ho : o.op = .call { callee := .builtin .append, args := #[s, x], argTypes := #[t, t] })
    (base : Nat) {e : TypeId} {bytes : Nat} (he : ElemOk P t e 1 bytes) (k : Nat) (hs : a.eval s = .slice (some ⟨k, 0, none⟩) 0 0) (hk : w.heap[k]? = some (.cells #[] e (0, 0))) (hb : base ≤ k)
    (B : Nat) (A2 : Option Addr) (m c2 : Nat) (news : List Value) (hx : a.eval x = .slice A2 m c2) (hr : SL w B 1 A2 m news) (h1 : ∀ u ∈ news, u.oneCell' = true)
    (h63 : m ≤ maxLen) (hbytes : m * bytes ≤ 140737488355328) (hbase : base ≤ w.heap.size)
    (h : ∀ A' c' w', w'.ownsRow base e 1 (.slice A' m c') m news → w.grownBy w' (some k) →
      ((Value.slice A' m c').ownBlock = some k ∨ (Value.slice A' m c').ownBlock = some w.heap.size) → K (a.put o.dst (.slice A' m c')) w') :
    if Region.wanted o (yielded ops a.tmps) = true then Oper.wp P o a w K Q else E :=
  step_app w hgd s x t ho base he (some ⟨k, 0, none⟩) 0 0 [] hs (own_empty hk hb) B A2 m c2 news hx hr h1 (by omega) (by rw [Nat.zero_add]; exact hbytes) hbase fun A' c' w' h2 h3 h4 => by
    rw [Nat.zero_add] at h2 h4 ⊢
    exact h A' c' w' h2 h3 h4
theorem own_empty0 {B : Nat} (k : Nat) (h : B ≤ k) : ∀ g, (Value.slice (some ⟨k, 0, none⟩) 0 0).ownBlock = some g → B ≤ g := fun g hg => by
  have h1 : k = g := by injection hg
  omega
theorem lof_keep {w3 w4 : World} {base n C3 : Nat} {e : TypeId} {A3 : Option Addr} {xs : List Value} {o : Obj} (h : w3.ownsRow base e 1 (.slice A3 n C3) n xs) (hg : (w3.alloc o).grownBy w4 (some w3.heap.size)) : w4.ownsRow base e 1 (.slice A3 n C3) n xs :=
  own_blk h fun g hg' => (hg.block g (by have := (h.lt g hg').2; simp; omega) (fun e => by injection e with e; have := (h.lt g hg').2; omega)).trans (Below.heap_alloc _ _ _ (h.lt g hg').2)
theorem heap_two (W : World) (o o' : Obj) : ((W.alloc o).alloc o').heap[W.heap.size + 1]? = some o' := by
  have h := heap_alloc_new (W.alloc o) o'
  rwa [show (W.alloc o).heap.size = W.heap.size + 1 by simp] at h
theorem drew_heap (w : World) : w.drew.heap = w.heap := rfl
theorem ne_two {o : Option Nat} {k s g : Nat} (h : o = some k ∨ o = some s) (h1 : k ≠ g) (h2 : s ≠ g) : o ≠ some g := fun e => by
  rcases h with h | h
  · rw [h] at e; injection e with e; exact h1 e
  · rw [h] at e; injection e with e; exact h2 e
theorem lof_keep2 {w3 w3' w4 : World} {base n C3 k : Nat} {e : TypeId} {A3 : Option Addr} {xs : List Value} (h : w3.ownsRow base e 1 (.slice A3 n C3) n xs) (hg : w3'.grownBy w4 (some k)) (hne : (Value.slice A3 n C3).ownBlock ≠ some k) (hh : w3'.heap = w3.heap := by rfl) : w4.ownsRow base e 1 (.slice A3 n C3) n xs :=
  own_blk h fun g hg' => (hg.block g (by rw [hh]; exact (h.lt g hg').2) (fun e => hne (hg'.trans e))).trans (by rw [hh])
theorem below_gr {W w1 w2 : World} {row : Option Nat} (h : Below W.heap.size W w1) (hg : w1.grownBy w2 row) (hr : ∀ g, row = some g → W.heap.size ≤ g) : Below W.heap.size W w2 := h.grown hg h.size hr
theorem below_al {w w' : World} (h : Below w.heap.size w w') (o : Obj) : Below w.heap.size w (w'.alloc o) := h.alloc h.size o
set_option maxRecDepth 20000 in
set_option maxHeartbeats 1000000 in
theorem lof_any (lv : Int) (a a' : Option Addr) (n m c c' : Nat) (ks vs : List Int) (w : World) (hk : IS w w.heap.size a n ks) (hv : IS w w.heap.size a' m vs) (hn : n ≤ 1000000) (hm : m ≤ 1000000) :
    Calls Try.prog 14 #[.agg #[.int .i64 lv, .slice a n c, .slice a' m c']] w (RetN w lv ks vs) := by
  have HLK := mkHid hk.len
  have HLV := mkHid hv.len
  obtain ⟨W, hW⟩ : ∃ W, (w.alloc (.cells #[.int .i64 lv, .slice a n c, .slice a' m c'] 24)).alloc (.cells #[.int .i64 0, .slice none 0 0, .slice none 0 0] 32) = W := ⟨_, rfl⟩
  have HAL := mkHid (show Below w.heap.size w W by rw [← hW]; exact ((Below.refl _ _).alloc (Nat.le_refl _) _).alloc (by simp) _)
  have HKS := mkHid ((hk.below HAL.out).more HAL.out.size)
  have HVS := mkHid ((hv.below HAL.out).more HAL.out.size)
  have HSZ := mkHid (show W.heap.size = w.heap.size + 1 + 1 by rw [← hW]; simp)
  have HRX := mkHid (show W.heap[w.heap.size + 1]? = some (.cells #[.int .i64 0, .slice none 0 0, .slice none 0 0] 32) by rw [← hW]; have := heap_alloc_new (w.alloc (.cells #[.int .i64 lv, .slice a n c, .slice a' m c'] 24)) (.cells #[.int .i64 0, .slice none 0 0, .slice none 0 0] 32); simpa using this)
  have HKR := mkHid (show ∀ Z, Below W.heap.size W Z → Z.heap[w.heap.size + 1]? = some (.cells #[.int .i64 0, .slice none 0 0, .slice none 0 0] 32) from fun Z hZ => (hZ.block _ (by rw [HSZ.out]; omega)).trans HRX.out)
  have HKZ := mkHid (show ∀ Z, Below W.heap.size W Z → (Z.cell? ⟨w.heap.size + 1, 0, none⟩ = some (.int .i64 0) ∧ Z.cell? ⟨w.heap.size + 1, 1, none⟩ = some (.slice none 0 0) ∧ Z.cell? ⟨w.heap.size + 1, 2, none⟩ = some (.slice none 0 0) ∧ Z.frozen? ⟨w.heap.size + 1, 0, none⟩ = false ∧ Z.frozen? ⟨w.heap.size + 1, 1, none⟩ = false ∧ Z.frozen? ⟨w.heap.size + 1, 2, none⟩ = false) from fun Z hZ =>
    have h := HKR.out Z hZ
    ⟨cell_of_row Z (w.heap.size + 1) 0 _ _ _ h, cell_of_row Z (w.heap.size + 1) 1 _ _ _ h, cell_of_row Z (w.heap.size + 1) 2 _ _ _ h, frozen_of_row Z (w.heap.size + 1) 0 _ _ h, frozen_of_row Z (w.heap.size + 1) 1 _ _ h, frozen_of_row Z (w.heap.size + 1) 2 _ _ h⟩)
  have HSET := mkHid (show ∀ (Z : World) (x y z : Value), Below w.heap.size w Z → Below w.heap.size w (((Z.setCell ⟨w.heap.size + 1, 0, none⟩ x).setCell ⟨w.heap.size + 1, 1, none⟩ y).setCell ⟨w.heap.size + 1, 2, none⟩ z) from fun Z x y z hZ =>
    ((hZ.setCell (p := ⟨w.heap.size + 1, 0, none⟩) (by show w.heap.size ≤ w.heap.size + 1; omega) _).setCell (p := ⟨w.heap.size + 1, 1, none⟩) (by show w.heap.size ≤ w.heap.size + 1; omega) _).setCell (p := ⟨w.heap.size + 1, 2, none⟩) (by show w.heap.size ≤ w.heap.size + 1; omega) _)
  have hQ : W.heap[w.heap.size]? = some (.cells #[.int .i64 lv, .slice a n c, .slice a' m c'] 24) := by rw [← hW]; exact (Below.heap_alloc _ _ _ (by simp)).trans (heap_alloc_new _ _)
  have HK := mkHid (show ∀ Z, Below W.heap.size W Z → (Z.cell? ⟨w.heap.size, 0, none⟩ = some (.int .i64 lv) ∧ Z.cell? ⟨w.heap.size, 1, none⟩ = some (.slice a n c) ∧ Z.cell? ⟨w.heap.size, 2, none⟩ = some (.slice a' m c')) from fun Z hZ =>
    have h := (hZ.block _ (Array.getElem?_eq_some_iff.1 hQ).1).trans hQ
    ⟨cell_of_row Z w.heap.size 0 _ _ _ h, cell_of_row Z w.heap.size 1 _ _ _ h, cell_of_row Z w.heap.size 2 _ _ _ h⟩)
  go_enter Try.func14, Try.ntmps14
  go_wp2_with fail
  clear hW
  go_region_held3 (fun Z => Z.cell? ⟨w.heap.size, 0, none⟩ = some (.int .i64 lv) ∧ Z.cell? ⟨w.heap.size, 1, none⟩ = some (.slice a n c) ∧ Z.cell? ⟨w.heap.size, 2, none⟩ = some (.slice a' m c')) (first | exact HK.out _ (by first | exact HBV.out | exact HBA.out | exact below_al HBA.out _ | exact HBA.out.drew | exact (below_al HBA.out _).drew | exact below_al HBA.out.drew _ | exact below_al (Below.refl _ _) _ | exact (below_al (Below.refl _ _) _).drew | exact below_al (Below.refl _ _).drew _ | exact (below_al (below_al (Below.refl _ _) _) _).drew | exact below_al (below_al (Below.refl _ _) _) _ | exact below_al ((below_al (Below.refl _ _) _).drew) _ | exact Below.refl _ _ | exact (Below.refl _ _).drew) | (refine ⟨?_, ?_, ?_⟩ <;> simp [go_sem, HK.out _ (by first | exact HBV.out | exact HBA.out | exact below_al HBA.out _ | exact HBA.out.drew | exact (below_al HBA.out _).drew | exact below_al HBA.out.drew _ | exact below_al (Below.refl _ _) _ | exact (below_al (Below.refl _ _) _).drew | exact below_al (Below.refl _ _).drew _ | exact (below_al (below_al (Below.refl _ _) _) _).drew | exact below_al (below_al (Below.refl _ _) _) _ | exact below_al ((below_al (Below.refl _ _) _).drew) _ | exact Below.refl _ _ | exact (Below.refl _ _).drew)])) (first
    | (refine step_app0 _ rfl (.tmp 9) (.tmp 11) _ rfl W.heap.size el_int (W.heap.size + 1) rfl HE1.out (Nat.le_succ _) W.heap.size a' m c' (vs.map i64v) rfl (HVS.out.below (by first | exact HBV.out | exact HBA.out | exact below_al HBA.out _ | exact HBA.out.drew | exact (below_al HBA.out _).drew | exact below_al HBA.out.drew _ | exact below_al (Below.refl _ _) _ | exact (below_al (Below.refl _ _) _).drew | exact below_al (Below.refl _ _).drew _ | exact (below_al (below_al (Below.refl _ _) _) _).drew | exact below_al (below_al (Below.refl _ _) _) _ | exact below_al ((below_al (Below.refl _ _) _).drew) _ | exact Below.refl _ _ | exact (Below.refl _ _).drew)).1 (i64_cells vs) (by unfold maxLen; omega) (by omega) (Below.size (by first | exact HBV.out | exact HBA.out | exact below_al HBA.out _ | exact HBA.out.drew | exact (below_al HBA.out _).drew | exact below_al HBA.out.drew _ | exact below_al (Below.refl _ _) _ | exact (below_al (Below.refl _ _) _).drew | exact below_al (Below.refl _ _).drew _ | exact (below_al (below_al (Below.refl _ _) _) _).drew | exact below_al (below_al (Below.refl _ _) _) _ | exact below_al ((below_al (Below.refl _ _) _).drew) _ | exact Below.refl _ _ | exact (Below.refl _ _).drew)) ?_; intro A4 C4 w4 ho4 hg4 hd4; have HOA4 := mkHid (lof_keep2 HOA.out hg4 HNE.out); have HBV := mkHid (below_gr (show Below W.heap.size W _ from (by first | exact HBV.out | exact HBA.out | exact below_al HBA.out _ | exact HBA.out.drew | exact (below_al HBA.out _).drew | exact below_al HBA.out.drew _ | exact below_al (Below.refl _ _) _ | exact (below_al (Below.refl _ _) _).drew | exact below_al (Below.refl _ _).drew _ | exact (below_al (below_al (Below.refl _ _) _) _).drew | exact below_al (below_al (Below.refl _ _) _) _ | exact below_al ((below_al (Below.refl _ _) _).drew) _ | exact Below.refl _ _ | exact (Below.refl _ _).drew)) hg4 (own_empty0 _ (Nat.le_succ _))); have HOV := mkHid ho4; obtain ⟨y0, y1, y2, z0, z1, z2⟩ := HKZ.out w4 HBV.out; clear ho4 hg4 hd4)
    | (refine step_app0 _ rfl (.tmp 9) (.tmp 11) _ rfl W.heap.size el_int W.heap.size rfl HE0.out (Nat.le_refl _) W.heap.size a' m c' (vs.map i64v) rfl (HVS.out.below (by first | exact HBV.out | exact HBA.out | exact below_al HBA.out _ | exact HBA.out.drew | exact (below_al HBA.out _).drew | exact below_al HBA.out.drew _ | exact below_al (Below.refl _ _) _ | exact (below_al (Below.refl _ _) _).drew | exact below_al (Below.refl _ _).drew _ | exact (below_al (below_al (Below.refl _ _) _) _).drew | exact below_al (below_al (Below.refl _ _) _) _ | exact below_al ((below_al (Below.refl _ _) _).drew) _ | exact Below.refl _ _ | exact (Below.refl _ _).drew)).1 (i64_cells vs) (by unfold maxLen; omega) (by omega) (Below.size (by first | exact HBV.out | exact HBA.out | exact below_al HBA.out _ | exact HBA.out.drew | exact (below_al HBA.out _).drew | exact below_al HBA.out.drew _ | exact below_al (Below.refl _ _) _ | exact (below_al (Below.refl _ _) _).drew | exact below_al (Below.refl _ _).drew _ | exact (below_al (below_al (Below.refl _ _) _) _).drew | exact below_al (below_al (Below.refl _ _) _) _ | exact below_al ((below_al (Below.refl _ _) _).drew) _ | exact Below.refl _ _ | exact (Below.refl _ _).drew)) ?_; intro A4 C4 w4 ho4 hg4 hd4; have HOA4 := mkHid (lof_keep2 HOA.out hg4 HNE.out); have HBV := mkHid (below_gr (show Below W.heap.size W _ from (by first | exact HBV.out | exact HBA.out | exact below_al HBA.out _ | exact HBA.out.drew | exact (below_al HBA.out _).drew | exact below_al HBA.out.drew _ | exact below_al (Below.refl _ _) _ | exact (below_al (Below.refl _ _) _).drew | exact below_al (Below.refl _ _).drew _ | exact (below_al (below_al (Below.refl _ _) _) _).drew | exact below_al (below_al (Below.refl _ _) _) _ | exact below_al ((below_al (Below.refl _ _) _).drew) _ | exact Below.refl _ _ | exact (Below.refl _ _).drew)) hg4 (own_empty0 _ (Nat.le_refl _))); have HOV := mkHid ho4; obtain ⟨y0, y1, y2, z0, z1, z2⟩ := HKZ.out w4 HBV.out; clear ho4 hg4 hd4)
    | (refine step_app0 _ rfl (.tmp 9) (.tmp 11) _ rfl W.heap.size el_int w3.heap.size rfl (heap_alloc_new _ _) HBA.out.size W.heap.size a' m c' (vs.map i64v) rfl (HVS.out.below (by first | exact HBV.out | exact HBA.out | exact below_al HBA.out _ | exact HBA.out.drew | exact (below_al HBA.out _).drew | exact below_al HBA.out.drew _ | exact below_al (Below.refl _ _) _ | exact (below_al (Below.refl _ _) _).drew | exact below_al (Below.refl _ _).drew _ | exact (below_al (below_al (Below.refl _ _) _) _).drew | exact below_al (below_al (Below.refl _ _) _) _ | exact below_al ((below_al (Below.refl _ _) _).drew) _ | exact Below.refl _ _ | exact (Below.refl _ _).drew)).1 (i64_cells vs) (by unfold maxLen; omega) (by omega) (Below.size (by first | exact HBV.out | exact HBA.out | exact below_al HBA.out _ | exact HBA.out.drew | exact (below_al HBA.out _).drew | exact below_al HBA.out.drew _ | exact below_al (Below.refl _ _) _ | exact (below_al (Below.refl _ _) _).drew | exact below_al (Below.refl _ _).drew _ | exact (below_al (below_al (Below.refl _ _) _) _).drew | exact below_al (below_al (Below.refl _ _) _) _ | exact below_al ((below_al (Below.refl _ _) _).drew) _ | exact Below.refl _ _ | exact (Below.refl _ _).drew)) ?_; intro A4 C4 w4 ho4 hg4 hd4; have HOA4 := mkHid (lof_keep HOA.out hg4); have HBV := mkHid (below_gr (show Below W.heap.size W _ from (by first | exact HBV.out | exact HBA.out | exact below_al HBA.out _ | exact HBA.out.drew | exact (below_al HBA.out _).drew | exact below_al HBA.out.drew _ | exact below_al (Below.refl _ _) _ | exact (below_al (Below.refl _ _) _).drew | exact below_al (Below.refl _ _).drew _ | exact (below_al (below_al (Below.refl _ _) _) _).drew | exact below_al (below_al (Below.refl _ _) _) _ | exact below_al ((below_al (Below.refl _ _) _).drew) _ | exact Below.refl _ _ | exact (Below.refl _ _).drew)) hg4 (own_empty0 _ HBA.out.size)); have HOV := mkHid ho4; obtain ⟨y0, y1, y2, z0, z1, z2⟩ := HKZ.out w4 HBV.out; clear ho4 hg4 hd4)
    | (refine step_app0 _ rfl (.tmp 5) (.tmp 7) _ rfl W.heap.size el_int W.heap.size rfl (heap_alloc_new _ _) (Nat.le_refl _) W.heap.size a n c (ks.map i64v) rfl (HKS.out.below (by first | exact HBV.out | exact HBA.out | exact below_al HBA.out _ | exact HBA.out.drew | exact (below_al HBA.out _).drew | exact below_al HBA.out.drew _ | exact below_al (Below.refl _ _) _ | exact (below_al (Below.refl _ _) _).drew | exact below_al (Below.refl _ _).drew _ | exact (below_al (below_al (Below.refl _ _) _) _).drew | exact below_al (below_al (Below.refl _ _) _) _ | exact below_al ((below_al (Below.refl _ _) _).drew) _ | exact Below.refl _ _ | exact (Below.refl _ _).drew)).1 (i64_cells ks) (by unfold maxLen; omega) (by omega) (Below.size (by first | exact HBV.out | exact HBA.out | exact below_al HBA.out _ | exact HBA.out.drew | exact (below_al HBA.out _).drew | exact below_al HBA.out.drew _ | exact below_al (Below.refl _ _) _ | exact (below_al (Below.refl _ _) _).drew | exact below_al (Below.refl _ _).drew _ | exact (below_al (below_al (Below.refl _ _) _) _).drew | exact below_al (below_al (Below.refl _ _) _) _ | exact below_al ((below_al (Below.refl _ _) _).drew) _ | exact Below.refl _ _ | exact (Below.refl _ _).drew)) ?_; intro A3 C3 w3 ho3 hg3 hd3; have HBA := mkHid (below_gr (show Below W.heap.size W _ from (by first | exact HBV.out | exact HBA.out | exact below_al HBA.out _ | exact HBA.out.drew | exact (below_al HBA.out _).drew | exact below_al HBA.out.drew _ | exact below_al (Below.refl _ _) _ | exact (below_al (Below.refl _ _) _).drew | exact below_al (Below.refl _ _).drew _ | exact (below_al (below_al (Below.refl _ _) _) _).drew | exact below_al (below_al (Below.refl _ _) _) _ | exact below_al ((below_al (Below.refl _ _) _).drew) _ | exact Below.refl _ _ | exact (Below.refl _ _).drew)) hg3 (own_empty0 _ (Nat.le_refl _))); have HOA := mkHid ho3; clear ho3 hg3 hd3)
    | (refine step_app0 _ rfl (.tmp 5) (.tmp 7) _ rfl W.heap.size el_int W.heap.size rfl ((Below.heap_alloc _ _ _ (by simp)).trans (heap_alloc_new _ _)) (Nat.le_refl _) W.heap.size a n c (ks.map i64v) rfl (HKS.out.below (by first | exact HBV.out | exact HBA.out | exact below_al HBA.out _ | exact HBA.out.drew | exact (below_al HBA.out _).drew | exact below_al HBA.out.drew _ | exact below_al (Below.refl _ _) _ | exact (below_al (Below.refl _ _) _).drew | exact below_al (Below.refl _ _).drew _ | exact (below_al (below_al (Below.refl _ _) _) _).drew | exact below_al (below_al (Below.refl _ _) _) _ | exact below_al ((below_al (Below.refl _ _) _).drew) _ | exact Below.refl _ _ | exact (Below.refl _ _).drew)).1 (i64_cells ks) (by unfold maxLen; omega) (by omega) (Below.size (by first | exact HBV.out | exact HBA.out | exact below_al HBA.out _ | exact HBA.out.drew | exact (below_al HBA.out _).drew | exact below_al HBA.out.drew _ | exact below_al (Below.refl _ _) _ | exact (below_al (Below.refl _ _) _).drew | exact below_al (Below.refl _ _).drew _ | exact (below_al (below_al (Below.refl _ _) _) _).drew | exact below_al (below_al (Below.refl _ _) _) _ | exact below_al ((below_al (Below.refl _ _) _).drew) _ | exact Below.refl _ _ | exact (Below.refl _ _).drew)) ?_; intro A3 C3 w3 ho3 hg3 hd3; have HBA := mkHid (below_gr (show Below W.heap.size W _ from (by first | exact HBV.out | exact HBA.out | exact below_al HBA.out _ | exact HBA.out.drew | exact (below_al HBA.out _).drew | exact below_al HBA.out.drew _ | exact below_al (Below.refl _ _) _ | exact (below_al (Below.refl _ _) _).drew | exact below_al (Below.refl _ _).drew _ | exact (below_al (below_al (Below.refl _ _) _) _).drew | exact below_al (below_al (Below.refl _ _) _) _ | exact below_al ((below_al (Below.refl _ _) _).drew) _ | exact Below.refl _ _ | exact (Below.refl _ _).drew)) hg3 (own_empty0 _ (Nat.le_refl _))); have HOA := mkHid ho3; have HNE := mkHid (show (Value.slice A3 n C3).ownBlock ≠ some (W.heap.size + 1) from ne_two hd3 (by omega) (by (simp [drew_heap] <;> omega))); have HE1 := mkHid (show w3.heap[W.heap.size + 1]? = some (.cells #[] 3 (0, 0)) from (hg3.block _ (by simp [drew_heap]) (by simp)).trans (heap_two W _ _)); clear ho3 hg3 hd3)
    | (refine step_app0 _ rfl (.tmp 5) (.tmp 7) _ rfl W.heap.size el_int (W.heap.size + 1) rfl (heap_two W _ _) (Nat.le_succ _) W.heap.size a n c (ks.map i64v) rfl (HKS.out.below (by first | exact HBV.out | exact HBA.out | exact below_al HBA.out _ | exact HBA.out.drew | exact (below_al HBA.out _).drew | exact below_al HBA.out.drew _ | exact below_al (Below.refl _ _) _ | exact (below_al (Below.refl _ _) _).drew | exact below_al (Below.refl _ _).drew _ | exact (below_al (below_al (Below.refl _ _) _) _).drew | exact below_al (below_al (Below.refl _ _) _) _ | exact below_al ((below_al (Below.refl _ _) _).drew) _ | exact Below.refl _ _ | exact (Below.refl _ _).drew)).1 (i64_cells ks) (by unfold maxLen; omega) (by omega) (Below.size (by first | exact HBV.out | exact HBA.out | exact below_al HBA.out _ | exact HBA.out.drew | exact (below_al HBA.out _).drew | exact below_al HBA.out.drew _ | exact below_al (Below.refl _ _) _ | exact (below_al (Below.refl _ _) _).drew | exact below_al (Below.refl _ _).drew _ | exact (below_al (below_al (Below.refl _ _) _) _).drew | exact below_al (below_al (Below.refl _ _) _) _ | exact below_al ((below_al (Below.refl _ _) _).drew) _ | exact Below.refl _ _ | exact (Below.refl _ _).drew)) ?_; intro A3 C3 w3 ho3 hg3 hd3; have HBA := mkHid (below_gr (show Below W.heap.size W _ from (by first | exact HBV.out | exact HBA.out | exact below_al HBA.out _ | exact HBA.out.drew | exact (below_al HBA.out _).drew | exact below_al HBA.out.drew _ | exact below_al (Below.refl _ _) _ | exact (below_al (Below.refl _ _) _).drew | exact below_al (Below.refl _ _).drew _ | exact (below_al (below_al (Below.refl _ _) _) _).drew | exact below_al (below_al (Below.refl _ _) _) _ | exact below_al ((below_al (Below.refl _ _) _).drew) _ | exact Below.refl _ _ | exact (Below.refl _ _).drew)) hg3 (own_empty0 _ (Nat.le_succ _))); have HOA := mkHid ho3; have HNE := mkHid (show (Value.slice A3 n C3).ownBlock ≠ some W.heap.size from ne_two hd3 (by omega) (by (simp [drew_heap] <;> omega))); have HE0 := mkHid (show w3.heap[W.heap.size]? = some (.cells #[] 3 (0, 0)) from (hg3.block _ (by (simp [drew_heap] <;> omega)) (by simp)).trans ((Below.heap_alloc _ _ _ (by simp)).trans (heap_alloc_new _ _))); clear ho3 hg3 hd3))
  all_goals
    go_wp2_with fail
    refine bodyPost_ret (v := .agg #[.int .i64 lv, .slice A3 n C3, .slice A4 m C4]) (by simp [results, Try.results14, go_sem, y0, y1, y2]) rfl ?_
    have HS2 := HSZ.out
    refine ⟨_, rfl, NdIn.set3 ⟨SL.of_own HOA4.out, HKS.out.2⟩ ⟨SL.of_own HOV.out, HVS.out.2⟩ ⟨(own_cap HOA4.out).1, (own_cap HOA4.out).2, by omega⟩ ⟨(own_cap HOV.out).1, (own_cap HOV.out).2, by omega⟩ (fun ad h => by have := own_from HOA4.out ad h; omega) (fun ad h => by have := own_from HOV.out ad h; omega), NdNew.mk' (fun ad h => by have := own_from HOA4.out ad h; omega) (fun ad h => by have := own_from HOV.out ad h; omega), HSET.out w4 _ _ _ (HAL.out.trans (HBV.out.mono HAL.out.size))⟩

end Go.Proofs.Ytilepjkdfbhgcaa
