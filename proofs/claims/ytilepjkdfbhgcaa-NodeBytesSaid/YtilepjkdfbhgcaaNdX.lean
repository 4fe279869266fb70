/- Appends to the rows of a node under way, as steps of the walk. -/
import Derived.Test.YtilepjkdfbhgcaaNdW
namespace Go.Proofs.Ytilepjkdfbhgcaa
open Go.RowKit Go.Shelf

section
variable {t' : TypeId} {w0 W wc : World} {B X L C L' C' : Nat} {lv : Int} {A A' : Option Addr} {ks vs : List Int}
/-- What an append of some ints to the keys leaves. -/
theorem OUT.app_key (h : OUT t' w0 B X lv A L C A' L' C' ks vs W) (hb : Below W.heap.size W wc) (hB : B ≤ X + 1) (ty : TypeId) {Bn : Nat} {A2 : Option Addr} {m c2 : Nat} {news : List Int} (hr : SL wc Bn 1 A2 m (news.map i64v)) (hL : L + m ≤ 1000000) :
    ∃ A3 C3 w3, (Builtin.append_ #[22, 22] ty #[.slice A L C, .slice A2 m c2]).run Try.prog wc = .ok (.slice A3 (L + m) C3) w3 ∧ Hid (OUT t' w0 B X lv A3 (L + m) C3 A' L' C' (ks ++ news) vs (w3.setCell ⟨X, 1, none⟩ (.slice A3 (L + m) C3))) ∧
      w3.cell? ⟨X, 1, none⟩ = some (.slice A L C) ∧ w3.cell? ⟨X, 2, none⟩ = some (.slice A' L' C') ∧ w3.frozen? ⟨X, 1, none⟩ = false ∧ w3.frozen? ⟨X, 2, none⟩ = false := by
  have hO := h.next hb
  obtain ⟨A3, C3, w3, hrun, h2, h3, h4⟩ := run_app (P := Try.prog) wc B (ty := ty) el_int A L C _ hO.kr Bn A2 m c2 _ hr (i64_cells news) (by unfold maxLen; omega) (by omega) (hO.base hB)
  obtain ⟨c1, c2', f1, f2, _⟩ := hO.key0 h3
  exact ⟨A3, C3, w3, hrun, mkHid (hO.key h3 (by rw [List.map_append]; exact h2) h4), c1, c2', f1, f2⟩
theorem OUT.app_val (h : OUT t' w0 B X lv A L C A' L' C' ks vs W) (hb : Below W.heap.size W wc) (hB : B ≤ X + 1) (ty : TypeId) {Bn : Nat} {A2 : Option Addr} {m c2 : Nat} {news : List Int} (hr : SL wc Bn 1 A2 m (news.map i64v)) (hL : L' + m ≤ 1000000) :
    ∃ A3 C3 w3, (Builtin.append_ #[22, 22] ty #[.slice A' L' C', .slice A2 m c2]).run Try.prog wc = .ok (.slice A3 (L' + m) C3) w3 ∧ Hid (OUT t' w0 B X lv A L C A3 (L' + m) C3 ks (vs ++ news) (w3.setCell ⟨X, 2, none⟩ (.slice A3 (L' + m) C3))) ∧
      w3.cell? ⟨X, 1, none⟩ = some (.slice A L C) ∧ w3.cell? ⟨X, 2, none⟩ = some (.slice A' L' C') ∧ w3.frozen? ⟨X, 1, none⟩ = false ∧ w3.frozen? ⟨X, 2, none⟩ = false := by
  have hO := h.next hb
  obtain ⟨A3, C3, w3, hrun, h2, h3, h4⟩ := run_app (P := Try.prog) wc B (ty := ty) el_int A' L' C' _ hO.vr Bn A2 m c2 _ hr (i64_cells news) (by unfold maxLen; omega) (by omega) (hO.base hB)
  obtain ⟨c1, c2', f1, f2, _⟩ := hO.val0 h3
  exact ⟨A3, C3, w3, hrun, mkHid (hO.val h3 (by rw [List.map_append]; exact h2) h4), c1, c2', f1, f2⟩
end
section
variable {t' : TypeId} {w0 W wc : World} {B X L C L' C' : Nat} {lv : Int} {A A' : Option Addr} {ks vs : List Int} {ops : Array Oper} {rest : List Oper} {o : Oper} {a : Act} {Q : Exit → Act → World → Prop} {K : Act → World → Prop} {E : Prop}
/-- 'append(keys, x)', the element's block made just ahead. -/
theorem list_key (s x : Tmp) (hgd : o.guard = none) (ho : o.op = .call { callee := .builtin .append, args := #[.tmp s, .tmp x], argTypes := #[22, 22] }) (h : OUT t' w0 B X lv A L C A' L' C' ks vs W) (hb : Below W.heap.size W wc) (hB : B ≤ X + 1) {g : Nat} {val : Int} (hg : wc.heap[g]? = some (.cells #[.int .i64 val] 3 (0, 0)))
    (hL : L + 1 ≤ 1000000) (hs : a.eval (.tmp s) = .slice A L C) (hx : a.eval (.tmp x) = .slice (some ⟨g, 0, none⟩) 1 1)
    (hK : ∀ A3 C3 w3, Hid (OUT t' w0 B X lv A3 (L + 1) C3 A' L' C' (ks ++ [val]) vs (w3.setCell ⟨X, 1, none⟩ (.slice A3 (L + 1) C3))) → w3.cell? ⟨X, 1, none⟩ = some (.slice A L C) → w3.cell? ⟨X, 2, none⟩ = some (.slice A' L' C') → w3.frozen? ⟨X, 1, none⟩ = false → w3.frozen? ⟨X, 2, none⟩ = false →
      wpList Try.prog ops Q rest (a.put o.dst (.slice A3 (L + 1) C3)) w3) : wpList Try.prog ops Q (o :: rest) a wc := by
  refine wpList_plain hgd fun K hK' => ?_
  obtain ⟨A3, C3, w3, hrun, h1, h2, h3, h4, h5⟩ := h.app_key hb hB o.type (A2 := some ⟨g, 0, none⟩) (m := 1) (c2 := 1) (news := [val]) (SL.of_block (cur := #[.int .i64 val]) hg rfl (Nat.lt_succ_self g)) hL
  unfold Oper.wp execOp
  simp only [ho, resolve, invoke, builtin, Sem.run_bind, Sem.run_pure, Result.andThen_ok, List.map_toArray, List.map_cons, List.map_nil, hs, hx, hrun]
  exact hK' _ _ (hK A3 C3 w3 h1 h2 h3 h4 h5)
theorem list_val (s x : Tmp) (hgd : o.guard = none) (ho : o.op = .call { callee := .builtin .append, args := #[.tmp s, .tmp x], argTypes := #[22, 22] }) (h : OUT t' w0 B X lv A L C A' L' C' ks vs W) (hb : Below W.heap.size W wc) (hB : B ≤ X + 1) {g : Nat} {val : Int} (hg : wc.heap[g]? = some (.cells #[.int .i64 val] 3 (0, 0)))
    (hL : L' + 1 ≤ 1000000) (hs : a.eval (.tmp s) = .slice A' L' C') (hx : a.eval (.tmp x) = .slice (some ⟨g, 0, none⟩) 1 1)
    (hK : ∀ A3 C3 w3, Hid (OUT t' w0 B X lv A L C A3 (L' + 1) C3 ks (vs ++ [val]) (w3.setCell ⟨X, 2, none⟩ (.slice A3 (L' + 1) C3))) → w3.cell? ⟨X, 1, none⟩ = some (.slice A L C) → w3.cell? ⟨X, 2, none⟩ = some (.slice A' L' C') → w3.frozen? ⟨X, 1, none⟩ = false → w3.frozen? ⟨X, 2, none⟩ = false →
      wpList Try.prog ops Q rest (a.put o.dst (.slice A3 (L' + 1) C3)) w3) : wpList Try.prog ops Q (o :: rest) a wc := by
  refine wpList_plain hgd fun K hK' => ?_
  obtain ⟨A3, C3, w3, hrun, h1, h2, h3, h4, h5⟩ := h.app_val hb hB o.type (A2 := some ⟨g, 0, none⟩) (m := 1) (c2 := 1) (news := [val]) (SL.of_block (cur := #[.int .i64 val]) hg rfl (Nat.lt_succ_self g)) hL
  unfold Oper.wp execOp
  simp only [ho, resolve, invoke, builtin, Sem.run_bind, Sem.run_pure, Result.andThen_ok, List.map_toArray, List.map_cons, List.map_nil, hs, hx, hrun]
  exact hK' _ _ (hK A3 C3 w3 h1 h2 h3 h4 h5)
/-- The same as steps of a region that draws its order. -/
theorem step_key (s x : Tmp) (hgd : o.guard = none) (ho : o.op = .call { callee := .builtin .append, args := #[.tmp s, .tmp x], argTypes := #[22, 22] }) (h : OUT t' w0 B X lv A L C A' L' C' ks vs W) (hb : Below W.heap.size W wc) (hB : B ≤ X + 1) {g : Nat} {val : Int} (hg : wc.heap[g]? = some (.cells #[.int .i64 val] 3 (0, 0)))
    (hL : L + 1 ≤ 1000000) (hs : a.eval (.tmp s) = .slice A L C) (hx : a.eval (.tmp x) = .slice (some ⟨g, 0, none⟩) 1 1)
    (hK : ∀ A3 C3 w3, Hid (OUT t' w0 B X lv A3 (L + 1) C3 A' L' C' (ks ++ [val]) vs (w3.setCell ⟨X, 1, none⟩ (.slice A3 (L + 1) C3))) → w3.cell? ⟨X, 1, none⟩ = some (.slice A L C) → w3.cell? ⟨X, 2, none⟩ = some (.slice A' L' C') → w3.frozen? ⟨X, 1, none⟩ = false → w3.frozen? ⟨X, 2, none⟩ = false →
      K (a.put o.dst (.slice A3 (L + 1) C3)) w3) : if Region.wanted o (yielded ops a.tmps) = true then Oper.wp Try.prog o a wc K Q else E := by
  have hw : Region.wanted o (yielded ops a.tmps) = true := by simp [Region.wanted, hgd]
  rw [if_pos hw]
  obtain ⟨A3, C3, w3, hrun, h1, h2, h3, h4, h5⟩ := h.app_key hb hB o.type (A2 := some ⟨g, 0, none⟩) (m := 1) (c2 := 1) (news := [val]) (SL.of_block (cur := #[.int .i64 val]) hg rfl (Nat.lt_succ_self g)) hL
  unfold Oper.wp execOp
  simp only [ho, resolve, invoke, builtin, Sem.run_bind, Sem.run_pure, Result.andThen_ok, List.map_toArray, List.map_cons, List.map_nil, hs, hx, hrun]
  exact hK A3 C3 w3 h1 h2 h3 h4 h5
theorem step_val (s x : Tmp) (hgd : o.guard = none) (ho : o.op = .call { callee := .builtin .append, args := #[.tmp s, .tmp x], argTypes := #[22, 22] }) (h : OUT t' w0 B X lv A L C A' L' C' ks vs W) (hb : Below W.heap.size W wc) (hB : B ≤ X + 1) {g : Nat} {val : Int} (hg : wc.heap[g]? = some (.cells #[.int .i64 val] 3 (0, 0)))
    (hL : L' + 1 ≤ 1000000) (hs : a.eval (.tmp s) = .slice A' L' C') (hx : a.eval (.tmp x) = .slice (some ⟨g, 0, none⟩) 1 1)
    (hK : ∀ A3 C3 w3, Hid (OUT t' w0 B X lv A L C A3 (L' + 1) C3 ks (vs ++ [val]) (w3.setCell ⟨X, 2, none⟩ (.slice A3 (L' + 1) C3))) → w3.cell? ⟨X, 1, none⟩ = some (.slice A L C) → w3.cell? ⟨X, 2, none⟩ = some (.slice A' L' C') → w3.frozen? ⟨X, 1, none⟩ = false → w3.frozen? ⟨X, 2, none⟩ = false →
      K (a.put o.dst (.slice A3 (L' + 1) C3)) w3) : if Region.wanted o (yielded ops a.tmps) = true then Oper.wp Try.prog o a wc K Q else E := by
  have hw : Region.wanted o (yielded ops a.tmps) = true := by simp [Region.wanted, hgd]
  rw [if_pos hw]
  obtain ⟨A3, C3, w3, hrun, h1, h2, h3, h4, h5⟩ := h.app_val hb hB o.type (A2 := some ⟨g, 0, none⟩) (m := 1) (c2 := 1) (news := [val]) (SL.of_block (cur := #[.int .i64 val]) hg rfl (Nat.lt_succ_self g)) hL
  unfold Oper.wp execOp
  simp only [ho, resolve, invoke, builtin, Sem.run_bind, Sem.run_pure, Result.andThen_ok, List.map_toArray, List.map_cons, List.map_nil, hs, hx, hrun]
  exact hK A3 C3 w3 h1 h2 h3 h4 h5
/-- 'append(keys, l...)'. -/
theorem list_keys (s x : Tmp) (hgd : o.guard = none) (ho : o.op = .call { callee := .builtin .append, args := #[.tmp s, .tmp x], argTypes := #[22, 22] }) (h : OUT t' w0 B X lv A L C A' L' C' ks vs W) (hb : Below W.heap.size W wc) (hB : B ≤ X + 1) {Bn : Nat} {A2 : Option Addr} {m c2 : Nat} {news : List Int} (hr : IS wc Bn A2 m news)
    (hL : L + m ≤ 1000000) (hs : a.eval (.tmp s) = .slice A L C) (hx : a.eval (.tmp x) = .slice A2 m c2)
    (hK : ∀ A3 C3 w3, Hid (OUT t' w0 B X lv A3 (L + m) C3 A' L' C' (ks ++ news) vs (w3.setCell ⟨X, 1, none⟩ (.slice A3 (L + m) C3))) → w3.cell? ⟨X, 1, none⟩ = some (.slice A L C) → w3.cell? ⟨X, 2, none⟩ = some (.slice A' L' C') → w3.frozen? ⟨X, 1, none⟩ = false → w3.frozen? ⟨X, 2, none⟩ = false →
      wpList Try.prog ops Q rest (a.put o.dst (.slice A3 (L + m) C3)) w3) : wpList Try.prog ops Q (o :: rest) a wc := by
  refine wpList_plain hgd fun K hK' => ?_
  obtain ⟨A3, C3, w3, hrun, h1, h2, h3, h4, h5⟩ := h.app_key (c2 := c2) hb hB o.type hr.1 hL
  unfold Oper.wp execOp
  simp only [ho, resolve, invoke, builtin, Sem.run_bind, Sem.run_pure, Result.andThen_ok, List.map_toArray, List.map_cons, List.map_nil, hs, hx, hrun]
  exact hK' _ _ (hK A3 C3 w3 h1 h2 h3 h4 h5)
theorem list_vals (s x : Tmp) (hgd : o.guard = none) (ho : o.op = .call { callee := .builtin .append, args := #[.tmp s, .tmp x], argTypes := #[22, 22] }) (h : OUT t' w0 B X lv A L C A' L' C' ks vs W) (hb : Below W.heap.size W wc) (hB : B ≤ X + 1) {Bn : Nat} {A2 : Option Addr} {m c2 : Nat} {news : List Int} (hr : IS wc Bn A2 m news)
    (hL : L' + m ≤ 1000000) (hs : a.eval (.tmp s) = .slice A' L' C') (hx : a.eval (.tmp x) = .slice A2 m c2)
    (hK : ∀ A3 C3 w3, Hid (OUT t' w0 B X lv A L C A3 (L' + m) C3 ks (vs ++ news) (w3.setCell ⟨X, 2, none⟩ (.slice A3 (L' + m) C3))) → w3.cell? ⟨X, 1, none⟩ = some (.slice A L C) → w3.cell? ⟨X, 2, none⟩ = some (.slice A' L' C') → w3.frozen? ⟨X, 1, none⟩ = false → w3.frozen? ⟨X, 2, none⟩ = false →
      wpList Try.prog ops Q rest (a.put o.dst (.slice A3 (L' + m) C3)) w3) : wpList Try.prog ops Q (o :: rest) a wc := by
  refine wpList_plain hgd fun K hK' => ?_
  obtain ⟨A3, C3, w3, hrun, h1, h2, h3, h4, h5⟩ := h.app_val (c2 := c2) hb hB o.type hr.1 hL
  unfold Oper.wp execOp
  simp only [ho, resolve, invoke, builtin, Sem.run_bind, Sem.run_pure, Result.andThen_ok, List.map_toArray, List.map_cons, List.map_nil, hs, hx, hrun]
  exact hK' _ _ (hK A3 C3 w3 h1 h2 h3 h4 h5)
end

end Go.Proofs.Ytilepjkdfbhgcaa
