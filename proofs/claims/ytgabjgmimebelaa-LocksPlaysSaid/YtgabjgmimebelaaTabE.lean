/- Table.Add by contract. -/
import Derived.Test.YtgabjgmimebelaaTabD
import Derived.Deep.RegionLaw
namespace Go.Proofs.Ytgabjgmimebelaa
open Go.RowKit Go.Shelf

theorem any_right (xs : List Sp) : (xs.any fun x => !rightOf x) = !(xs.all rightOf) := by
  induction xs with
  | nil => rfl
  | cons x xs ih => simp only [List.any_cons, List.all_cons, ih, Bool.not_and]

/-- The row's block is not the table's. -/
theorem TK.rne {w : World} {F : Nat → Prop} {g : Nat} {A : Option Addr} {n c : Nat} {cells : List Value} {es : List En} {last : Nat} (h : TK w F g A n c cells es last) : (Value.slice A n c).ownBlock ≠ some g := by
  intro e
  rcases h.row.2 with ⟨h0, _⟩ | ⟨r, cap, cur, h1, _, h3, _⟩
  · rw [h0] at e; cases e
  · rw [h1] at e
    injection e with e
    subst e
    rw [h.blk] at h3
    simp at h3

theorem TK.added {w w1 w2 w3 : World} {F : Nat → Prop} {g : Nat} {A A' SA : Option Addr} {m C c' sc : Nat} {cells : List Value} {es : List En} {last : Nat} {xs : List Sp} (h : TK w F g A m C cells es last) (hb1 : Below w.heap.size w w1)
    (hb2 : Below (w1.setCell ⟨g, 1, none⟩ (.int .i64 ((last : Int) + 1))).drew.heap.size (w1.setCell ⟨g, 1, none⟩ (.int .i64 ((last : Int) + 1))).drew w2)
    (hso : w2.ownsRow (w1.setCell ⟨g, 1, none⟩ (.int .i64 ((last : Int) + 1))).drew.heap.size 24 4 (.slice SA xs.length sc) xs.length (xs.flatMap spC)) (hx : ∀ x ∈ xs, SpOk x) (hxl : xs.length ≤ 1000000)
    (ho3 : w3.ownsRow 0 69 2 (.slice A' (m + 1) c') (m + 1) (cells ++ [.int .i64 ((last : Int) + 1), .slice SA xs.length sc]))
    (hg3 : (w2.alloc (.cells #[.int .i64 ((last : Int) + 1), .slice SA xs.length sc] 69)).grownBy w3 (Value.slice A m C).ownBlock)
    (hat3 : (Value.slice A' (m + 1) c').ownBlock = (Value.slice A m C).ownBlock ∨ (Value.slice A' (m + 1) c').ownBlock = some (w2.alloc (.cells #[.int .i64 ((last : Int) + 1), .slice SA xs.length sc] 69)).heap.size)
    (hk3 : w3.heap[g]? = (w1.setCell ⟨g, 1, none⟩ (.int .i64 ((last : Int) + 1))).heap[g]?) (hl : last < 1000000) (hm : m < 1000000) :
    Turn F w (w3.setCell ⟨g, 0, none⟩ (.slice A' (m + 1) c')) ∧ ∃ F', T (w3.setCell ⟨g, 0, none⟩ (.slice A' (m + 1) c')) F' g (es ++ [⟨(last : Int) + 1, xs⟩]) (last + 1) ∧ ∀ b, F' b → F b ∨ w.heap.size ≤ b := by
  have hglt := h.lt g h.fg
  have s1 := hb1.size
  have s2 : w1.heap.size ≤ w2.heap.size := by have := hb2.size; simpa [World.drew, World.setCell] using this
  have s3 : w2.heap.size + 1 ≤ w3.heap.size := by have := hg3.size; simpa using this
  have s4 : (w3.setCell ⟨g, 0, none⟩ (.slice A' (m + 1) c')).heap.size = w3.heap.size := by simp [World.setCell]
  -- old blocks that are not the table's and not its row's
  have keep1 : ∀ b, b < w1.heap.size → b ≠ g → w2.heap[b]? = w1.heap[b]? := fun b hb hne => (hb2.block b (by simpa [World.drew, World.setCell] using hb)).trans (heap_setCell_other _ _ _ _ hne)
  have keep2 : ∀ b, b < w2.heap.size → b ≠ g → some b ≠ (Value.slice A m C).ownBlock → (w3.setCell ⟨g, 0, none⟩ (.slice A' (m + 1) c')).heap[b]? = w2.heap[b]? := fun b hb hne hno =>
    (heap_setCell_other _ _ _ _ hne).trans ((hg3.block b (by simp; omega) hno).trans (Below.heap_alloc _ _ _ hb))
  have keep : ∀ b, b < w.heap.size → b ≠ g → some b ≠ (Value.slice A m C).ownBlock → (w3.setCell ⟨g, 0, none⟩ (.slice A' (m + 1) c')).heap[b]? = w.heap[b]? := fun b hb hne hno =>
    (keep2 b (by omega) hne hno).trans ((keep1 b (by omega) hne).trans (hb1.block b hb))
  refine ⟨⟨?_, ?_, ?_, by omega, fun b hb hf => keep b hb (fun e => hf (e ▸ h.fg)) (fun e => hf (h.fr b e.symm))⟩, fun b => F b ∨ (w.heap.size ≤ b ∧ b < w3.heap.size), ⟨A', m + 1, c', cells ++ [.int .i64 ((last : Int) + 1), .slice SA xs.length sc], ?_⟩, fun b hb => hb.imp id fun h => h.1⟩
  · exact (hg3.os.trans hb2.os).trans hb1.os
  · exact (hg3.tape.trans hb2.tape).trans hb1.tape
  · exact (hg3.output.trans hb2.output).trans hb1.output
  · have hblk : w3.heap[g]? = some (.cells #[.slice A m C, .int .i64 ((last : Int) + 1)] 64 (0, 0)) := hk3.trans (heap_setCell_same _ _ _ _ _ _ ((hb1.block g hglt).trans h.blk))
    have hrn' : (Value.slice A' (m + 1) c').ownBlock ≠ some g := by
      rcases hat3 with e | e
      · rw [e]; exact h.rne
      · rw [e]; intro e2; injection e2 with e2; simp at e2; omega
    have hcl : cells.length = m * 2 := h.row.1
    have hel := h.len
    refine { blk := ?_, row := ?_, len := by simp [hel], els := ?_, fg := .inl h.fg, fr := ?_, lt := ?_, hi := by omega, nl := by omega }
    · exact heap_setCell_same _ _ _ _ _ _ hblk
    · refine ⟨ho3.1, ?_⟩
      rcases ho3.2 with h0 | ⟨r, cap, cur, h1, h2, h3, h4⟩
      · exact .inl h0
      · refine .inr ⟨r, cap, cur, h1, h2, (heap_setCell_other _ _ _ _ fun e => ?_).trans h3, h4⟩
        have e : r = g := e
        exact hrn' (by rw [h1, e]; rfl)
    · intro j e he
      by_cases hj : j < m
      · rw [List.getElem?_append_left (by omega)] at he
        obtain ⟨a, q, k, h0, h1, hi, hc, hs⟩ := h.els j e he
        refine ⟨a, q, k, by rw [List.getElem?_append_left (by omega)]; exact h0, by rw [List.getElem?_append_left (by omega)]; exact h1, hi, hc, hs.keep (fun b hb => keep b (h.lt b hb.1) hb.2.1 hb.2.2) fun b hb => ⟨.inl hb.1, hb.2.1, ?_⟩⟩
        rcases hat3 with e2 | e2
        · rw [e2]; exact hb.2.2
        · rw [e2]; intro e3; injection e3 with e3; have := h.lt b hb.1; simp at e3; omega
      · have hjl := (List.getElem?_eq_some_iff.1 he).1
        simp only [List.length_append, List.length_cons, List.length_nil] at hjl
        obtain rfl : j = m := by omega
        rw [List.getElem?_append_right (by omega), hel, Nat.sub_self] at he
        injection he with he
        subst he
        refine ⟨SA, xs.length, sc, by rw [List.getElem?_append_right (by omega), hcl, Nat.sub_self]; rfl, by rw [List.getElem?_append_right (by omega), hcl, Nat.add_sub_cancel_left]; rfl, ⟨by simp only; omega, by simp only; omega⟩, ⟨(own_cap hso).1, (own_cap hso).2, by omega⟩, ?_⟩
        refine (SS.of_own hso hx).keep (fun b hb => ?_) fun b hb => ?_
        · have hb1' : w1.heap.size ≤ b := by simpa [World.drew, World.setCell] using hb.1
          refine keep2 b hb.2 (by omega) fun e => ?_
          have := h.lt b (h.fr b e.symm)
          omega
        · have hb1' : w1.heap.size ≤ b := by simpa [World.drew, World.setCell] using hb.1
          refine ⟨.inr ⟨by omega, by have := hb.2; omega⟩, by omega, fun e => ?_⟩
          rcases hat3 with e2 | e2
          · have := h.lt b (h.fr b (by rw [← e2, e])); omega
          · rw [e2] at e; injection e with e; simp at e; have := hb.2; omega
    · intro r hr
      rcases hat3 with e | e
      · exact .inl (h.fr r (by rw [← e, hr]))
      · rw [hr] at e
        injection e with e
        refine .inr ⟨by simp at e; omega, ?_⟩
        rcases ho3.2 with ⟨h0, _⟩ | ⟨r', cap, cur, h1, _, h3, _⟩
        · rw [h0] at hr; cases hr
        · rw [h1] at hr
          injection hr with hr
          rw [← hr]
          exact (Array.getElem?_eq_some_iff.1 h3).1
    · intro b hb
      rw [s4]
      rcases hb with hb | hb
      · have := h.lt b hb; omega
      · exact hb.2

set_option maxRecDepth 20000 in
theorem add_bad (g : Nat) (a : Option Addr) (n c : Nat) (xs : List Sp) (w : World) (hs : SS w (· < w.heap.size) a n xs) (hc : CapOk n c) (hr : xs.all rightOf = false) :
    Calls Try.prog 14 #[.pointer (some ⟨g, 0, none⟩), .slice a n c] w fun e w' => e = .returned (.tuple #[.int .i64 0, .iface 66 (.int .i64 20)]) ∧ Below w.heap.size w w' := by
  have HH := mkHid (hasS_any (fun x => !rightOf x) _ #[] #[] eg_right a n c xs w (pred_right w) hs hc)
  rw [any_right, hr] at HH
  clear hs hc hr
  go_enter Try.func14, Try.ntmps14
  go_wp2_with fail
  refine HH.out.mono ?_
  rintro e w1 ⟨rfl, hb1⟩
  go_wp2_with fail
  go_ret2
  exact ⟨rfl, hb1⟩

set_option maxRecDepth 20000 in
set_option maxHeartbeats 2000000 in
theorem add_ok (F : Nat → Prop) (g : Nat) (es : List En) (last : Nat) (a : Option Addr) (n c : Nat) (xs : List Sp) (w : World) (h : T w F g es last) (hs0 : SS w (fun b => b < w.heap.size ∧ ¬ F b) a n xs) (hc : CapOk n c) (hm : n ≤ 1000000) (hl : last < 1000000) (he : es.length < 1000000) (hr : xs.all rightOf = true) :
    Calls Try.prog 14 #[.pointer (some ⟨g, 0, none⟩), .slice a n c] w fun e w' => e = .returned (.tuple #[.int .i64 ((last : Int) + 1), .nilIface]) ∧ Turn F w w' ∧ ∃ F', T w' F' g (es ++ [⟨(last : Int) + 1, xs⟩]) (last + 1) ∧ ∀ b, F' b → F b ∨ w.heap.size ≤ b := by
  have hs : SS w (· < w.heap.size) a n xs := hs0.keep (fun _ _ => rfl) fun b hb => hb.1
  have HH := mkHid (hasS_any (fun x => !rightOf x) _ #[] #[] eg_right a n c xs w (pred_right w) hs hc)
  rw [any_right, hr] at HH
  obtain ⟨A, m, C, cells, h⟩ := h
  have HS := mkHid hs0
  have HRN := mkHid h.rne
  have HX := mkHid hs0.ok
  have hm : xs.length ≤ 1000000 := by rw [hs0.1]; exact hm
  have HT := mkHid h
  have hg := h.lt g h.fg
  obtain ⟨hc1, hc2⟩ := own_cap h.row
  have hnl : m < 1000000 := by rw [← h.len]; exact he
  clear h hs hs0 hc hr he
  go_enter Try.func14, Try.ntmps14
  go_wp2_with fail
  refine HH.out.mono ?_
  rintro e w1 ⟨rfl, hb1⟩
  have hblk := (HT.out.below hb1).blk
  have c0 := cell_of_row w1 g 0 _ _ _ hblk
  have c1 := cell_of_row w1 g 1 _ _ _ hblk
  have f1 := fun p => frozen_of_row w1 g p _ _ hblk
  simp at c0 c1
  have hsz1 := hb1.size
  have HB1 := mkHid hb1
  have HBLK := mkHid hblk
  have hW1 : (w1.setCell ⟨g, 1, none⟩ (.int .i64 ((last : Int) + 1))).heap[g]? = some (.cells #[.slice A m C, .int .i64 ((last : Int) + 1)] 64 (0, 0)) := heap_setCell_same _ _ _ _ _ _ hblk
  have HPC := mkHid (show ∀ s : World, s.heap[g]? = (w1.setCell ⟨g, 1, none⟩ (.int .i64 ((last : Int) + 1))).heap[g]? → s.cell? ⟨g, 0, none⟩ = some (.slice A m C) ∧ s.cell? ⟨g, 1, none⟩ = some (.int .i64 ((last : Int) + 1)) ∧ s.frozen? ⟨g, 0, none⟩ = false from fun s hs => by
    have hs' := hs.trans hW1
    exact ⟨cell_of_row s g 0 _ _ _ hs', cell_of_row s g 1 _ _ _ hs', frozen_of_row s g 0 _ _ hs'⟩)
  have HC0 := mkHid (HPC.out _ rfl)
  have HSW := mkHid (show ∀ W : World, W.heap = (w1.setCell ⟨g, 1, none⟩ (.int .i64 ((last : Int) + 1))).heap → SS W (· < W.heap.size) a n xs from fun W hW => HS.out.keep (fun b hb => by
    rw [hW, heap_setCell_other _ _ _ _ (fun e => hb.2 (by have e2 : b = g := e; rw [e2]; exact HT.out.fg))]; exact HB1.out.block b hb.1) fun b hb => by rw [hW]; simp [World.setCell]; omega)
  have HOW := mkHid (show ∀ W : World, (∀ b, b < w1.heap.size → b ≠ g → W.heap[b]? = w1.heap[b]?) → W.ownsRow 0 69 2 (.slice A m C) m cells from fun W hW => by
    refine ⟨HT.out.row.1, ?_⟩
    rcases HT.out.row.2 with h0 | ⟨r, cap, cur, h1, h2, h3, h4⟩
    · exact .inl h0
    · have hr := (Array.getElem?_eq_some_iff.1 h3).1
      exact .inr ⟨r, cap, cur, h1, h2, ((hW r (by omega) (fun e => HRN.out (by rw [h1, e]; rfl))).trans (HB1.out.block r hr)).trans h3, h4⟩)
  have HPA := mkHid (show ∀ (s : World) (o : Obj), g < s.heap.size → (s.cell? ⟨g, 0, none⟩ = some (.slice A m C) ∧ s.cell? ⟨g, 1, none⟩ = some (.int .i64 ((last : Int) + 1)) ∧ s.frozen? ⟨g, 0, none⟩ = false) → (s.alloc o).cell? ⟨g, 0, none⟩ = some (.slice A m C) ∧ (s.alloc o).cell? ⟨g, 1, none⟩ = some (.int .i64 ((last : Int) + 1)) ∧ (s.alloc o).frozen? ⟨g, 0, none⟩ = false from fun s o hs h => by
    exact ⟨(World.cell?_of_block (w := s) (Below.heap_alloc s o g hs)).trans h.1, (World.cell?_of_block (w := s) (Below.heap_alloc s o g hs)).trans h.2.1, (World.frozen?_of_block (w := s) (Below.heap_alloc s o g hs)).trans h.2.2⟩)
  have hg1 : g < w1.heap.size := by omega
  obtain ⟨hz0, hz1, hz2⟩ := HC0.out
  clear hb1 hblk hW1
  go_wp2_with fail
  go_region_law (first
    | (go_simp; go_at_call 34; refine (cloneS_any a n c xs _ (HSW.out _ (by rfl)) (by rw [← HS.out.1]; exact hm)).mono ?_; rintro e w2 ⟨SA, sc, rfl, hso, hb2⟩; have hk2 : w2.heap[g]? = (w1.setCell ⟨g, 1, none⟩ (.int .i64 ((last : Int) + 1))).heap[g]? := hb2.block g (by simpa [World.drew, World.setCell] using hg1); obtain ⟨hp0, hp1, hp2⟩ := HPC.out w2 hk2; have HK2 := mkHid hk2; have HSO := mkHid hso; have HB2 := mkHid hb2; have hs2 : w1.heap.size ≤ w2.heap.size := (by have := hb2.size; simpa [World.drew, World.setCell] using this); obtain ⟨hr0, hr1, hr2⟩ := HPA.out w2 (.cells #[.int .i64 ((last : Int) + 1), .slice SA xs.length sc] 69) (by omega) ⟨hp0, hp1, hp2⟩; clear hso hb2 hk2)
    | (refine step_app _ rfl (.tmp 20) (.tmp 28) _ rfl 0 el_entry A m C cells rfl (HOW.out _ (fun b hb hne => (Below.heap_alloc _ _ b (by omega)).trans ((HB2.out.block b (by simpa [World.drew, World.setCell] using hb)).trans (heap_setCell_other _ _ _ _ hne)))) (w2.heap.size + 1) (some ⟨w2.heap.size, 0, none⟩) 1 1 [.int .i64 ((last : Int) + 1), .slice SA xs.length sc] rfl (SL.of_block (heap_alloc_new w2 _) rfl (by omega)) (fun u hu => by simp at hu; rcases hu with rfl | rfl <;> rfl) (by unfold maxLen; omega) (by omega) (by omega) ?_; intro A' c' w3 ho3 hg3 hat3; have hk3 := ((hg3.block g (by simp; omega) (fun e => HRN.out e.symm)).trans (Below.heap_alloc w2 _ g (by omega))).trans HK2.out; obtain ⟨hq0, hq1, hq2⟩ := HPC.out w3 hk3; have HK3 := mkHid hk3; have HO3 := mkHid ho3; have HG3 := mkHid hg3; have HAT3 := mkHid hat3; clear ho3 hg3 hat3 hk3))
  all_goals go_wp2
  all_goals go_ret2
  all_goals exact ⟨rfl, HT.out.added HB1.out HB2.out HSO.out HX.out hm HO3.out HG3.out HAT3.out HK3.out hl hnl⟩

end Go.Proofs.Ytgabjgmimebelaa
