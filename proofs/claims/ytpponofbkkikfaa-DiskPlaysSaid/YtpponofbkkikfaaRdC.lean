/- The document's disk: more sectors, New, Grow by contract. -/
import Derived.Test.YtpponofbkkikfaaRdB
namespace Go.Proofs.Ytpponofbkkikfaa
open Go.RowKit

/-- The row has one sector more. -/
theorem RDr.snoc {w w2 w3 : World} {F : Nat → Prop} {g : Nat} {A A' : Option Addr} {n c c' : Nat} {cs : List Value} {ss : List Sec} (h : RDr w F g A n c cs ss) {b d : Nat} (hz : ZS w w2 b d)
    (ho3 : w3.ownsRow 0 64 2 (.slice A' (n + 1) c') (n + 1) (cs ++ [.slice (some ⟨b, 0, none⟩) 1 1, .bool false])) {o : Obj} (hg3 : (w2.alloc o).grownBy w3 (Value.slice A n c).ownBlock)
    (hat : (Value.slice A' (n + 1) c').ownBlock = (Value.slice A n c).ownBlock ∨ (Value.slice A' (n + 1) c').ownBlock = some (w2.alloc o).heap.size) (hnm : n + 1 ≤ 4096) :
    Turn F w (w3.setCell ⟨g, 0, none⟩ (.slice A' (n + 1) c')) ∧ ∃ F', RD (w3.setCell ⟨g, 0, none⟩ (.slice A' (n + 1) c')) F' g (ss ++ [sec0]) ∧ ∀ b, F' b → F b ∨ w.heap.size ≤ b := by
  have hb2 := hz.bel
  have s2 := hb2.size
  have s3 : w2.heap.size + 1 ≤ w3.heap.size := by have := hg3.size; simpa using this
  have s4 : (w3.setCell ⟨g, 0, none⟩ (.slice A' (n + 1) c')).heap.size = w3.heap.size := by simp [World.setCell]
  have hglt := h.lt g h.fg
  have hrlt : ∀ b, (Value.slice A n c).ownBlock = some b → b < w.heap.size := fun b hb => h.lt b (h.fr b hb)
  have hgr : (Value.slice A n c).ownBlock ≠ some g := fun e => by
    obtain ⟨cur, h'⟩ := own_type h.row e
    rw [h.blk] at h'
    simp at h'
  have keep2 : ∀ b, b < w2.heap.size → ¬ (b = g ∨ (Value.slice A n c).ownBlock = some b) → (w3.setCell ⟨g, 0, none⟩ (.slice A' (n + 1) c')).heap[b]? = w2.heap[b]? := fun b hb hno =>
    (heap_setCell_other _ _ _ _ fun e => hno (.inl e)).trans ((hg3.block b (by simp; omega) fun e => hno (.inr e.symm)).trans (Below.heap_alloc _ _ _ hb))
  have keep : ∀ b, b < w.heap.size → ¬ (b = g ∨ (Value.slice A n c).ownBlock = some b) → (w3.setCell ⟨g, 0, none⟩ (.slice A' (n + 1) c')).heap[b]? = w.heap[b]? := fun b hb hno => (keep2 b (by omega) hno).trans (hb2.block b hb)
  have hblk : w3.heap[g]? = some (.cells #[.slice A n c] 61 (0, 0)) := (((hg3.block g (by simp; omega) fun e => hgr e.symm).trans (Below.heap_alloc _ _ _ (by omega))).trans (hb2.block g hglt)).trans h.blk
  have hcl : cs.length = n * 2 := h.row.1
  have hF : ∀ b, F b → F b ∨ (w.heap.size ≤ b ∧ b < w3.heap.size) := fun b hb => .inl hb
  refine ⟨⟨hg3.os.trans hb2.os, hg3.tape.trans hb2.tape, hg3.output.trans hb2.output, by omega, fun k hk hf => keep k hk fun e => hf ?_⟩, fun b => F b ∨ (w.heap.size ≤ b ∧ b < w3.heap.size), ⟨A', n + 1, c', cs ++ [.slice (some ⟨b, 0, none⟩) 1 1, .bool false], ?_⟩, fun b hb => hb.imp id fun h => h.1⟩
  · rcases e with e | e
    · exact e ▸ h.fg
    · exact h.fr k e
  refine ⟨heap_setCell_same _ _ _ _ _ _ hblk, ⟨ho3.1, ?_⟩, fun j s hj => ?_, by simp [h.len], .inl h.fg, fun r hr => ?_, fun b hb => ?_, hnm⟩
  · rcases ho3.2 with h0 | ⟨r', cap, cur, e1, e2, e3, e4⟩
    · exact .inl h0
    · refine .inr ⟨r', cap, cur, e1, e2, (heap_setCell_other _ _ _ _ fun e => ?_).trans e3, e4⟩
      have e : r' = g := e
      rw [e, hblk] at e3
      simp at e3
  · by_cases hjl : j < ss.length
    · rw [List.getElem?_append_left hjl] at hj
      have hjn : j < n := by rw [← h.len]; exact hjl
      exact ((h.sec j s hj).cells (List.getElem?_append_left (by omega)) (List.getElem?_append_left (by omega))).keepX (M := fun b => b = g ∨ (Value.slice A n c).ownBlock = some b) (fun b hb hm => keep b (h.lt b hb) hm) (fun b cur fr hm => (h.kinds hm).1 cur fr) (fun b cur fr hm => (h.kinds hm).2 cur fr) hF
    · have hjl2 := (List.getElem?_eq_some_iff.1 hj).1
      rw [List.length_append, List.length_singleton] at hjl2
      have hjn : j = n := by rw [← h.len]; omega
      rw [List.getElem?_append_right (by omega), show j - ss.length = 0 by omega] at hj
      injection hj with hj
      subst hj
      refine ⟨some ⟨b, 0, none⟩, 1, by rw [List.getElem?_append_right (by omega), hcl, hjn, Nat.sub_self]; rfl, by rw [List.getElem?_append_right (by omega), hcl, hjn, show n * 2 + 1 - n * 2 = 1 by omega]; rfl, ⟨Nat.le_refl _, by unfold maxLen; omega⟩, by simp [sec0], ?_⟩
      have hnew : ∀ b, w.heap.size ≤ b → ¬ (b = g ∨ (Value.slice A n c).ownBlock = some b) := fun b hb hm => by
        rcases hm with e | e
        · omega
        · have := hrlt b e; omega
      exact (hz.vals (F := fun b => w.heap.size ≤ b ∧ b < w2.heap.size) (fun b h1 h2 => ⟨h1, h2⟩)).keep (fun b hb => keep2 b hb.2 (hnew b hb.1)) fun b hb => .inr ⟨hb.1, by omega⟩
  · rcases hat with e | e
    · exact .inl (h.fr r (by rw [← e]; exact hr))
    · have h1 := (ho3.lt r hr).2
      rw [hr] at e
      injection e with e
      exact .inr ⟨by rw [e]; simp; omega, h1⟩
  · rw [s4]
    rcases hb with hb | hb
    · have := h.lt b hb; omega
    · exact hb.2

set_option maxRecDepth 20000 in
set_option maxHeartbeats 2000000 in
theorem rmore_any (F : Nat → Prop) (g : Nat) (ss : List Sec) (m : Nat) (w : World) (h : RD w F g ss) (hm2 : ss.length + m ≤ 4096) :
    Calls Try.prog 35 #[.pointer (some ⟨g, 0, none⟩), .int .i64 m] w fun e w' => e = .returned (.tuple #[]) ∧ Turn F w w' ∧ ∃ F', RD w' F' g (ss ++ List.replicate m sec0) ∧ ∀ b, F' b → F b ∨ w.heap.size ≤ b := by
  have H := mkHid h
  clear h
  go_enter Try.func35, Try.ntmps35
  go_wp2_with fail
  go_loopw [4] (fun i wr => ∃ (q : Nat) (F' : Nat → Prop), q ≤ m ∧ i = .int .i64 q ∧ Turn F w wr ∧ RD wr F' g (ss ++ List.replicate q sec0) ∧ ∀ b, F' b → F b ∨ w.heap.size ≤ b) (fun i _ => m - (intOf i).toNat)
  case atStart => exact ⟨0, F, Nat.zero_le _, rfl, Turn.of_below (Below.refl _ _), by simpa using H.out, fun b hb => .inl hb⟩
  case round =>
    obtain ⟨q, F', hq, rfl, ht, hd, hF⟩ := hrel
    have HT := mkHid ht
    have HF := mkHid hF
    by_cases hlt : q < m
    · obtain ⟨A, n, c, cs, h⟩ := hd
      have hn : n = ss.length + q := by rw [← h.len]; simp
      have hn1 : n + 1 ≤ 4096 := by omega
      have hglt := h.lt g h.fg
      obtain ⟨hc1, hc2⟩ := own_cap h.row
      have HGR := mkHid (fun (w2 w3 : World) (A' : Option Addr) (c' b d : Nat) (o : Obj) hz ho3 hg3 hat => h.snoc (w2 := w2) (w3 := w3) (A' := A') (c' := c') (b := b) (d := d) (o := o) hz ho3 hg3 hat hn1)
      have hgr : (Value.slice A n c).ownBlock ≠ some g := fun e => by
        obtain ⟨cur, h'⟩ := own_type h.row e
        rw [h.blk] at h'
        simp at h'
      have HQN := mkHid hgr
      have HPC := mkHid (show ∀ s1 : World, s1.heap[g]? = wr.heap[g]? → s1.cell? ⟨g, 0, none⟩ = some (.slice A n c) ∧ s1.frozen? ⟨g, 0, none⟩ = false from fun s1 hs1 => by
        have hs' := hs1.trans h.blk
        exact ⟨cell_of_row s1 g 0 _ _ _ hs', frozen_of_row s1 g 0 _ _ hs'⟩)
      have HOW := mkHid (show ∀ W : World, (∀ b, b < wr.heap.size → W.heap[b]? = wr.heap[b]?) → W.ownsRow 0 64 2 (.slice A n c) n cs from fun W hW => own_keep h.row hW)
      obtain ⟨e1, e2⟩ := HPC.out wr rfl
      have HN := mkHid hn
      clear h hgr ht hF hn
      go_wp2_with fail
      go_region_law (first
        | (go_simp; go_at_call 44; refine (zero_any _).mono ?_; rintro e w2 ⟨zb, zd, rfl, hz⟩; have hk2 : w2.heap[g]? = wr.heap[g]? := hz.bel.block g hglt; obtain ⟨hp0, hp2⟩ := HPC.out w2 hk2; obtain ⟨hp3, hp4⟩ := HPC.out (w2.alloc (.cells #[.slice (some ⟨zb, 0, none⟩) 1 1, .bool false] 64)) ((Below.heap_alloc _ _ _ (Nat.lt_of_lt_of_le hglt hz.bel.size)).trans hk2); have HK2 := mkHid hk2; have HZ := mkHid hz; have hs2 : wr.heap.size ≤ w2.heap.size := hz.bel.size; clear hz hk2)
        | (refine step_app _ rfl (.tmp 14) (.tmp 16) _ rfl 0 el_rsec A n c cs rfl (HOW.out _ (fun b hb => (Below.heap_alloc _ _ _ (by omega)).trans (HZ.out.bel.block b hb))) (w2.heap.size + 1) (some ⟨w2.heap.size, 0, none⟩) 1 1 [.slice (some ⟨zb, 0, none⟩) 1 1, .bool false] rfl (SL.of_block (heap_alloc_new _ _) rfl (by omega)) (fun u hu => by simp at hu; rcases hu with rfl | rfl <;> rfl) (by unfold maxLen; omega) (by omega) (by omega) ?_; intro A' c' w3 ho3 hg3 hat3; obtain ⟨hq0, hq2⟩ := HPC.out w3 ((hg3.block g (by simp; omega) (fun e => HQN.out e.symm)).trans ((Below.heap_alloc _ _ _ (by omega)).trans HK2.out)); have HO3 := mkHid ho3; have HG3 := mkHid hg3; have HAT3 := mkHid hat3; clear ho3 hg3 hat3))
      all_goals go_wp2
      all_goals have hst := HGR.out _ _ _ _ _ _ _ ⟨HZ.out.vb, HZ.out.vd, HZ.out.b0, HZ.out.d0, HZ.out.b1, HZ.out.d1, Below.mk HZ.out.bel.os HZ.out.bel.tape HZ.out.bel.output HZ.out.bel.size HZ.out.bel.block⟩ HO3.out HG3.out HAT3.out
      all_goals obtain ⟨k1, F'', k2, k3⟩ := hst
      all_goals have K1 := mkHid k1
      all_goals have K2 := mkHid k2
      all_goals have K3 := mkHid k3
      all_goals clear k1 k2 k3
      all_goals go_roundw
      all_goals first
        | exact ⟨q + 1, F'', by omega, by go_num, HT.out.trans K1.out HF.out, by rw [List.replicate_succ', ← List.append_assoc]; exact K2.out, fun b hb => (K3.out b hb).elim (HF.out b) fun h => .inr (Nat.le_trans HT.out.size h)⟩
        | (simp [intOf]; omega)
    · obtain rfl : q = m := by omega
      have HD := mkHid hd
      clear hd ht hF
      go_wp2_with fail
      go_end0
      exact ⟨rfl, HT.out, F', HD.out, HF.out⟩

theorem RD.new {w : World} {F : Nat → Prop} {g : Nat} (h : w.heap[g]? = some (.cells #[.slice none 0 0] 61 (0, 0))) : RD w (fun b => b = g) g [] :=
  ⟨none, 0, 0, [], h, World.ownsRow_nil _ _ _ _, (fun j s hj => by simp at hj), rfl, rfl, (fun r hr => by cases hr), (fun b (hb : b = g) => by rw [hb]; exact (Array.getElem?_eq_some_iff.1 h).1), by omega⟩

set_option maxRecDepth 20000 in
theorem rnew_any (n : Nat) (w : World) (h1 : 1 ≤ n) (h2 : n ≤ 4096) : Calls Try.prog 25 #[.int .i64 n] w fun e w' => ∃ g F, e = .returned (.pointer (some ⟨g, 0, none⟩)) ∧ RD w' F g (List.replicate n sec0) ∧ (∀ b, F b → w.heap.size ≤ b) ∧ Below w.heap.size w w' := by
  have HD := mkHid (RD.new (F := fun _ => False) (heap_alloc_new w (.cells #[.slice none 0 0] 61)))
  go_enter Try.func25, Try.ntmps25
  go_wp2_with fail
  refine (rmore_any _ w.heap.size [] n _ HD.out (by simpa using h2)).mono ?_
  rintro e w1 ⟨rfl, ht, F', hd, hF⟩
  rw [List.nil_append] at hd
  have HD1 := mkHid hd
  have HF := mkHid (show ∀ b, F' b → w.heap.size ≤ b from fun b hb => by
    rcases hF b hb with e | e
    · omega
    · simp at e; omega)
  have HB := mkHid (((Below.refl w.heap.size w).alloc (Nat.le_refl _) (.cells #[.slice none 0 0] 61)).trans (ht.below (fun b hb => by omega) (by simp)))
  clear ht hd hF
  go_wp2_with fail
  go_ret
  exact ⟨_, F', rfl, HD1.out, HF.out, HB.out⟩
theorem rnew_no (n : Int) (w : World) (hn : I64 n) (h : n < 1 ∨ 4096 < n) : Calls Try.prog 25 #[.int .i64 n] w fun e w' => e = .returned (.pointer none) ∧ w = w' := by
  obtain ⟨n0, n1⟩ := hn
  rcases h with h | h
  · go_enter Try.func25, Try.ntmps25
    go_wp2_with fail
    go_ret
    exact ⟨rfl, rfl⟩
  · go_enter Try.func25, Try.ntmps25
    go_wp2_with fail
    go_ret
    exact ⟨rfl, rfl⟩

set_option maxRecDepth 20000 in
theorem rgrow_no (F : Nat → Prop) (g : Nat) (ss : List Sec) (m : Int) (w : World) (h : RD w F g ss) (hm : I64 m) (hb : m < 1 ∨ 4096 - (ss.length : Int) < m) :
    Calls Try.prog 38 #[.pointer (some ⟨g, 0, none⟩), .int .i64 m] w fun e w' => e = .returned (.int .i64 20) ∧ w = w' := by
  obtain ⟨A, n, c, cs, h⟩ := h
  rw [h.len] at hb
  have c0 := cell_of_row w g 0 _ _ _ h.blk
  have hnl := h.nl
  simp at c0
  obtain ⟨m0, m1⟩ := hm
  clear h
  by_cases h1 : m < 1
  · go_enter Try.func38, Try.ntmps38
    go_wp2_with fail
    go_ret
    exact ⟨rfl, rfl⟩
  · have h2 : 4096 - (n : Int) < m := by omega
    clear hb
    go_enter Try.func38, Try.ntmps38
    go_wp2_with fail
    go_ret
    exact ⟨rfl, rfl⟩

set_option maxRecDepth 20000 in
theorem rgrow_ok (F : Nat → Prop) (g : Nat) (ss : List Sec) (m : Nat) (w : World) (h : RD w F g ss) (hm1 : 1 ≤ m) (hm2 : ss.length + m ≤ 4096) :
    Calls Try.prog 38 #[.pointer (some ⟨g, 0, none⟩), .int .i64 m] w fun e w' => e = .returned (.int .i64 0) ∧ Turn F w w' ∧ ∃ F', RD w' F' g (ss ++ List.replicate m sec0) ∧ ∀ b, F' b → F b ∨ w.heap.size ≤ b := by
  have HM := mkHid (rmore_any F g ss m w h hm2)
  obtain ⟨A, n, c, cs, h⟩ := h
  rw [h.len] at hm2
  have c0 := cell_of_row w g 0 _ _ _ h.blk
  simp at c0
  have hle : (m : Int) ≤ 4096 - (n : Int) := by omega
  clear h
  go_enter Try.func38, Try.ntmps38
  go_wp2_with fail
  refine HM.out.mono ?_
  rintro e w1 ⟨rfl, ht, F', hd, hF⟩
  have HT := mkHid ht
  have HD := mkHid hd
  have HF := mkHid hF
  clear ht hd hF
  go_wp2_with fail
  go_ret
  exact ⟨rfl, HT.out, F', HD.out, HF.out⟩

end Go.Proofs.Ytpponofbkkikfaa
