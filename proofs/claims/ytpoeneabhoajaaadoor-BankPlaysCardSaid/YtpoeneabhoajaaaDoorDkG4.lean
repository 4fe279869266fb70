/- Disk.Grow by contract. -/
import Derived.Test.YtpoeneabhoajaaaDoorDkF4
namespace Go.Proofs.YtpoeneabhoajaaaDoor
open Go.RowKit

theorem DKr.grown {w w2 w3 : World} {F : Nat → Prop} {g : Nat} {A A' : Option Addr} {n c m c' : Nat} {ps ps' : List Nat} {qs : List (Option Nat)} {ss : List Sec} (h : DKr w F g A n c ps qs ss) (hb2 : Below w.heap.size w w2)
    (hs2 : SR w2 (fun b => w.heap.size ≤ b ∧ b < w2.heap.size) ps' (List.replicate m none) (List.replicate m sec0))
    (ho3 : w3.ownsRow 0 112 1 (.slice A' (n + m) c') (n + m) (ps.map ptrV ++ ps'.map ptrV)) (hg3 : w2.grownBy w3 (Value.slice A n c).ownBlock)
    (hat : (Value.slice A' (n + m) c').ownBlock = (Value.slice A n c).ownBlock ∨ (Value.slice A' (n + m) c').ownBlock = some w2.heap.size) (hnm : n + m ≤ 4096) :
    Turn F w (w3.setCell ⟨g, 0, none⟩ (.slice A' (n + m) c')) ∧ ∃ F', DK (w3.setCell ⟨g, 0, none⟩ (.slice A' (n + m) c')) F' g (ss ++ List.replicate m sec0) ∧ ∀ b, F' b → F b ∨ w.heap.size ≤ b := by
  have s2 := hb2.size
  have s3 := hg3.size
  have s4 : (w3.setCell ⟨g, 0, none⟩ (.slice A' (n + m) c')).heap.size = w3.heap.size := by simp [World.setCell]
  have hglt := h.lt g h.fg
  have hrlt : ∀ b, (Value.slice A n c).ownBlock = some b → b < w.heap.size := fun b hb => h.lt b (h.fr b hb)
  have hgr : (Value.slice A n c).ownBlock ≠ some g := fun e => by
    obtain ⟨cur, h'⟩ := own_type h.row e
    rw [h.blk] at h'
    simp at h'
  have keep2 : ∀ b, b < w2.heap.size → ¬ (b = g ∨ (Value.slice A n c).ownBlock = some b) → (w3.setCell ⟨g, 0, none⟩ (.slice A' (n + m) c')).heap[b]? = w2.heap[b]? := fun b hb hno =>
    (heap_setCell_other _ _ _ _ fun e => hno (.inl e)).trans (hg3.block b hb fun e => hno (.inr e.symm))
  have keep : ∀ b, b < w.heap.size → ¬ (b = g ∨ (Value.slice A n c).ownBlock = some b) → (w3.setCell ⟨g, 0, none⟩ (.slice A' (n + m) c')).heap[b]? = w.heap[b]? := fun b hb hno => (keep2 b (by omega) hno).trans (hb2.block b hb)
  have hblk : w3.heap[g]? = some (.cells #[.slice A n c] 92 (0, 0)) := ((hg3.block g (by omega) fun e => hgr e.symm).trans (hb2.block g hglt)).trans h.blk
  have hM : ∀ b cur fr, (b = g ∨ (Value.slice A n c).ownBlock = some b) → w.heap[b]? ≠ some (.cells cur 5 fr) := fun b cur fr hb hh => by
    rcases hb with e | e
    · subst e; rw [h.blk] at hh; simp at hh
    · obtain ⟨cur', h'⟩ := own_type h.row e
      rw [h'] at hh; simp at hh
  have hMlt : ∀ b, (b = g ∨ (Value.slice A n c).ownBlock = some b) → b < w.heap.size := fun b hb => by
    rcases hb with e | e
    · omega
    · exact hrlt b e
  have hMp : ∀ p, (∃ cs, w.heap[p]? = some (.cells cs 114 (0, 0))) → ¬ (p = g ∨ (Value.slice A n c).ownBlock = some p) := fun p ⟨cs, h1⟩ hb => by
    rcases hb with e | e
    · subst e; rw [h.blk] at h1; simp at h1
    · obtain ⟨cur', h'⟩ := own_type h.row e
      rw [h'] at h1; simp at h1
  have hMq : ∀ p, (∃ cs, w.heap[p]? = some (.cells cs 37 (0, 0))) → ¬ (p = g ∨ (Value.slice A n c).ownBlock = some p) := fun p ⟨cs, h1⟩ hb => by
    rcases hb with e | e
    · subst e; rw [h.blk] at h1; simp at h1
    · obtain ⟨cur', h'⟩ := own_type h.row e
      rw [h'] at h1; simp at h1
  refine ⟨⟨hg3.os.trans hb2.os, hg3.tape.trans hb2.tape, hg3.output.trans hb2.output, by omega, fun k hk hf => keep k hk fun e => hf ?_⟩, fun b => F b ∨ (w.heap.size ≤ b ∧ b < w3.heap.size), ⟨A', n + m, c', ps ++ ps', qs ++ List.replicate m none, ?_⟩, fun b hb => hb.imp id fun h => h.1⟩
  · rcases e with e | e
    · exact e ▸ h.fg
    · exact h.fr k e
  refine ⟨heap_setCell_same _ _ _ _ _ _ hblk, ⟨by rw [List.map_append]; exact ho3.1, ?_⟩, ?_, .inl h.fg, fun r hr => ?_, fun b hb => ?_, hnm⟩
  · rcases ho3.2 with h0 | ⟨r', cap, cur, e1, e2, e3, e4⟩
    · exact .inl h0
    · refine .inr ⟨r', cap, cur, e1, e2, (heap_setCell_other _ _ _ _ fun e => ?_).trans e3, by rw [List.map_append]; exact e4⟩
      have e : r' = g := e
      rw [e, hblk] at e3
      simp at e3
  · refine SR.append (h.sr.keepX (M := fun b => b = g ∨ (Value.slice A n c).ownBlock = some b) (fun b hb hm => keep b (h.lt b hb) hm) hM (fun p hp => hMp p (h.sr.fp p hp).2) (fun k hk => hMq k (h.sr.fq k hk).2) fun b hb => .inl hb) (hs2.keepX (M := fun b => b = g ∨ (Value.slice A n c).ownBlock = some b) (fun b hb hm => keep2 b hb.2 hm) (fun b cur fr hm hh => hM b cur fr hm ?_) (fun p hp hm => ?_) (fun k hk => ?_) fun b hb => .inr ⟨hb.1, by have := hb.2; omega⟩) (fun p hp hp' => ?_) (fun k hk hk' => ?_)
    · rw [← hb2.block b (hMlt b hm)]; exact hh
    · have := (hs2.fp p hp).1.1
      have := hMlt p hm
      omega
    · simp [List.mem_replicate] at hk
    · have h1 := (hs2.fp p hp').1.1
      have h2 := h.lt p (h.sr.fp p hp).1
      omega
    · simp [List.mem_replicate] at hk'
  · rcases hat with e | e
    · exact .inl (h.fr r (by rw [← e]; exact hr))
    · have h1 := (ho3.lt r hr).2
      rw [hr] at e
      injection e with e
      exact .inr ⟨by omega, h1⟩
  · rw [s4]
    rcases hb with hb | hb
    · have := h.lt b hb; omega
    · exact hb.2

set_option maxRecDepth 20000 in
theorem grow_no (F : Nat → Prop) (g : Nat) (ss : List Sec) (m : Int) (w : World) (h : DK w F g ss) (hm : I64 m) (hb : m < 1 ∨ 4096 - (ss.length : Int) < m) :
    Calls Tryd.prog 52 #[.pointer (some ⟨g, 0, none⟩), .int .i64 m] w fun e w' => e = .returned (.iface 54 (.int .i64 20)) ∧ w = w' := by
  obtain ⟨A, n, c, ps, qs, h⟩ := h
  rw [h.len] at hb
  have c0 := cell_of_row w g 0 _ _ _ h.blk
  have hnl := h.nl
  simp at c0
  obtain ⟨m0, m1⟩ := hm
  clear h
  by_cases h1 : m < 1
  · go_enter Tryd.func52, Tryd.ntmps52
    go_wp2_with fail
    go_ret
    exact ⟨rfl, rfl⟩
  · have h2 : 4096 - (n : Int) < m := by omega
    clear hb
    go_enter Tryd.func52, Tryd.ntmps52
    go_wp2_with fail
    go_ret
    exact ⟨rfl, rfl⟩

set_option maxRecDepth 20000 in
set_option maxHeartbeats 2000000 in
theorem grow_ok (F : Nat → Prop) (g : Nat) (ss : List Sec) (m : Nat) (w : World) (h : DK w F g ss) (hm1 : 1 ≤ m) (hm2 : ss.length + m ≤ 4096) :
    Calls Tryd.prog 52 #[.pointer (some ⟨g, 0, none⟩), .int .i64 m] w fun e w' => e = .returned .nilIface ∧ Turn F w w' ∧ ∃ F', DK w' F' g (ss ++ List.replicate m sec0) ∧ ∀ b, F' b → F b ∨ w.heap.size ≤ b := by
  obtain ⟨A, n, c, ps, qs, h⟩ := h
  rw [h.len] at hm2
  have hglt := h.lt g h.fg
  obtain ⟨hc1, hc2⟩ := own_cap h.row
  have HGR := mkHid (fun (w2 w3 : World) (A' : Option Addr) (c' : Nat) (ps' : List Nat) hb2 hs2 ho3 hg3 hat => h.grown (w2 := w2) (w3 := w3) (A' := A') (m := m) (c' := c') (ps' := ps') hb2 hs2 ho3 hg3 hat hm2)
  have hgr : (Value.slice A n c).ownBlock ≠ some g := fun e => by
    obtain ⟨cur, h'⟩ := own_type h.row e
    rw [h.blk] at h'
    simp at h'
  have HQN := mkHid hgr
  have HPC := mkHid (show ∀ s1 : World, s1.heap[g]? = w.heap[g]? → s1.cell? ⟨g, 0, none⟩ = some (.slice A n c) ∧ s1.frozen? ⟨g, 0, none⟩ = false from fun s1 hs1 => by
    have hs' := hs1.trans h.blk
    exact ⟨cell_of_row s1 g 0 _ _ _ hs', frozen_of_row s1 g 0 _ _ hs'⟩)
  have HOW := mkHid (show ∀ W : World, (∀ b, b < w.heap.size → W.heap[b]? = w.heap[b]?) → W.ownsRow 0 112 1 (.slice A n c) n (ps.map ptrV) from fun W hW => own_keep h.row hW)
  obtain ⟨e1, e2⟩ := HPC.out w rfl
  have hle : (m : Int) ≤ 4096 - (n : Int) := by omega
  clear h hgr
  go_enter Tryd.func52, Tryd.ntmps52
  go_wp2_with fail
  go_region_law (first
    | (go_simp; go_at_call 45; refine (fresh_any m _ (by omega)).mono ?_; rintro e w2 ⟨FA, fc, ps', rfl, hfo, hfs, hb2⟩; have hk2 : w2.heap[g]? = w.heap[g]? := hb2.block g hglt; obtain ⟨hp0, hp2⟩ := HPC.out w2 hk2; have HK2 := mkHid hk2; have HFO := mkHid hfo; have HFS := mkHid hfs; have HB2 := mkHid hb2; have hs2 : w.heap.size ≤ w2.heap.size := hb2.size; clear hfo hfs hb2 hk2)
    | (refine step_app _ rfl (.tmp 22) (.tmp 24) _ rfl 0 el_sec A n c (ps.map ptrV) rfl (HOW.out _ (fun b hb => HB2.out.block b hb)) _ FA m fc (ps'.map ptrV) rfl (SL.of_own HFO.out) (fun u hu => by obtain ⟨p, _, rfl⟩ := List.mem_map.1 hu; rfl) (by unfold maxLen; omega) (by omega) (by omega) ?_; intro A' c' w3 ho3 hg3 hat3; obtain ⟨hq0, hq2⟩ := HPC.out w3 ((hg3.block g (by omega) (fun e => HQN.out e.symm)).trans HK2.out); have HO3 := mkHid ho3; have HG3 := mkHid hg3; have HAT3 := mkHid hat3; clear ho3 hg3 hat3))
  all_goals go_wp2
  all_goals go_ret
  all_goals exact ⟨rfl, HGR.out _ _ _ _ _ (Below.mk HB2.out.os HB2.out.tape HB2.out.output HB2.out.size HB2.out.block) HFS.out HO3.out HG3.out HAT3.out⟩

end Go.Proofs.YtpoeneabhoajaaaDoor
