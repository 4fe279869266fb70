/- Disk.Write of a sector's bytes by contract. -/
import Derived.Test.YtpoeneabhoajaaaDoorDkD4
namespace Go.Proofs.YtpoeneabhoajaaaDoor
open Go.RowKit

set_option maxRecDepth 20000 in
set_option maxHeartbeats 2000000 in
theorem write_ok (F : Nat → Prop) (g : Nat) (ss : List Sec) (i : Nat) (s : Sec) (a : Option Addr) (c0 : Nat) (l : List Int) (w : World) (h : DK w F g ss) (hs : ss[i]? = some s) (hx : BS w w.heap.size a 128 l) (hw : s.wait.length < 1000000) :
    Calls Tryd.prog 79 #[.pointer (some ⟨g, 0, none⟩), .int .i64 i, .slice a 128 c0] w fun e w' => e = .returned .nilIface ∧ Turn F w w' ∧ ∃ F', DK w' F' g (ss.set i { s with wait := s.wait ++ [l] }) ∧ ∀ b, F' b → F b ∨ w.heap.size ≤ b := by
  have hil := (List.getElem?_eq_some_iff.1 hs).1
  have hnl := h.nl
  have H := mkHid (has_any F g ss i w h ⟨by omega, by omega⟩)
  rw [show hasOf ss.length (i : Int) = true from decide_eq_true ⟨by omega, by omega⟩] at H
  obtain ⟨A, n, c, ps, qs, h⟩ := h
  have hlen := h.len
  obtain ⟨r, p, q, s', rfl, hp, hp1, hq1, hs', ho⟩ := h.at_ (j := i) (by omega)
  rw [hs] at hs'
  injection hs' with hs'
  subst hs'
  obtain ⟨hc1, hc2⟩ := own_cap h.row
  have d0 := cell_of_row w g 0 _ _ _ h.blk
  simp at d0
  obtain ⟨ga, gc, wa, wn, wc, vs, h1, h2, h3, h4, h5, h6, h7, h8, h9, h10⟩ := ho
  have HADD := mkHid (fun (w2 w3 : World) (CA : Option Addr) (cc : Nat) (A' : Option Addr) (c' : Nat) (o : Obj) hb2 hcl ho3 hg3 hat => h.wrote (w2 := w2) (w3 := w3) (CA := CA) (cc := cc) (l := l) (A' := A') (c' := c') (o := o) hp1 hq1 h2 h1 h3 h4 h5 h6 h7 h8 (by omega) h10 hb2 hcl hx.2 ho3 hg3 hat)
  have hplt := h.lt p h2
  have hqn : (Value.slice wa wn wc).ownBlock ≠ some p := fun e => by
    obtain ⟨cur, h'⟩ := own_type h5 e
    rw [h1] at h'
    simp at h'
  have HQN := mkHid hqn
  have hcapw := own_cap h5
  have HPC := mkHid (show ∀ s1 : World, s1.heap[p]? = w.heap[p]? → s1.cell? ⟨p, 1, none⟩ = some (.slice wa wn wc) ∧ s1.frozen? ⟨p, 1, none⟩ = false from fun s1 hs1 => by
    have hs' := hs1.trans h1
    exact ⟨cell_of_row s1 p 1 _ _ _ hs', frozen_of_row s1 p 1 _ _ hs'⟩)
  have HOW := mkHid (show ∀ W : World, (∀ b, b < w.heap.size → W.heap[b]? = w.heap[b]?) → W.ownsRow 0 37 1 (.slice wa wn wc) wn vs from fun W hW => own_keep h5 hW)
  have HPA := mkHid (show ∀ (s1 : World) (o : Obj), p < s1.heap.size → s1.heap[p]? = w.heap[p]? → (s1.alloc o).cell? ⟨p, 1, none⟩ = some (.slice wa wn wc) ∧ (s1.alloc o).frozen? ⟨p, 1, none⟩ = false from fun s1 o hs1 hh => HPC.out _ ((Below.heap_alloc s1 o p hs1).trans hh))
  have HX := mkHid (show ∀ W : World, W.heap = w.heap → BS W W.heap.size a 128 l from fun W hW => by
    rw [hW]
    exact hx.keep fun b _ => by rw [hW])
  have hxl : l.length = 128 := hx.len
  have hwn : wn < 1000000 := by omega
  obtain ⟨e1, e2⟩ := HPC.out w rfl
  have hin : i < n := by omega
  clear h h1 h2 h3 h4 h5 h6 h7 h8 h9 h10 hs hlen hqn hx hw hil
  go_enter Tryd.func79, Tryd.ntmps79
  go_wp2_with fail
  refine H.out.mono ?_
  rintro e w1 ⟨rfl, rfl⟩
  go_wp2_with fail
  go_region_law (first
    | (go_simp; go_at_call 77; refine (clone_any a 128 c0 l _ (HX.out _ (by rfl)) (by omega)).mono ?_; rintro e w2 ⟨CA, cc, rfl, hcl, hb2⟩; rw [hxl] at hcl ⊢; have hk2 : w2.heap[p]? = w.heap[p]? := hb2.block p hplt; obtain ⟨hp0, hp2⟩ := HPC.out w2 hk2; have HK2 := mkHid hk2; have HCL := mkHid hcl; have HB2 := mkHid hb2; have hs2 : w.heap.size ≤ w2.heap.size := hb2.size; obtain ⟨hr0, hr2⟩ := HPA.out w2 (.cells #[.slice CA 128 cc] 37) (by omega) hk2; clear hcl hb2 hk2)
    | (refine step_app _ rfl (.tmp 30) (.tmp 33) _ rfl 0 el_bs wa wn wc vs rfl (HOW.out _ (fun b hb => (Below.heap_alloc _ _ b (by omega)).trans (HB2.out.block b hb))) (w2.heap.size + 1) (some ⟨w2.heap.size, 0, none⟩) 1 1 [.slice CA 128 cc] rfl (SL.of_block (heap_alloc_new w2 _) rfl (by omega)) (fun u hu => by obtain rfl := List.mem_singleton.1 hu; rfl) (by unfold maxLen; omega) (by omega) (by omega) ?_; intro A' c' w3 ho3 hg3 hat3; obtain ⟨hq0, hq2⟩ := HPC.out w3 (((hg3.block p (by simp; omega) (fun e => HQN.out e.symm)).trans (Below.heap_alloc w2 _ p (by omega))).trans HK2.out); have HO3 := mkHid ho3; have HG3 := mkHid hg3; have HAT3 := mkHid hat3; clear ho3 hg3 hat3))
  all_goals go_wp2
  all_goals go_ret
  all_goals exact ⟨rfl, HADD.out _ _ _ _ _ _ _ (Below.mk HB2.out.os HB2.out.tape HB2.out.output HB2.out.size HB2.out.block) HCL.out HO3.out HG3.out HAT3.out⟩

end Go.Proofs.YtpoeneabhoajaaaDoor
