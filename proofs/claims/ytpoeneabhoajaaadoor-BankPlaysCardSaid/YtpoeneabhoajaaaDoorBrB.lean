/- The document's bank: look, count, New by contract. -/
import Derived.Test.YtpoeneabhoajaaaDoorBrA
namespace Go.Proofs.YtpoeneabhoajaaaDoor
open Go.RowKit

theorem RBK.dev {w : World} {F : Nat → Prop} {g : Nat} {A : Option Addr} {n c : Nat} {ps : List (Option Nat)} {Fs : Nat → Nat → Prop} {s : Bst} (h : RBK w F g A n c ps Fs s) {j : Nat} {ss : List Sec} (hj : s.ds[j]? = some (some ss)) : ∃ r p, A = some ⟨r, 0, none⟩ ∧ ps[j]? = some (some p) ∧ w.cell? ⟨r, j, none⟩ = some (ptrV p) ∧ RD w (Fs j) p ss ∧ j < n := by
  have hkl := (List.getElem?_eq_some_iff.1 hj).1
  rw [h.len] at hkl
  obtain ⟨r, q, hA, hq, hcell, _⟩ := h.at_ hkl
  obtain ⟨p, hp, hd⟩ := h.dk j ss hj
  rw [hq] at hp
  injection hp with hp
  subst hp
  exact ⟨r, p, hA, hq, hcell, hd, hkl⟩

set_option maxRecDepth 20000 in
theorem rlook_up (F : Nat → Prop) (g : Nat) (A : Option Addr) (n c : Nat) (ps : List (Option Nat)) (Fs : Nat → Nat → Prop) (s : Bst) (i : Int) (w : World) (h : RBK w F g A n c ps Fs s) (hi : I64 i) :
    Calls Tryd.prog 53 #[.pointer (some ⟨g, 0, none⟩), .int .i64 i, .bool true] w fun e w' => e = .returned (.int .i64 (s.liveE i)) ∧ w = w' := by
  have c0 := cell_of_row w g 0 _ _ _ h.blk
  have c2 := cell_of_row w g 2 _ _ _ h.blk
  have hn8 := h.n8
  have hlen := h.len
  obtain ⟨hc1, hc2⟩ := own_cap h.row
  simp at c0 c2
  obtain ⟨i0, i1⟩ := hi
  cases hd : s.down with
  | true =>
    have HE := mkHid (show s.liveE i = 22 by unfold Bst.liveE; rw [if_pos hd])
    rw [hd] at c2
    clear hd h hlen
    go_enter Tryd.func53, Tryd.ntmps53
    go_wp2_with fail
    go_ret
    exact ⟨ret_int (by rw [HE.out]), rfl⟩
  | false =>
  have HE := mkHid (show s.liveE i = s.devE i by unfold Bst.liveE; rw [if_neg (by rw [hd]; simp)])
  rw [hd] at c2
  clear hd
  rcases dev_cases s i with ⟨h1, h2⟩ | ⟨k, rfl, h1, h2⟩ | ⟨k, ss, rfl, h1, h2, h3⟩
  · have HV := mkHid h2
    have h1 := of_decide_eq_false h1
    rw [hlen] at h1
    clear h h2 hlen
    by_cases hneg : i < 0
    · clear h1
      go_enter Tryd.func53, Tryd.ntmps53
      go_wp2_with fail
      go_ret
      exact ⟨ret_int (by rw [HE.out, HV.out]), rfl⟩
    · have hge : (n : Int) ≤ i := by omega
      clear h1
      go_enter Tryd.func53, Tryd.ntmps53
      go_wp2_with fail
      go_ret
      exact ⟨ret_int (by rw [HE.out, HV.out]), rfl⟩
  · have HV := mkHid h2
    have hkl := (List.getElem?_eq_some_iff.1 h1).1
    rw [hlen] at hkl
    obtain ⟨r, q, rfl, hq, hcell, _⟩ := h.at_ hkl
    have hno := h.no k h1
    rw [hq] at hno
    injection hno with hno
    subst hno
    simp only [ptrO] at hcell
    clear h h1 h2 hq hlen
    go_enter Tryd.func53, Tryd.ntmps53
    go_wp2_with fail
    go_ret
    exact ⟨ret_int (by rw [HE.out, HV.out]), rfl⟩
  · have HV := mkHid h2
    obtain ⟨r, p, rfl, hp, hcell, _, hkl⟩ := h.dev h1
    simp only [ptrV] at hcell
    clear h h1 h2 h3 hp hlen
    go_enter Tryd.func53, Tryd.ntmps53
    go_wp2_with fail
    go_ret
    exact ⟨ret_int (by rw [HE.out, HV.out]), rfl⟩

set_option maxRecDepth 20000 in
theorem rlook_dev (F : Nat → Prop) (g : Nat) (A : Option Addr) (n c : Nat) (ps : List (Option Nat)) (Fs : Nat → Nat → Prop) (s : Bst) (i : Int) (w : World) (h : RBK w F g A n c ps Fs s) (hi : I64 i) :
    Calls Tryd.prog 53 #[.pointer (some ⟨g, 0, none⟩), .int .i64 i, .bool false] w fun e w' => e = .returned (.int .i64 (s.devE i)) ∧ w = w' := by
  have c0 := cell_of_row w g 0 _ _ _ h.blk
  have c2 := cell_of_row w g 2 _ _ _ h.blk
  have hn8 := h.n8
  have hlen := h.len
  obtain ⟨hc1, hc2⟩ := own_cap h.row
  simp at c0 c2
  obtain ⟨i0, i1⟩ := hi
  obtain ⟨dn, hdn⟩ : ∃ b, s.down = b := ⟨_, rfl⟩
  rw [hdn] at c2
  clear hdn
  rcases dev_cases s i with ⟨h1, h2⟩ | ⟨k, rfl, h1, h2⟩ | ⟨k, ss, rfl, h1, h2, h3⟩
  · have HV := mkHid h2
    have h1 := of_decide_eq_false h1
    rw [hlen] at h1
    clear h h2 hlen
    by_cases hneg : i < 0
    · clear h1
      go_enter Tryd.func53, Tryd.ntmps53
      go_wp2_with fail
      go_ret
      exact ⟨ret_int (by rw [HV.out]), rfl⟩
    · have hge : (n : Int) ≤ i := by omega
      clear h1
      go_enter Tryd.func53, Tryd.ntmps53
      go_wp2_with fail
      go_ret
      exact ⟨ret_int (by rw [HV.out]), rfl⟩
  · have HV := mkHid h2
    have hkl := (List.getElem?_eq_some_iff.1 h1).1
    rw [hlen] at hkl
    obtain ⟨r, q, rfl, hq, hcell, _⟩ := h.at_ hkl
    have hno := h.no k h1
    rw [hq] at hno
    injection hno with hno
    subst hno
    simp only [ptrO] at hcell
    clear h h1 h2 hq hlen
    go_enter Tryd.func53, Tryd.ntmps53
    go_wp2_with fail
    go_ret
    exact ⟨ret_int (by rw [HV.out]), rfl⟩
  · have HV := mkHid h2
    obtain ⟨r, p, rfl, hp, hcell, _, hkl⟩ := h.dev h1
    simp only [ptrV] at hcell
    clear h h1 h2 h3 hp hlen
    go_enter Tryd.func53, Tryd.ntmps53
    go_wp2_with fail
    go_ret
    exact ⟨ret_int (by rw [HV.out]), rfl⟩

set_option maxRecDepth 20000 in
theorem rcount_any (F : Nat → Prop) (g : Nat) (A : Option Addr) (n c : Nat) (ps : List (Option Nat)) (Fs : Nat → Nat → Prop) (s : Bst) (w : World) (h : RBK w F g A n c ps Fs s) (hd : 0 ≤ s.done ∧ s.done ≤ 1000000000) :
    Calls Tryd.prog 59 #[.pointer (some ⟨g, 0, none⟩)] w fun e w' => e = .returned (.int .i64 s.countE) ∧ Turn F w w' ∧ RBK w' F g A n c ps Fs s.counted := by
  have hb := h.blk
  have c1 := cell_of_row w g 1 _ _ _ hb
  have c2 := cell_of_row w g 2 _ _ _ hb
  have c3 := cell_of_row w g 3 _ _ _ hb
  have f := fun k => frozen_of_row w g k _ _ hb
  simp at c1 c2 c3
  obtain ⟨hd0, hd1⟩ := hd
  obtain ⟨hl1, hl2, hl3⟩ := h.lf
  have hs1 : ∀ k v, (w.setCell ⟨g, k, none⟩ v).heap.size = w.heap.size := fun k v => by simp [World.setCell]
  have HK := mkHid (show ∀ k v, (∀ b, b ≠ g → (w.setCell ⟨g, k, none⟩ v).heap[b]? = w.heap[b]?) from fun k v b hb => heap_setCell_other _ _ _ _ hb)
  obtain ⟨ds, armed, left, down, done⟩ := s
  simp only at *
  cases armed with
  | true =>
    have hl0 := hl1 rfl
    rw [show Bst.rleft ⟨ds, true, left, down, done⟩ = left from rfl] at c1
    by_cases h0 : left = 0
    · subst h0
      have hfin : Turn F w (w.setCell ⟨g, 2, none⟩ (.bool true)) ∧ RBK (w.setCell ⟨g, 2, none⟩ (.bool true)) F g A n c ps Fs (Bst.counted ⟨ds, true, 0, down, done⟩) := by
        refine ⟨turn_only h.fg (HK.out 2 _) ⟨rfl, rfl, rfl, hs1 _ _⟩, ?_⟩
        have hc : Bst.counted ⟨ds, true, 0, down, done⟩ = ⟨ds, true, 0, true, done⟩ := if_pos ⟨rfl, rfl⟩
        rw [hc]
        exact h.fields rfl ⟨fun _ => Int.le_refl _, by unfold I64; simp only; omega⟩ (set_at w g 2 _ hb) (HK.out 2 _) (hs1 _ _)
      have HF := mkHid hfin
      clear h hb hfin hs1 hl1
      go_enter Tryd.func59, Tryd.ntmps59
      go_wp2_with fail
      go_ret
      exact ⟨rfl, HF.out⟩
    · have hfin : Turn F w ((w.setCell ⟨g, 1, none⟩ (.int .i64 (left - 1))).setCell ⟨g, 3, none⟩ (.int .i64 (done + 1))) ∧ RBK ((w.setCell ⟨g, 1, none⟩ (.int .i64 (left - 1))).setCell ⟨g, 3, none⟩ (.int .i64 (done + 1))) F g A n c ps Fs (Bst.counted ⟨ds, true, left, down, done⟩) := by
        have hk : ∀ b, b ≠ g → ((w.setCell ⟨g, 1, none⟩ (.int .i64 (left - 1))).setCell ⟨g, 3, none⟩ (.int .i64 (done + 1))).heap[b]? = w.heap[b]? := fun b hb => (heap_setCell_other _ _ _ _ hb).trans (HK.out 1 _ b hb)
        have hz : ((w.setCell ⟨g, 1, none⟩ (.int .i64 (left - 1))).setCell ⟨g, 3, none⟩ (.int .i64 (done + 1))).heap.size = w.heap.size := by simp [World.setCell]
        refine ⟨turn_only h.fg hk ⟨rfl, rfl, rfl, hz⟩, ?_⟩
        have hc : Bst.counted ⟨ds, true, left, down, done⟩ = ⟨ds, true, left - 1, down, done + 1⟩ := if_neg fun e => h0 e.2
        rw [hc]
        exact h.fields rfl ⟨fun _ => by simp only; omega, by unfold I64; simp only; omega⟩ (set_at _ g 3 _ (set_at w g 1 _ hb)) hk hz
      have HF := mkHid hfin
      have h0b : (left == 0) = false := by simpa using h0
      have h0p : 0 < left := by omega
      have HE := mkHid (show (Bst.countE ⟨ds, true, left, down, done⟩) = 0 from if_neg fun e => h0 e.2)
      clear h hb hfin hs1 hl1
      go_enter Tryd.func59, Tryd.ntmps59
      go_wp2_with fail
      go_ret
      exact ⟨ret_int (by rw [HE.out]), HF.out⟩
  | false =>
    rw [show Bst.rleft ⟨ds, false, left, down, done⟩ = -1 from rfl] at c1
    have hfin : Turn F w (w.setCell ⟨g, 3, none⟩ (.int .i64 (done + 1))) ∧ RBK (w.setCell ⟨g, 3, none⟩ (.int .i64 (done + 1))) F g A n c ps Fs (Bst.counted ⟨ds, false, left, down, done⟩) := by
      refine ⟨turn_only h.fg (HK.out 3 _) ⟨rfl, rfl, rfl, hs1 _ _⟩, ?_⟩
      have hc : Bst.counted ⟨ds, false, left, down, done⟩ = ⟨ds, false, left, down, done + 1⟩ := if_neg fun e => by cases e.1
      rw [hc]
      exact h.fields rfl ⟨(fun e => by cases e), hl2, hl3⟩ (set_at w g 3 _ hb) (HK.out 3 _) (hs1 _ _)
    have HF := mkHid hfin
    have HE := mkHid (show (Bst.countE ⟨ds, false, left, down, done⟩) = 0 from if_neg fun e => by cases e.1)
    clear h hb hfin hs1 hl1
    go_enter Tryd.func59, Tryd.ntmps59
    go_wp2_with fail
    go_ret
    exact ⟨ret_int (by rw [HE.out]), HF.out⟩

theorem rnewBank_any (w : World) : Calls Tryd.prog 11 #[] w fun e w' => ∃ g F, e = .returned (.pointer (some ⟨g, 0, none⟩)) ∧ RBO w' F g bst0 ∧ (∀ b, F b → w.heap.size ≤ b) ∧ Below w.heap.size w w' := by
  go_enter Tryd.func11, Tryd.ntmps11
  go_wp2_with fail
  go_ret
  refine ⟨_, fun b => b = w.heap.size, rfl, ⟨none, 0, 0, [], fun _ _ => False, heap_alloc_new w _, World.ownsRow_nil _ _ _ _, rfl, (fun j ss hj => by simp [bst0] at hj), (fun j hj => by simp [bst0] at hj), (fun _ _ hb => hb.elim), (fun _ _ _ hb => hb.elim), rfl, (fun r hr => by cases hr), (fun b (hb : b = _) => by rw [hb]; simp), by omega, (fun e => by cases e), by unfold I64; simp [bst0]⟩, (fun b hb => Nat.le_of_eq hb.symm), (Below.refl _ _).alloc (Nat.le_refl _) _⟩

end Go.Proofs.YtpoeneabhoajaaaDoor
