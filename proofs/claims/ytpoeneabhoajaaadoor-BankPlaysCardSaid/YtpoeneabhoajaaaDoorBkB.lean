/- The bank's device, live, count, Arm, Down, Done, New by contract. -/
import Derived.Test.YtpoeneabhoajaaaDoorBkA
namespace Go.Proofs.YtpoeneabhoajaaaDoor
open Go.RowKit

/-- A code as an error: 0 is none. -/
def cv (c : Int) : Value := if c = 0 then .nilIface else codeV c
/-- What the bank says of a device, whatever the power. -/
def Bst.devE (s : Bst) (i : Int) : Int := if hasOf s.ds.length i = true then (match s.ds[i.toNat]? with | some (some _) => 0 | _ => 25) else 23
def Bst.liveE (s : Bst) (i : Int) : Int := if s.down = true then 22 else s.devE i
/-- Its sectors. -/
def Bst.sec (s : Bst) (i : Int) : List Sec := ((s.ds[i.toNat]?).getD none).getD []
def Bst.countE (s : Bst) : Int := if s.armed = true ∧ s.left = 0 then 22 else 0
def Bst.counted (s : Bst) : Bst := if s.armed = true ∧ s.left = 0 then { s with down := true } else { s with left := if s.armed = true then s.left - 1 else s.left, done := s.done + 1 }

theorem dev_no {s : Bst} {i : Int} (h : hasOf s.ds.length i = false) : s.devE i = 23 := by unfold Bst.devE; rw [if_neg (by rw [h]; simp)]
theorem dev_gone {s : Bst} {i : Nat} (h : s.ds[i]? = some none) : s.devE i = 25 := by
  have hl := (List.getElem?_eq_some_iff.1 h).1
  have hh : hasOf s.ds.length (i : Int) = true := decide_eq_true ⟨by omega, by omega⟩
  unfold Bst.devE; rw [if_pos hh, Int.toNat_natCast, h]
theorem dev_ok {s : Bst} {i : Nat} {ss : List Sec} (h : s.ds[i]? = some (some ss)) : s.devE i = 0 ∧ s.sec i = ss := by
  have hl := (List.getElem?_eq_some_iff.1 h).1
  have hh : hasOf s.ds.length (i : Int) = true := decide_eq_true ⟨by omega, by omega⟩
  refine ⟨by unfold Bst.devE; rw [if_pos hh, Int.toNat_natCast, h], ?_⟩
  unfold Bst.sec; rw [Int.toNat_natCast, h]; rfl
/-- The three cases of a device. -/
theorem dev_cases (s : Bst) (i : Int) : (hasOf s.ds.length i = false ∧ s.devE i = 23) ∨ (∃ k : Nat, i = k ∧ s.ds[k]? = some none ∧ s.devE i = 25) ∨ ∃ (k : Nat) (ss : List Sec), i = k ∧ s.ds[k]? = some (some ss) ∧ s.devE i = 0 ∧ s.sec i = ss := by
  cases hh : hasOf s.ds.length i with
  | false => exact .inl ⟨rfl, dev_no hh⟩
  | true =>
    obtain ⟨k, rfl, hk⟩ := hasOf_nat hh
    have h1 := List.getElem?_eq_getElem (l := s.ds) (i := k) hk
    cases h2 : s.ds[k] with
    | none => rw [h2] at h1; exact .inr (.inl ⟨k, rfl, h1, dev_gone h1⟩)
    | some ss => rw [h2] at h1; exact .inr (.inr ⟨k, ss, rfl, h1, dev_ok h1⟩)

/-- A device is told, or why not. -/
def RetD (w : World) (_g : Nat) (ps : List (Option Nat)) (i c : Int) (e : Ending) (w' : World) : Prop :=
  w = w' ∧ ((c ≠ 0 ∧ e = .returned (.tuple #[.pointer none, codeV c])) ∨ (c = 0 ∧ ∃ p, ps[i.toNat]? = some (some p) ∧ e = .returned (.tuple #[ptrV p, .nilIface])))

set_option maxRecDepth 20000 in
theorem device_any (F : Nat → Prop) (g : Nat) (A : Option Addr) (n c : Nat) (ps : List (Option Nat)) (Fs : Nat → Nat → Prop) (s : Bst) (i : Int) (w : World) (h : BK w F g A n c ps Fs s) (hi : I64 i) :
    Calls Tryd.prog 50 #[.pointer (some ⟨g, 0, none⟩), .int .i64 i] w (RetD w g ps i (s.devE i)) := by
  have c0 := cell_of_row w g 0 _ _ _ h.blk
  have hn8 := h.n8
  have hlen := h.len
  obtain ⟨hc1, hc2⟩ := own_cap h.row
  simp at c0
  obtain ⟨i0, i1⟩ := hi
  rcases dev_cases s i with ⟨h1, h2⟩ | ⟨k, rfl, h1, h2⟩ | ⟨k, ss, rfl, h1, h2, h3⟩
  · rw [h2]
    have h1 := of_decide_eq_false h1
    rw [hlen] at h1
    clear h h2 hlen
    by_cases hneg : i < 0
    · go_enter Tryd.func50, Tryd.ntmps50
      go_wp2_with fail
      go_ret2
      exact ⟨rfl, .inl ⟨by omega, rfl⟩⟩
    · have hge : (n : Int) ≤ i := by omega
      clear h1
      go_enter Tryd.func50, Tryd.ntmps50
      go_wp2_with fail
      go_ret2
      exact ⟨rfl, .inl ⟨by omega, rfl⟩⟩
  · rw [h2]
    have hkl := (List.getElem?_eq_some_iff.1 h1).1
    rw [hlen] at hkl
    obtain ⟨r, q, rfl, hq, hcell, _⟩ := h.at_ hkl
    have hno := h.no k h1
    rw [hq] at hno
    injection hno with hno
    subst hno
    simp only [ptrO] at hcell
    clear h h1 h2 hq hlen
    go_enter Tryd.func50, Tryd.ntmps50
    go_wp2_with fail
    go_ret2
    exact ⟨rfl, .inl ⟨by omega, rfl⟩⟩
  · rw [h2]
    have hkl := (List.getElem?_eq_some_iff.1 h1).1
    rw [hlen] at hkl
    obtain ⟨r, q, rfl, hq, hcell, _⟩ := h.at_ hkl
    obtain ⟨p, hp, _⟩ := h.dk k ss h1
    rw [hq] at hp
    injection hp with hp
    subst hp
    simp only [ptrO, ptrV] at hcell
    have HQ := mkHid hq
    clear h h1 h2 h3 hq hlen
    go_enter Tryd.func50, Tryd.ntmps50
    go_wp2_with fail
    go_ret2
    exact ⟨rfl, .inr ⟨rfl, p, by rw [Int.toNat_natCast]; exact HQ.out, rfl⟩⟩

set_option maxRecDepth 20000 in
theorem live_any (F : Nat → Prop) (g : Nat) (A : Option Addr) (n c : Nat) (ps : List (Option Nat)) (Fs : Nat → Nat → Prop) (s : Bst) (i : Int) (w : World) (h : BK w F g A n c ps Fs s) (hi : I64 i) :
    Calls Tryd.prog 20 #[.pointer (some ⟨g, 0, none⟩), .int .i64 i] w (RetD w g ps i (s.liveE i)) := by
  have H := mkHid (device_any F g A n c ps Fs s i w h hi)
  have c3 := cell_of_row w g 3 _ _ _ h.blk
  simp at c3
  clear h hi
  cases hd : s.down with
  | true =>
    have HE := mkHid (show s.liveE i = 22 by unfold Bst.liveE; rw [if_pos hd])
    rw [hd] at c3
    clear hd
    go_enter Tryd.func20, Tryd.ntmps20
    go_wp2_with fail
    go_ret2
    exact ⟨rfl, .inl ⟨by rw [HE.out]; omega, by rw [HE.out]; rfl⟩⟩
  | false =>
    have HE := mkHid (show s.liveE i = s.devE i by unfold Bst.liveE; rw [if_neg (by rw [hd]; simp)])
    rw [hd] at c3
    clear hd
    go_enter Tryd.func20, Tryd.ntmps20
    go_wp2_with fail
    refine H.out.mono ?_
    rintro e w1 ⟨rfl, ⟨h1, rfl⟩ | ⟨h1, p, h2, rfl⟩⟩
    · have H1 := mkHid h1
      clear h1
      go_wp2_with fail
      go_ret2
      exact ⟨rfl, .inl ⟨by rw [HE.out]; exact H1.out, by rw [HE.out]; rfl⟩⟩
    · have H1 := mkHid h1
      have H2 := mkHid h2
      clear h1 h2
      go_wp2_with fail
      go_ret2
      exact ⟨rfl, .inr ⟨by rw [HE.out]; exact H1.out, p, H2.out, rfl⟩⟩

theorem set_at (w : World) (g k : Nat) (v : Value) {cur : Array Value} {t : TypeId} (h : w.heap[g]? = some (.cells cur t (0, 0))) : (w.setCell ⟨g, k, none⟩ v).heap[g]? = some (.cells (cur.setIfInBounds k v) t (0, 0)) := heap_setCell_same _ _ _ _ _ _ h

set_option maxRecDepth 20000 in
theorem count_any (F : Nat → Prop) (g : Nat) (A : Option Addr) (n c : Nat) (ps : List (Option Nat)) (Fs : Nat → Nat → Prop) (s : Bst) (w : World) (h : BK w F g A n c ps Fs s) (hd : 0 ≤ s.done ∧ s.done ≤ 1000000000) :
    Calls Tryd.prog 62 #[.pointer (some ⟨g, 0, none⟩)] w fun e w' => e = .returned (cv s.countE) ∧ Turn F w w' ∧ BK w' F g A n c ps Fs s.counted := by
  have hb := h.blk
  have c1 := cell_of_row w g 1 _ _ _ hb
  have c2 := cell_of_row w g 2 _ _ _ hb
  have c3 := cell_of_row w g 3 _ _ _ hb
  have c4 := cell_of_row w g 4 _ _ _ hb
  have f := fun k => frozen_of_row w g k _ _ hb
  simp at c1 c2 c3 c4
  obtain ⟨hd0, hd1⟩ := hd
  have HB := mkHid h
  obtain ⟨hl1, hl2, hl3⟩ := h.lf
  have hs1 : ∀ k v, (w.setCell ⟨g, k, none⟩ v).heap.size = w.heap.size := fun k v => by simp [World.setCell]
  have HK := mkHid (show ∀ k v, (∀ b, b ≠ g → (w.setCell ⟨g, k, none⟩ v).heap[b]? = w.heap[b]?) from fun k v b hb => heap_setCell_other _ _ _ _ hb)
  obtain ⟨ds, armed, left, down, done⟩ := s
  simp only at *
  cases armed with
  | true =>
    have hl0 := hl1 rfl
    by_cases h0 : left = 0
    · subst h0
      have hfin : Turn F w (w.setCell ⟨g, 3, none⟩ (.bool true)) ∧ BK (w.setCell ⟨g, 3, none⟩ (.bool true)) F g A n c ps Fs (Bst.counted ⟨ds, true, 0, down, done⟩) := by
        refine ⟨turn_only h.fg (HK.out 3 _) ⟨rfl, rfl, rfl, hs1 _ _⟩, ?_⟩
        have hc : Bst.counted ⟨ds, true, 0, down, done⟩ = ⟨ds, true, 0, true, done⟩ := if_pos ⟨rfl, rfl⟩
        rw [hc]
        exact h.fields rfl ⟨fun _ => Int.le_refl _, by unfold I64; simp only; omega⟩ (set_at w g 3 _ hb) (HK.out 3 _) (hs1 _ _)
      have HF := mkHid hfin
      clear h hb hfin hs1 hl1
      go_enter Tryd.func62, Tryd.ntmps62
      go_wp2_with fail
      go_ret
      exact ⟨rfl, HF.out⟩
    · have hfin : Turn F w ((w.setCell ⟨g, 2, none⟩ (.int .i64 (left - 1))).setCell ⟨g, 4, none⟩ (.int .i64 (done + 1))) ∧ BK ((w.setCell ⟨g, 2, none⟩ (.int .i64 (left - 1))).setCell ⟨g, 4, none⟩ (.int .i64 (done + 1))) F g A n c ps Fs (Bst.counted ⟨ds, true, left, down, done⟩) := by
        have hk : ∀ b, b ≠ g → ((w.setCell ⟨g, 2, none⟩ (.int .i64 (left - 1))).setCell ⟨g, 4, none⟩ (.int .i64 (done + 1))).heap[b]? = w.heap[b]? := fun b hb => (heap_setCell_other _ _ _ _ hb).trans (HK.out 2 _ b hb)
        have hz : ((w.setCell ⟨g, 2, none⟩ (.int .i64 (left - 1))).setCell ⟨g, 4, none⟩ (.int .i64 (done + 1))).heap.size = w.heap.size := by simp [World.setCell]
        refine ⟨turn_only h.fg hk ⟨rfl, rfl, rfl, hz⟩, ?_⟩
        have hc : Bst.counted ⟨ds, true, left, down, done⟩ = ⟨ds, true, left - 1, down, done + 1⟩ := if_neg fun e => h0 e.2
        rw [hc]
        exact h.fields rfl ⟨fun _ => by simp only; omega, by unfold I64; simp only; omega⟩ (set_at _ g 4 _ (set_at w g 2 _ hb)) hk hz
      have HF := mkHid hfin
      have h0b : (left == 0) = false := by simpa using h0
      have HE := mkHid (show (Bst.countE ⟨ds, true, left, down, done⟩) = 0 from if_neg fun e => h0 e.2)
      clear h hb hfin hs1 hl1
      go_enter Tryd.func62, Tryd.ntmps62
      go_wp2_with fail
      go_ret
      exact ⟨by rw [HE.out]; rfl, HF.out⟩
  | false =>
    have hfin : Turn F w (w.setCell ⟨g, 4, none⟩ (.int .i64 (done + 1))) ∧ BK (w.setCell ⟨g, 4, none⟩ (.int .i64 (done + 1))) F g A n c ps Fs (Bst.counted ⟨ds, false, left, down, done⟩) := by
      refine ⟨turn_only h.fg (HK.out 4 _) ⟨rfl, rfl, rfl, hs1 _ _⟩, ?_⟩
      have hc : Bst.counted ⟨ds, false, left, down, done⟩ = ⟨ds, false, left, down, done + 1⟩ := if_neg fun e => by cases e.1
      rw [hc]
      exact h.fields rfl ⟨(fun e => by cases e), hl2, hl3⟩ (set_at w g 4 _ hb) (HK.out 4 _) (hs1 _ _)
    have HF := mkHid hfin
    have HE := mkHid (show (Bst.countE ⟨ds, false, left, down, done⟩) = 0 from if_neg fun e => by cases e.1)
    clear h hb hfin hs1 hl1
    go_enter Tryd.func62, Tryd.ntmps62
    go_wp2_with fail
    go_ret
    exact ⟨by rw [HE.out]; rfl, HF.out⟩

set_option maxRecDepth 20000 in
theorem arm_any (F : Nat → Prop) (g : Nat) (s : Bst) (k : Int) (w : World) (h : BO w F g s) (hk : I64 k) :
    Calls Tryd.prog 34 #[.pointer (some ⟨g, 0, none⟩), .int .i64 k] w fun e w' => e = .returned (.tuple #[]) ∧ Turn F w w' ∧ BO w' F g { s with armed := decide (0 ≤ k), left := k } := by
  obtain ⟨A, n, c, ps, Fs, h⟩ := h
  have hb := h.blk
  have c1 := cell_of_row w g 1 _ _ _ hb
  have c2 := cell_of_row w g 2 _ _ _ hb
  have f := fun k => frozen_of_row w g k _ _ hb
  simp at c1 c2
  have hfin : Turn F w ((w.setCell ⟨g, 1, none⟩ (.bool (decide (0 ≤ k)))).setCell ⟨g, 2, none⟩ (.int .i64 k)) ∧ BO ((w.setCell ⟨g, 1, none⟩ (.bool (decide (0 ≤ k)))).setCell ⟨g, 2, none⟩ (.int .i64 k)) F g { s with armed := decide (0 ≤ k), left := k } := by
    have hk' : ∀ b, b ≠ g → ((w.setCell ⟨g, 1, none⟩ (.bool (decide (0 ≤ k)))).setCell ⟨g, 2, none⟩ (.int .i64 k)).heap[b]? = w.heap[b]? := fun b hb => (heap_setCell_other _ _ _ _ hb).trans (heap_setCell_other _ _ _ _ hb)
    have hz : ((w.setCell ⟨g, 1, none⟩ (.bool (decide (0 ≤ k)))).setCell ⟨g, 2, none⟩ (.int .i64 k)).heap.size = w.heap.size := by simp [World.setCell]
    exact ⟨turn_only h.fg hk' ⟨rfl, rfl, rfl, hz⟩, A, n, c, ps, Fs, h.fields rfl ⟨fun e => of_decide_eq_true e, hk⟩ (set_at _ g 2 _ (set_at w g 1 _ hb)) hk' hz⟩
  have HF := mkHid hfin
  obtain ⟨k0, k1⟩ := hk
  clear h hb hfin
  by_cases hk0 : 0 ≤ k
  · have hd : decide (0 ≤ k) = true := decide_eq_true hk0
    rw [hd] at HF
    have HD := mkHid hd
    clear hd
    go_enter Tryd.func34, Tryd.ntmps34
    go_wp2_with fail
    go_end0
    exact ⟨rfl, by rw [HD.out]; exact HF.out⟩
  · have hd : decide (0 ≤ k) = false := decide_eq_false hk0
    rw [hd] at HF
    have HD := mkHid hd
    clear hd
    go_enter Tryd.func34, Tryd.ntmps34
    go_wp2_with fail
    go_end0
    exact ⟨rfl, by rw [HD.out]; exact HF.out⟩

theorem done_any (F : Nat → Prop) (g : Nat) (s : Bst) (w : World) (h : BO w F g s) :
    Calls Tryd.prog 42 #[.pointer (some ⟨g, 0, none⟩)] w fun e w' => e = .returned (.int .i64 s.done) ∧ w = w' := by
  obtain ⟨A, n, c, ps, Fs, h⟩ := h
  have c4 := cell_of_row w g 4 _ _ _ h.blk
  simp at c4
  clear h
  go_enter Tryd.func42, Tryd.ntmps42
  go_wp2_with fail
  go_ret
  exact ⟨rfl, rfl⟩
theorem down_any (F : Nat → Prop) (g : Nat) (s : Bst) (w : World) (h : BO w F g s) :
    Calls Tryd.prog 41 #[.pointer (some ⟨g, 0, none⟩)] w fun e w' => e = .returned (.bool s.down) ∧ w = w' := by
  obtain ⟨A, n, c, ps, Fs, h⟩ := h
  have c3 := cell_of_row w g 3 _ _ _ h.blk
  simp at c3
  clear h
  go_enter Tryd.func41, Tryd.ntmps41
  go_wp2_with fail
  go_ret
  exact ⟨rfl, rfl⟩
def bst0 : Bst := ⟨[], false, 0, false, 0⟩
theorem newBank_any (w : World) : Calls Tryd.prog 5 #[] w fun e w' => ∃ g F, e = .returned (.pointer (some ⟨g, 0, none⟩)) ∧ BO w' F g bst0 ∧ (∀ b, F b → w.heap.size ≤ b) ∧ Below w.heap.size w w' := by
  go_enter Tryd.func5, Tryd.ntmps5
  go_wp2_with fail
  go_ret
  refine ⟨_, fun b => b = w.heap.size, rfl, ⟨none, 0, 0, [], fun _ _ => False, heap_alloc_new w _, World.ownsRow_nil _ _ _ _, rfl, (fun j ss hj => by simp [bst0] at hj), (fun j hj => by simp [bst0] at hj), (fun _ _ hb => hb.elim), (fun _ _ _ hb => hb.elim), rfl, (fun r hr => by cases hr), (fun b (hb : b = _) => by rw [hb]; simp), by omega, (fun e => by cases e), by unfold I64; simp [bst0]⟩, (fun b hb => Nat.le_of_eq hb.symm), (Below.refl _ _).alloc (Nat.le_refl _) _⟩

end Go.Proofs.YtpoeneabhoajaaaDoor
