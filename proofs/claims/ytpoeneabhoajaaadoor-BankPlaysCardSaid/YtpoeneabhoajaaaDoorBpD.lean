/- portagelaw04's small and holds by contract. -/
import Derived.Test.YtpoeneabhoajaaaDoorBpC
import Derived.Deep.CutBlock
namespace Go.Proofs.YtpoeneabhoajaaaDoor
open Go.RowKit

/-- What small answers. -/
def SmallR (m m' : Nat) (w : World) (e : Ending) (w' : World) : Prop := ∃ B : Bool, e = .returned (.bool B) ∧ (B = true → m ≤ 1000 ∧ m' ≤ 300) ∧ Below w.heap.size w w'

set_option maxRecDepth 20000 in
set_option maxHeartbeats 2000000 in
theorem small_any (xk xi xs xn : Int) (a1 : Option Addr) (m c1 : Nat) (a2 : Option Addr) (m' c2 : Nat) (w : World) :
    Calls Tryd.prog 12 #[.agg #[.int .i64 xk, .int .i64 xi, .int .i64 xs, .int .i64 xn, .slice a1 m c1, .slice a2 m' c2]] w (SmallR m m' w) := by
  obtain ⟨W0, hW0⟩ : ∃ W0, w.alloc (.cells #[.int .i64 xk, .int .i64 xi, .int .i64 xs, .int .i64 xn, .slice a1 m c1, .slice a2 m' c2] 39) = W0 := ⟨_, rfl⟩
  have HB0 := mkHid (show Below w.heap.size w W0 by rw [← hW0]; exact (Below.refl _ _).alloc (Nat.le_refl _) _)
  have hbl : W0.heap[w.heap.size]? = some (.cells #[.int .i64 xk, .int .i64 xi, .int .i64 xs, .int .i64 xn, .slice a1 m c1, .slice a2 m' c2] 39 (0, 0)) := by rw [← hW0]; exact heap_alloc_new _ _
  have y0 : W0.cell? ⟨w.heap.size, 0, none⟩ = some (.int .i64 xk) := cell_of_row W0 _ 0 _ _ _ hbl
  have y3 : W0.cell? ⟨w.heap.size, 3, none⟩ = some (.int .i64 xn) := cell_of_row W0 _ 3 _ _ _ hbl
  have y4 : W0.cell? ⟨w.heap.size, 4, none⟩ = some (.slice a1 m c1) := cell_of_row W0 _ 4 _ _ _ hbl
  have y5 : W0.cell? ⟨w.heap.size, 5, none⟩ = some (.slice a2 m' c2) := cell_of_row W0 _ 5 _ _ _ hbl
  clear hbl
  by_cases hm : m ≤ 1000
  case neg =>
    go_enter Tryd.func12, Tryd.ntmps12
    go_wp2_with fail
    go_ret
    exact ⟨false, rfl, fun h => (by cases h), HB0.out⟩
  by_cases hm' : m' ≤ 300
  case neg =>
    go_enter Tryd.func12, Tryd.ntmps12
    go_wp2_with fail
    go_ret
    exact ⟨false, rfl, fun h => (by cases h), HB0.out⟩
  go_enter Tryd.func12, Tryd.ntmps12
  go_wp2_with fail
  all_goals
    go_ret
    exact ⟨_, rfl, fun _ => ⟨hm, hm'⟩, HB0.out⟩

theorem sizes_get {s : Bst} {k : Nat} {o : Option (List Sec)} (h : s.ds[k]? = some o) : s.sizes[k]? = some (sizeO o) := by
  unfold Bst.sizes
  rw [List.getElem?_map, h]
  rfl

set_option maxRecDepth 20000 in
set_option maxHeartbeats 4000000 in
theorem holds_any (F1 F2 : Nat → Prop) (g1 g2 : Nat) (s : Bst) (w wp : World) (h : BB w wp F1 F2 g1 g2 s s) :
    Calls Tryd.prog 14 #[.pointer (some ⟨g1, 0, none⟩), .pointer (some ⟨g2, 0, none⟩)] wp fun e w' => e = .returned (.bool true) ∧ Below wp.heap.size wp w' := by
  have HH := mkHid h
  have HSZ := mkHid (sizes_any F1 g1 s wp h.a)
  obtain ⟨A, n, c, ps, Fs, hbk⟩ := h.b
  have hn8 := hbk.n8
  have hlen := hbk.len
  have hcap := own_cap hbk.row
  have HBK := mkHid hbk
  have hgl := hbk.lt g2 hbk.fg
  have HC := mkHid (show ∀ Z : World, Below wp.heap.size wp Z → Z.cell? ⟨g2, 0, none⟩ = some (.slice A n c) ∧ Z.cell? ⟨g2, 2, none⟩ = some (.bool s.down) ∧ Z.cell? ⟨g2, 3, none⟩ = some (.int .i64 s.done) from fun Z hZ => ⟨cell_of_row Z g2 0 _ _ _ ((hZ.block g2 hgl).trans hbk.blk), cell_of_row Z g2 2 _ _ _ ((hZ.block g2 hgl).trans hbk.blk), cell_of_row Z g2 3 _ _ _ ((hZ.block g2 hgl).trans hbk.blk)⟩)
  have HDW := mkHid (show ∀ Z : World, Below wp.heap.size wp Z → Calls Tryd.prog 41 #[.pointer (some ⟨g1, 0, none⟩)] Z (fun e w' => e = .returned (.bool s.down) ∧ Z = w') from fun Z hZ => down_any F1 g1 s Z (HH.out.a.below hZ))
  have HDN := mkHid (show ∀ Z : World, Below wp.heap.size wp Z → Calls Tryd.prog 42 #[.pointer (some ⟨g1, 0, none⟩)] Z (fun e w' => e = .returned (.int .i64 s.done) ∧ Z = w') from fun Z hZ => done_any F1 g1 s Z (HH.out.a.below hZ))
  have HPN := mkHid (show ∀ Z : World, Below wp.heap.size wp Z → Calls Tryd.prog 43 #[.pointer (some ⟨g1, 0, none⟩)] Z (fun e w' => e = .returned (.int .i64 (pendB s.ds)) ∧ Below Z.heap.size Z w') from fun Z hZ => bpending_any F1 g1 s Z (HH.out.a.below hZ))
  have HRP := mkHid (show ∀ Z : World, Below wp.heap.size wp Z → Calls Tryd.prog 44 #[.pointer (some ⟨g2, 0, none⟩)] Z (fun e w' => e = .returned (.int .i64 (pendB s.ds)) ∧ Below Z.heap.size Z w') from fun Z hZ => rbpending_any F2 g2 s Z (HH.out.b.below hZ))
  have HLS := mkHid (show s.sizes.length = n from (show s.sizes.length = s.ds.length by unfold Bst.sizes; simp).trans hlen)
  have hne1 : ((n : Int) != (n : Int)) = false := by simp
  have hdd : (s.down != s.down) = false := by cases s.down <;> rfl
  have hdn : (s.done != s.done) = false := by simp
  have hpp : (((pendB s.ds : Nat) : Int) != ((pendB s.ds : Nat) : Int)) = false := by simp
  have HSO := mkHid (sizes_ok s h.a.sz)
  obtain ⟨hcap1, hcap2⟩ := hcap
  clear h hbk hlen hgl
  go_enter Tryd.func14, Tryd.ntmps14
  go_wp2_with fail
  refine HSZ.out.mono ?_
  rintro e w1 ⟨SA, sc, rfl, ho1, hb1⟩
  rw [HLS.out] at ho1 ⊢
  have HO1 := mkHid ho1
  have HB1 := mkHid hb1
  have g1c := HC.out w1 hb1
  clear ho1 hb1
  go_wp2_with fail
  go_region_held3 (fun Z => Z.cell? ⟨g2, 0, none⟩ = some (.slice A n c) ∧ Z.cell? ⟨g2, 2, none⟩ = some (.bool s.down) ∧ Z.cell? ⟨g2, 3, none⟩ = some (.int .i64 s.done)) (first | exact gz | exact gy | exact g1c) (first
    | (go_at_call 44; (with_reducible refine (HRP.out _ (by first | exact HBY.out | exact HBY.out.drew)).mono ?_); rintro e wz ⟨rfl, hbz⟩; have HBZ := mkHid (HBY.out.trans ((Below.mk hbz.os hbz.tape hbz.output hbz.size hbz.block : Below wy.heap.size wy wz).mono HBY.out.size)); have HZ1 := mkHid (HY1.out.trans ((Below.mk hbz.os hbz.tape hbz.output hbz.size hbz.block : Below wy.heap.size wy wz).mono HY1.out.size)); have gz := HC.out wz HBZ.out; clear hbz)
    | (go_at_call 43; (with_reducible refine (HPN.out _ (by first | exact HB1.out | exact HB1.out.drew)).mono ?_); rintro e wy ⟨rfl, hby⟩; have HBY := mkHid (HB1.out.trans ((Below.mk hby.os hby.tape hby.output hby.size hby.block : Below w1.heap.size w1 wy).mono HB1.out.size)); have HY1 := mkHid (Below.mk hby.os hby.tape hby.output hby.size hby.block : Below w1.heap.size w1 wy); have gy := HC.out wy HBY.out; clear hby)
    | (go_at_call 42; (with_reducible refine (HDN.out _ (by first | exact HB1.out | exact HB1.out.drew)).mono ?_); rintro e wq ⟨rfl, rfl⟩)
    | (go_at_call 41; (with_reducible refine (HDW.out _ (by first | exact HB1.out | exact HB1.out.drew)).mono ?_); rintro e wq ⟨rfl, rfl⟩))
  obtain ⟨wV, rfl⟩ : ∃ W : World, W = wz := ⟨_, rfl⟩
  have HBV := mkHid HBZ.out
  have HIS := mkHid (show IS wV wV.heap.size SA n s.sizes from ⟨SL.of_own (own_below HO1.out HZ1.out), HSO.out⟩)
  obtain ⟨gz0, _, _⟩ := gz
  rename_i hheld
  clear hheld
  go_wp2_with fail
  go_loop [49] (fun i => ∃ k : Nat, k ≤ n ∧ i = .int .i64 k) (fun i => n - (intOf i).toNat)
  case atStart => exact ⟨0, Nat.zero_le _, rfl⟩
  case round =>
    obtain ⟨k, hk, rfl⟩ := hrel
    by_cases hlt : k < n
    · have hb := HBK.out.below HBV.out
      obtain ⟨r, qo, rfl, hq, hcell, _⟩ := hb.at_ hlt
      obtain ⟨b, o, rfl, hbl, hsz, _⟩ := HIS.out.at_ hlt
      obtain ⟨od, hod⟩ : ∃ od, s.ds[k]? = some od := ⟨_, List.getElem?_eq_getElem (by rw [hb.len]; exact hlt)⟩
      rw [sizes_get hod] at hsz
      simp only [Option.getD_some] at hsz
      cases od with
      | none =>
        have hno := hb.no k hod
        rw [hq] at hno
        injection hno with hno
        subst hno
        simp only [ptrO] at hcell
        simp only [sizeO] at hsz
        clear hb hq hod
        go_wp2_with fail
        go_round
        case rel => exact ⟨k + 1, by omega, by go_num⟩
        case measure => simp [intOf]; omega
      | some ss =>
        obtain ⟨p, hp', hdk⟩ := hb.dk k ss hod
        rw [hq] at hp'
        injection hp' with hp'
        subst hp'
        simp only [ptrO, ptrV] at hcell
        simp only [sizeO] at hsz
        obtain ⟨A3, n3, c3, cs3, hr3⟩ := hdk
        obtain rfl : ss.length = n3 := hr3.len
        have d0 := cell_of_row wV p 0 _ _ _ hr3.blk
        have hnl := hr3.nl
        have hnn : ((ss.length : Int) != (ss.length : Int)) = false := by simp
        simp at d0
        clear hb hq hod hr3
        go_wp2_with fail
        go_round
        case rel => exact ⟨k + 1, by omega, by go_num⟩
        case measure => simp [intOf]; omega
    · obtain rfl : k = n := by omega
      go_wp2_with fail
      go_ret
      exact ⟨rfl, HBV.out⟩

end Go.Proofs.YtpoeneabhoajaaaDoor
