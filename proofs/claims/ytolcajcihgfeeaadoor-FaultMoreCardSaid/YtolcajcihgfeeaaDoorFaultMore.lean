/- portagelaw01.FaultMore answers true. -/
import Derived.Test.YtolcajcihgfeeaaDoorFaultIs
import Derived.IntWalk
namespace Go.Proofs.YtolcajcihgfeeaaDoor
open Go.RowKit Go.Extern.Stop Go.Stop Go.Extern

/-- The first cell of a row of the call's own. -/
theorem own_head {w : World} {base n C : Nat} {A : Option Addr} {T : TypeId} {v : Value} {vs : List Value} (h : w.ownsRow base T 1 (.slice A (n + 1) C) (n + 1) (v :: vs)) :
    ∃ b o, A = some ⟨b, o, none⟩ ∧ b < w.heap.size ∧ w.cell? ⟨b, o, none⟩ = some v := by
  obtain ⟨b, o, ha, hb, hc⟩ := (SL.of_own h).2 0 (by omega)
  exact ⟨b, o, ha, hb, by simpa using hc⟩


set_option maxRecDepth 100000 in
set_option maxHeartbeats 8000000 in
theorem faultMore_zero (a : Option Addr) (n c : Nat) (ls : List Lk) (code : Int) (s : ByteArray) (d p : Int) (w : World) (hE : ErrT w) (h : LS w w.heap.size a n ls) (hn : n ≤ 200) (hd1 : ∀ (B : Nat) (T : TypeId) (y : Value) (Z : World), ErrT Z → Ch Z B ls (some code) (.iface T y) → Calls Tryd.prog 18 #[.iface T y] Z fun e w' => e = .returned (.tuple #[.int .i64 0, .int .i64 0, .bool false]) ∧ Below Z.heap.size Z w') (hd2 : ∀ (B g : Nat) (Z : World), ErrT Z → Ch Z B (⟨s, d, p⟩ :: ls) (some code) (faultV g) → B ≤ Z.heap.size → Calls Tryd.prog 18 #[faultV g] Z fun e w' => e = .returned (.tuple #[.int .i64 d, .int .i64 p, .bool true]) ∧ Below Z.heap.size Z w') :
    Calls Tryd.prog 6 #[.slice a n c, .int .i64 code, .agg #[.string s, .int .i64 d, .int .i64 p]] w fun e w' => e = .returned (.bool true) ∧ Below w.heap.size w w' := by
  obtain ⟨W0, hW0⟩ : ∃ W0, w.alloc (.cells #[.string s, .int .i64 d, .int .i64 p] 36) = W0 := ⟨_, rfl⟩
  have HB0 := mkHid (show Below w.heap.size w W0 from by rw [← hW0]; exact below_alF _)
  have hg : W0.heap[w.heap.size]? = some (.cells #[.string s, .int .i64 d, .int .i64 p] 36 (0, 0)) := by rw [← hW0]; exact heap_alloc_new w _
  have HBX := mkHid (show ∀ Z, Below W0.heap.size W0 Z → Z.cell? ⟨w.heap.size, 0, none⟩ = some (.string s) ∧ Z.cell? ⟨w.heap.size, 1, none⟩ = some (.int .i64 d) ∧ Z.cell? ⟨w.heap.size, 2, none⟩ = some (.int .i64 p) from fun Z hz =>
    have h1 := (hz.block w.heap.size (Array.getElem?_eq_some_iff.1 hg).1).trans hg
    ⟨cell_of_row Z w.heap.size 0 _ _ _ h1, cell_of_row Z w.heap.size 1 _ _ _ h1, cell_of_row Z w.heap.size 2 _ _ _ h1⟩)
  have HE := mkHid (hE.below HB0.out)
  have HL := mkHid ((h.below HB0.out).more HB0.out.size)
  have HLN := mkHid h.1
  have HD1 := mkHid hd1
  have HD2 := mkHid hd2
  clear hE h hg hd1 hd2
  go_enter Tryd.func6, Tryd.ntmps6
  go_wp2_with fail
  clear hW0
  refine (chain_any a n c ls code _ HL.out hn).mono ?_
  rintro e w1 ⟨v, rfl, hch, hb⟩
  obtain ⟨T, y, rfl⟩ := hch.form
  have HK := mkHid (Kept.mk' hch HE.out hb)
  obtain ⟨w2, hw2⟩ : ∃ w2, w1.alloc (faultO ⟨s, d, p⟩ (.iface T y)) = w2 := ⟨_, rfl⟩
  have HB2 := mkHid (show Below w1.heap.size w1 w2 from by rw [← hw2]; exact below_alF _)
  have HCF := mkHid (show ∀ Z, Below w2.heap.size w2 Z → Ch Z (w1.heap.size + 1) (⟨s, d, p⟩ :: ls) (some code) (faultV w1.heap.size) from fun Z hz =>
    ⟨w1.heap.size, _, rfl, Nat.lt_succ_self _, (hz.block _ (by rw [← hw2]; simp)).trans (by rw [← hw2]; exact heap_alloc_new w1 _), HK.out.ch Z (HB2.out.trans (hz.mono HB2.out.size))⟩)
  have HSF := mkHid (show ∀ Z, Below w2.heap.size w2 Z → w1.heap.size + 1 ≤ Z.heap.size from fun Z hz => by have := hz.size; rw [← hw2] at this; simpa using this)
  have HR2 := mkHid (Below.refl w2.heap.size w2)
  have HBX2 := mkHid (show ∀ Z, Below w2.heap.size w2 Z → Z.cell? ⟨w.heap.size, 0, none⟩ = some (.string s) ∧ Z.cell? ⟨w.heap.size, 1, none⟩ = some (.int .i64 d) ∧ Z.cell? ⟨w.heap.size, 2, none⟩ = some (.int .i64 p) from fun Z hz => HBX.out Z (hb.trans ((HB2.out.trans (hz.mono HB2.out.size)).mono hb.size)))
  obtain ⟨x0, x1, x2⟩ := HBX.out w1 hb
  clear hb hch HBX
  go_wp2_with (first
    | (go_at_call 19; refine (wrap_any s d p T y _).mono ?_; rintro e w1' ⟨rfl, hww⟩; rw [hw2] at hww; subst hww)
    | (go_at_call 14; (with_reducible refine (codeOf_some ls w1.heap.size code T y _ (HK.out.et _ HB2.out) (HK.out.ch _ HB2.out) HB2.out.size).mono ?_); rintro e w3 ⟨rfl, hb⟩; have HB3 := mkHid (below_stepF HR2.out hb); clear hb)
    | (go_at_call 14; (with_reducible refine (codeOf_some (⟨s, d, p⟩ :: ls) (w1.heap.size + 1) code _ _ _ (HK.out.et _ (HB2.out.trans (HB3.out.mono HB2.out.size))) (HCF.out _ HB3.out) (HSF.out _ HB3.out)).mono ?_); rintro e w4 ⟨rfl, hb⟩; have HB4 := mkHid (below_stepF HB3.out hb); clear hb)
    | (go_at_call 13; refine (where_head (⟨s, d, p⟩ :: ls) (w1.heap.size + 1) (some code) _ ⟨s, d, p⟩ _ (HK.out.et _ (HB2.out.trans (HB4.out.mono HB2.out.size))) (HCF.out _ HB4.out) rfl).mono ?_; rintro e w5 ⟨rfl, hb⟩; have HB5 := mkHid (below_stepF HB4.out hb); clear hb)
    | (go_at_call 17; refine (path_any (⟨s, d, p⟩ :: ls) (w1.heap.size + 1) (some code) _ _ (HK.out.et _ (HB2.out.trans (HB5.out.mono HB2.out.size))) (HCF.out _ HB5.out) (HSF.out _ HB5.out) (by rw [List.length_cons, HLN.out]; omega)).mono ?_; rintro e w6 ⟨A, C, rfl, ho, hb⟩; rw [List.length_cons, HLN.out] at ho; rw [List.length_cons, HLN.out]; have HB6 := mkHid (below_stepF HB5.out hb); have HH := mkHid (own_head ho); clear hb ho))
  obtain ⟨b, o, rfl, hbl, hcp⟩ := HH.out
  have HB26 := mkHid (show ∀ Z, Below w6.heap.size w6 Z → Below w1'.heap.size w1' Z from fun Z hz => below_stepF HB6.out hz)
  have HKS := mkHid (show ∀ Z, Below w6.heap.size w6 Z → (Z.cell? ⟨w.heap.size, 0, none⟩ = some (.string s) ∧ Z.cell? ⟨w.heap.size, 1, none⟩ = some (.int .i64 d) ∧ Z.cell? ⟨w.heap.size, 2, none⟩ = some (.int .i64 p) ∧ Z.cell? ⟨b, o, none⟩ = some (.string s)) from fun Z hz =>
    have h1 := HBX2.out Z (HB26.out Z hz)
    ⟨h1.1, h1.2.1, h1.2.2, (hz.cell (p := ⟨b, o, none⟩) hbl).trans hcp⟩)
  have HDF := mkHid (show ∀ Z, Below w6.heap.size w6 Z → Calls Tryd.prog 15 #[faultV w1.heap.size] Z fun e w' => e = .returned (.int .i64 (n + 1 : Nat)) ∧ Below w6.heap.size w6 w' from fun Z hz =>
    (depth_any (⟨s, d, p⟩ :: ls) (w1.heap.size + 1) (some code) _ Z (HK.out.et _ (HB2.out.trans ((HB26.out Z hz).mono HB2.out.size))) (HCF.out _ (HB26.out Z hz)) (HSF.out _ (HB26.out Z hz)) (by rw [List.length_cons, HLN.out]; omega)).mono fun e w' h => ⟨by rw [h.1, List.length_cons, HLN.out], below_stepF hz h.2⟩)
  have HDE := mkHid (show ∀ Z, Below w6.heap.size w6 Z → Calls Tryd.prog 15 #[.iface T y] Z fun e w' => e = .returned (.int .i64 (n : Nat)) ∧ Below w6.heap.size w6 w' from fun Z hz =>
    (depth_any ls w1.heap.size (some code) _ Z (HK.out.et _ (HB2.out.trans ((HB26.out Z hz).mono HB2.out.size))) (HK.out.ch _ (HB2.out.trans ((HB26.out Z hz).mono HB2.out.size))) (Nat.le_trans HB2.out.size (HB26.out Z hz).size) (by rw [HLN.out]; omega)).mono fun e w' h => ⟨by rw [h.1, HLN.out], below_stepF hz h.2⟩)
  have HBY := mkHid (Below.refl w6.heap.size w6)
  obtain ⟨z0, z1, z2, z3⟩ := HKS.out w6 HBY.out
  have hky := HKS.out w6 HBY.out
  have hw1 : IntKind.i64.wrap ((n : Int) + 1) = (n : Int) + 1 := IntWalk.i64_in _ ⟨by omega, by omega⟩
  have hi0 : (0 : Int) < (n : Int) + 1 := by omega
  have hi1 : 0 < n + 1 := by omega
  clear x0 x1 x2 hcp HH
  go_region_held3 (fun Z => Z.cell? ⟨w.heap.size, 0, none⟩ = some (.string s) ∧ Z.cell? ⟨w.heap.size, 1, none⟩ = some (.int .i64 d) ∧ Z.cell? ⟨w.heap.size, 2, none⟩ = some (.int .i64 p) ∧ Z.cell? ⟨b, o, none⟩ = some (.string s)) (first | exact hky | exact HKS.out _ HBY.out | exact HKS.out _ HBY.out.drew) (first
    | (go_at_call 15; (with_reducible first | refine (HDF.out _ HBY.out).mono ?_ | refine (HDF.out _ HBY.out.drew).mono ?_); rintro e wz ⟨rfl, hb⟩; have HBY := mkHid hb; have hky := HKS.out _ hb; clear hb)
    | (go_at_call 15; (with_reducible first | refine (HDE.out _ HBY.out).mono ?_ | refine (HDE.out _ HBY.out.drew).mono ?_); rintro e wz ⟨rfl, hb⟩; have HBY := mkHid hb; have hky := HKS.out _ hb; clear hb))
  all_goals
    have HB9 := mkHid (HB26.out _ HBY.out)
    have HCE := mkHid (show ∀ Z, Below wz.heap.size wz Z → Below w1'.heap.size w1' Z from fun Z hz => below_stepF HB9.out hz)
    go_wp2_with (first
      | (go_at_call 18; (with_reducible refine ((HD1.out w1.heap.size T y _ (HK.out.et _ (HB2.out.trans (HB9.out.mono HB2.out.size))) (HK.out.ch _ (HB2.out.trans (HB9.out.mono HB2.out.size))))).mono ?_); rintro e w10 ⟨rfl, hb⟩; have HB10 := mkHid (below_stepF HB9.out hb); have HZ10 := mkHid hb; clear hb)
      | (go_at_call 18; (with_reducible refine ((HD2.out (w1.heap.size + 1) w1.heap.size _ (HK.out.et _ (HB2.out.trans (HB10.out.mono HB2.out.size))) (HCF.out _ HB10.out) (HSF.out _ HB10.out))).mono ?_); rintro e w11 ⟨rfl, hb⟩; have HB11 := mkHid (below_stepF HB10.out hb); obtain ⟨z0, z1, z2⟩ := HBX2.out _ HB11.out; clear hb)
      | (go_at_call 9; refine (awake_any _ (HK.out.et _ (HB2.out.trans (HB11.out.mono HB2.out.size)))).mono ?_; rintro e w12 ⟨rfl, hb⟩; have HB12 := mkHid (below_stepF HB11.out hb); clear hb))
    go_ret
    exact ⟨rfl, below_stepF HB0.out (HK.out.be _ (HB2.out.trans (HB12.out.mono HB2.out.size)))⟩


set_option maxRecDepth 100000 in
set_option maxHeartbeats 8000000 in
theorem faultMore_succ (a : Option Addr) (m c : Nat) (ls : List Lk) (code : Int) (s : ByteArray) (d p : Int) (w : World) (hE : ErrT w) (h : LS w w.heap.size a (m + 1) ls) (hn : m + 1 ≤ 200) :
    Calls Tryd.prog 6 #[.slice a (m + 1) c, .int .i64 code, .agg #[.string s, .int .i64 d, .int .i64 p]] w fun e w' => e = .returned (.bool true) ∧ Below w.heap.size w w' := by
  obtain ⟨W0, hW0⟩ : ∃ W0, w.alloc (.cells #[.string s, .int .i64 d, .int .i64 p] 36) = W0 := ⟨_, rfl⟩
  have HB0 := mkHid (show Below w.heap.size w W0 from by rw [← hW0]; exact below_alF _)
  have hg : W0.heap[w.heap.size]? = some (.cells #[.string s, .int .i64 d, .int .i64 p] 36 (0, 0)) := by rw [← hW0]; exact heap_alloc_new w _
  have HBX := mkHid (show ∀ Z, Below W0.heap.size W0 Z → Z.cell? ⟨w.heap.size, 0, none⟩ = some (.string s) ∧ Z.cell? ⟨w.heap.size, 1, none⟩ = some (.int .i64 d) ∧ Z.cell? ⟨w.heap.size, 2, none⟩ = some (.int .i64 p) from fun Z hz =>
    have h1 := (hz.block w.heap.size (Array.getElem?_eq_some_iff.1 hg).1).trans hg
    ⟨cell_of_row Z w.heap.size 0 _ _ _ h1, cell_of_row Z w.heap.size 1 _ _ _ h1, cell_of_row Z w.heap.size 2 _ _ _ h1⟩)
  have HE := mkHid (hE.below HB0.out)
  have HL := mkHid ((h.below HB0.out).more HB0.out.size)
  have HLN := mkHid h.1
  obtain ⟨z, hxm⟩ : ∃ z, ls[m]? = some z := ⟨_, List.getElem?_eq_getElem (by rw [h.1]; omega)⟩
  have HXM := mkHid hxm
  clear hxm
  clear hE h hg
  go_enter Tryd.func6, Tryd.ntmps6
  go_wp2_with fail
  clear hW0
  refine (chain_any a (m + 1) c ls code _ HL.out hn).mono ?_
  rintro e w1 ⟨v, rfl, hch, hb⟩
  obtain ⟨T, y, rfl⟩ := hch.form
  have HK := mkHid (Kept.mk' hch HE.out hb)
  obtain ⟨w2, hw2⟩ : ∃ w2, w1.alloc (faultO ⟨s, d, p⟩ (.iface T y)) = w2 := ⟨_, rfl⟩
  have HB2 := mkHid (show Below w1.heap.size w1 w2 from by rw [← hw2]; exact below_alF _)
  have HCF := mkHid (show ∀ Z, Below w2.heap.size w2 Z → Ch Z (w1.heap.size + 1) (⟨s, d, p⟩ :: ls) (some code) (faultV w1.heap.size) from fun Z hz =>
    ⟨w1.heap.size, _, rfl, Nat.lt_succ_self _, (hz.block _ (by rw [← hw2]; simp)).trans (by rw [← hw2]; exact heap_alloc_new w1 _), HK.out.ch Z (HB2.out.trans (hz.mono HB2.out.size))⟩)
  have HSF := mkHid (show ∀ Z, Below w2.heap.size w2 Z → w1.heap.size + 1 ≤ Z.heap.size from fun Z hz => by have := hz.size; rw [← hw2] at this; simpa using this)
  have HR2 := mkHid (Below.refl w2.heap.size w2)
  have HBX2 := mkHid (show ∀ Z, Below w2.heap.size w2 Z → Z.cell? ⟨w.heap.size, 0, none⟩ = some (.string s) ∧ Z.cell? ⟨w.heap.size, 1, none⟩ = some (.int .i64 d) ∧ Z.cell? ⟨w.heap.size, 2, none⟩ = some (.int .i64 p) from fun Z hz => HBX.out Z (hb.trans ((HB2.out.trans (hz.mono HB2.out.size)).mono hb.size)))
  obtain ⟨x0, x1, x2⟩ := HBX.out w1 hb
  clear hb hch HBX
  go_wp2_with (first
    | (go_at_call 19; refine (wrap_any s d p T y _).mono ?_; rintro e w1' ⟨rfl, hww⟩; rw [hw2] at hww; subst hww)
    | (go_at_call 14; (with_reducible refine (codeOf_some ls w1.heap.size code T y _ (HK.out.et _ HB2.out) (HK.out.ch _ HB2.out) HB2.out.size).mono ?_); rintro e w3 ⟨rfl, hb⟩; have HB3 := mkHid (below_stepF HR2.out hb); clear hb)
    | (go_at_call 14; (with_reducible refine (codeOf_some (⟨s, d, p⟩ :: ls) (w1.heap.size + 1) code _ _ _ (HK.out.et _ (HB2.out.trans (HB3.out.mono HB2.out.size))) (HCF.out _ HB3.out) (HSF.out _ HB3.out)).mono ?_); rintro e w4 ⟨rfl, hb⟩; have HB4 := mkHid (below_stepF HB3.out hb); clear hb)
    | (go_at_call 13; refine (where_head (⟨s, d, p⟩ :: ls) (w1.heap.size + 1) (some code) _ ⟨s, d, p⟩ _ (HK.out.et _ (HB2.out.trans (HB4.out.mono HB2.out.size))) (HCF.out _ HB4.out) rfl).mono ?_; rintro e w5 ⟨rfl, hb⟩; have HB5 := mkHid (below_stepF HB4.out hb); clear hb)
    | (go_at_call 17; refine (path_any (⟨s, d, p⟩ :: ls) (w1.heap.size + 1) (some code) _ _ (HK.out.et _ (HB2.out.trans (HB5.out.mono HB2.out.size))) (HCF.out _ HB5.out) (HSF.out _ HB5.out) (by rw [List.length_cons, HLN.out]; omega)).mono ?_; rintro e w6 ⟨A, C, rfl, ho, hb⟩; rw [List.length_cons, HLN.out] at ho; rw [List.length_cons, HLN.out]; have HB6 := mkHid (below_stepF HB5.out hb); have HH := mkHid (own_head ho); clear hb ho))
  obtain ⟨b, o, rfl, hbl, hcp⟩ := HH.out
  have HB26 := mkHid (show ∀ Z, Below w6.heap.size w6 Z → Below w1'.heap.size w1' Z from fun Z hz => below_stepF HB6.out hz)
  have HKS := mkHid (show ∀ Z, Below w6.heap.size w6 Z → (Z.cell? ⟨w.heap.size, 0, none⟩ = some (.string s) ∧ Z.cell? ⟨w.heap.size, 1, none⟩ = some (.int .i64 d) ∧ Z.cell? ⟨w.heap.size, 2, none⟩ = some (.int .i64 p) ∧ Z.cell? ⟨b, o, none⟩ = some (.string s)) from fun Z hz =>
    have h1 := HBX2.out Z (HB26.out Z hz)
    ⟨h1.1, h1.2.1, h1.2.2, (hz.cell (p := ⟨b, o, none⟩) hbl).trans hcp⟩)
  have HDF := mkHid (show ∀ Z, Below w6.heap.size w6 Z → Calls Tryd.prog 15 #[faultV w1.heap.size] Z fun e w' => e = .returned (.int .i64 ((m + 1) + 1 : Nat)) ∧ Below w6.heap.size w6 w' from fun Z hz =>
    (depth_any (⟨s, d, p⟩ :: ls) (w1.heap.size + 1) (some code) _ Z (HK.out.et _ (HB2.out.trans ((HB26.out Z hz).mono HB2.out.size))) (HCF.out _ (HB26.out Z hz)) (HSF.out _ (HB26.out Z hz)) (by rw [List.length_cons, HLN.out]; omega)).mono fun e w' h => ⟨by rw [h.1, List.length_cons, HLN.out], below_stepF hz h.2⟩)
  have HDE := mkHid (show ∀ Z, Below w6.heap.size w6 Z → Calls Tryd.prog 15 #[.iface T y] Z fun e w' => e = .returned (.int .i64 ((m + 1) : Nat)) ∧ Below w6.heap.size w6 w' from fun Z hz =>
    (depth_any ls w1.heap.size (some code) _ Z (HK.out.et _ (HB2.out.trans ((HB26.out Z hz).mono HB2.out.size))) (HK.out.ch _ (HB2.out.trans ((HB26.out Z hz).mono HB2.out.size))) (Nat.le_trans HB2.out.size (HB26.out Z hz).size) (by rw [HLN.out]; omega)).mono fun e w' h => ⟨by rw [h.1, HLN.out], below_stepF hz h.2⟩)
  have HBY := mkHid (Below.refl w6.heap.size w6)
  obtain ⟨z0, z1, z2, z3⟩ := HKS.out w6 HBY.out
  have hky := HKS.out w6 HBY.out
  have hw1 : IntKind.i64.wrap ((m : Int) + 1 + 1) = (m : Int) + 1 + 1 := IntWalk.i64_in _ ⟨by omega, by omega⟩
  have hi0 : (0 : Int) < (m : Int) + 1 + 1 := by omega
  have hi1 : 0 < m + 1 + 1 := by omega
  clear x0 x1 x2 hcp HH
  go_region_held3 (fun Z => Z.cell? ⟨w.heap.size, 0, none⟩ = some (.string s) ∧ Z.cell? ⟨w.heap.size, 1, none⟩ = some (.int .i64 d) ∧ Z.cell? ⟨w.heap.size, 2, none⟩ = some (.int .i64 p) ∧ Z.cell? ⟨b, o, none⟩ = some (.string s)) (first | exact hky | exact HKS.out _ HBY.out | exact HKS.out _ HBY.out.drew) (first
    | (go_at_call 15; (with_reducible first | refine (HDF.out _ HBY.out).mono ?_ | refine (HDF.out _ HBY.out.drew).mono ?_); rintro e wz ⟨rfl, hb⟩; have HBY := mkHid hb; have hky := HKS.out _ hb; clear hb)
    | (go_at_call 15; (with_reducible first | refine (HDE.out _ HBY.out).mono ?_ | refine (HDE.out _ HBY.out.drew).mono ?_); rintro e wz ⟨rfl, hb⟩; have HBY := mkHid hb; have hky := HKS.out _ hb; clear hb))
  all_goals
    have HB9 := mkHid (HB26.out _ HBY.out)
    have HCE := mkHid (show ∀ Z, Below wz.heap.size wz Z → Below w1'.heap.size w1' Z from fun Z hz => below_stepF HB9.out hz)
    go_wp2_with (first
      | (go_at_call 18; (with_reducible refine ((deepest_last ls w1.heap.size m (some code) _ z _ (HK.out.et _ (HB2.out.trans (HB9.out.mono HB2.out.size))) (HK.out.ch _ (HB2.out.trans (HB9.out.mono HB2.out.size))) (Nat.le_trans HB2.out.size HB9.out.size) HLN.out (by omega) HXM.out)).mono ?_); rintro e w10 ⟨rfl, hb⟩; have HB10 := mkHid (below_stepF HB9.out hb); have HZ10 := mkHid hb; clear hb)
      | (go_at_call 18; (with_reducible refine ((deepest_last (⟨s, d, p⟩ :: ls) (w1.heap.size + 1) (m + 1) (some code) _ z _ (HK.out.et _ (HB2.out.trans (HB10.out.mono HB2.out.size))) (HCF.out _ HB10.out) (HSF.out _ HB10.out) (by rw [List.length_cons, HLN.out]) (by omega) (by rw [List.getElem?_cons_succ]; exact HXM.out))).mono ?_); rintro e w11 ⟨rfl, hb⟩; have HB11 := mkHid (below_stepF HB10.out hb); obtain ⟨z0, z1, z2⟩ := HBX2.out _ HB11.out; clear hb)
      | (go_at_call 9; refine (awake_any _ (HK.out.et _ (HB2.out.trans (HB11.out.mono HB2.out.size)))).mono ?_; rintro e w12 ⟨rfl, hb⟩; have HB12 := mkHid (below_stepF HB11.out hb); clear hb))
    go_ret
    exact ⟨rfl, below_stepF HB0.out (HK.out.be _ (HB2.out.trans (HB12.out.mono HB2.out.size)))⟩


set_option maxRecDepth 20000 in
set_option maxHeartbeats 4000000 in
theorem faultMore_any (a : Option Addr) (n c : Nat) (ls : List Lk) (code : Int) (s : ByteArray) (d p : Int) (w : World) (hE : ErrT w) (h : LS w w.heap.size a n ls) :
    Calls Tryd.prog 6 #[.slice a n c, .int .i64 code, .agg #[.string s, .int .i64 d, .int .i64 p]] w fun e w' => e = .returned (.bool true) ∧ Below w.heap.size w w' := by
  by_cases hn : 200 < n
  · have HB0 := mkHid (show Below w.heap.size w (w.alloc (.cells #[.string s, .int .i64 d, .int .i64 p] 36)) from below_alF _)
    have HE := mkHid (hE.below HB0.out)
    clear hE h
    go_enter Tryd.func6, Tryd.ntmps6
    go_wp2_with (go_at_call 9; refine (awake_any _ HE.out).mono ?_; rintro e w1 ⟨rfl, hb⟩; have HB1 := mkHid hb; clear hb)
    go_ret
    exact ⟨rfl, below_stepF HB0.out HB1.out⟩
  · rcases n with _ | m
    · have hl : ls = [] := List.eq_nil_of_length_eq_zero h.1
      subst hl
      exact faultMore_zero a 0 c [] code s d p w hE h (by omega) (fun B T y Z hZ hch => by
        have hv : Value.iface T y = endV (some code) := hch
        rw [hv]
        exact deepest_none (some code) Z hZ) (fun B g Z hZ hch hB => deepest_last [⟨s, d, p⟩] B 0 (some code) _ ⟨s, d, p⟩ Z hZ hch hB rfl (by omega) rfl)
    · exact faultMore_succ a m c ls code s d p w hE h (by omega)

end Go.Proofs.YtolcajcihgfeeaaDoor
