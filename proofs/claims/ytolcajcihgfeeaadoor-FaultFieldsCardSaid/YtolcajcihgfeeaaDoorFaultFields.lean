/- portagelaw01.FaultFields answers true. -/
import Derived.Test.YtolcajcihgfeeaaDoorFaultNil
import Derived.Test.YtolcajcihgfeeaaDoorFaultIs
import Derived.IntWalk
namespace Go.Proofs.YtolcajcihgfeeaaDoor
open Go.RowKit Go.Extern.Stop Go.Stop Go.Extern

theorem slot_kept {w w' : World} {o : Obj} (hb : Below (w.alloc o).heap.size (w.alloc o) w') : w'.heap[w.heap.size]? = some o := (hb.block w.heap.size (by simp)).trans (heap_alloc_new w o)
theorem slot_keptd {w w' : World} {o : Obj} (hb : Below (w.alloc o).drew.heap.size (w.alloc o).drew w') : w'.heap[w.heap.size]? = some o := (hb.block w.heap.size (by show _ < (w.alloc o).heap.size; simp)).trans (heap_alloc_new w o)
theorem isFault (v : Value) (xT : TypeId) (w : World) : (Instr.typeAssert (.iface 48 v) xT 48 true).run Tryd.prog w = .ok (.tuple #[v, .bool true]) w := by kernel_rfl
set_option maxRecDepth 20000 in
set_option maxHeartbeats 8000000 in
theorem faultFields_any (a : Option Addr) (n c : Nat) (ls : List Lk) (code : Int) (s : ByteArray) (d p : Int) (w : World) (hE : ErrT w) (hP : PowT w) (h : LS w w.heap.size a n ls) (hd : I64 d) (hp : I64 p) :
    Calls Tryd.prog 7 #[.slice a n c, .int .i64 code, .agg #[.string s, .int .i64 d, .int .i64 p]] w fun e w' => e = .returned (.bool true) ∧ Below w.heap.size w w' := by
  obtain ⟨W0, hW0⟩ : ∃ W0, w.alloc (.cells #[.string s, .int .i64 d, .int .i64 p] 36) = W0 := ⟨_, rfl⟩
  have HB0 := mkHid (show Below w.heap.size w W0 from by rw [← hW0]; exact below_alF _)
  have hg : W0.heap[w.heap.size]? = some (.cells #[.string s, .int .i64 d, .int .i64 p] 36 (0, 0)) := by rw [← hW0]; exact heap_alloc_new w _
  have HBX := mkHid (show ∀ Z, Below W0.heap.size W0 Z → Z.cell? ⟨w.heap.size, 0, none⟩ = some (.string s) ∧ Z.cell? ⟨w.heap.size, 1, none⟩ = some (.int .i64 d) ∧ Z.cell? ⟨w.heap.size, 2, none⟩ = some (.int .i64 p) from fun Z hz =>
    have h1 := (hz.block w.heap.size (Array.getElem?_eq_some_iff.1 hg).1).trans hg
    ⟨cell_of_row Z w.heap.size 0 _ _ _ h1, cell_of_row Z w.heap.size 1 _ _ _ h1, cell_of_row Z w.heap.size 2 _ _ _ h1⟩)
  have HE := mkHid (hE.below HB0.out)
  have HP := mkHid (hP.below HB0.out)
  have HI := mkHid (And.intro hd hp)
  have HL := mkHid ((h.below HB0.out).more HB0.out.size)
  have HLN := mkHid h.1
  have HR0 := mkHid (Below.refl W0.heap.size W0)
  obtain ⟨x0, x1, x2⟩ := HBX.out W0 HR0.out
  clear hE hP hd hp h hg
  by_cases hbig : 200 < n ∨ 10000 < s.size
  · by_cases hb1 : 200 < n
    · go_enter Tryd.func7, Tryd.ntmps7
      go_wp2_with (go_at_call 9; refine (awake_any _ HE.out).mono ?_; rintro e w1 ⟨rfl, hb⟩; have HB1 := mkHid hb; clear hb)
      go_ret
      exact ⟨rfl, below_step2 HB0.out HB1.out⟩
    · have hb2 : 10000 < s.size := by omega
      have hb3 : n ≤ 200 := by omega
      clear hb1 hbig
      go_enter Tryd.func7, Tryd.ntmps7
      go_wp2_with (go_at_call 9; refine (awake_any _ HE.out).mono ?_; rintro e w1 ⟨rfl, hb⟩; have HB1 := mkHid hb; clear hb)
      go_ret
      exact ⟨rfl, below_step2 HB0.out HB1.out⟩
  have hn : n ≤ 200 := by omega
  have hs : s.size ≤ 10000 := by omega
  clear hbig
  have hif := isFault
  go_enter Tryd.func7, Tryd.ntmps7
  go_wp2_with fail
  clear hW0 x0 x1 x2
  refine (chain_any a n c ls code _ HL.out hn).mono ?_
  rintro e w1 ⟨v, rfl, hch, hb⟩
  obtain ⟨T, y, rfl⟩ := hch.form
  have HK := mkHid (Kept.mk' hch HE.out hb)
  obtain ⟨w2, hw2⟩ : ∃ w2, w1.alloc (faultO ⟨s, d, p⟩ (.iface T y)) = w2 := ⟨_, rfl⟩
  have HB2 := mkHid (show Below w1.heap.size w1 w2 from by rw [← hw2]; exact below_alF _)
  have hgf : w2.heap[w1.heap.size]? = some (faultO ⟨s, d, p⟩ (.iface T y)) := by rw [← hw2]; exact heap_alloc_new w1 _
  have HGF := mkHid (show ∀ Z, Below w2.heap.size w2 Z → Z.heap[w1.heap.size]? = some (faultO ⟨s, d, p⟩ (.iface T y)) from fun Z hz => (hz.block _ (Array.getElem?_eq_some_iff.1 hgf).1).trans hgf)
  have HB12 := mkHid (show ∀ Z, Below w2.heap.size w2 Z → Below w1.heap.size w1 Z from fun Z hz => below_step2 HB2.out hz)
  have HSF := mkHid (show ∀ Z, Below w2.heap.size w2 Z → w1.heap.size + 1 ≤ Z.heap.size from fun Z hz => by have := hz.size; rw [← hw2] at this; simpa using this)
  have HCF := mkHid (show ∀ Z, Below w2.heap.size w2 Z → Ch Z (w1.heap.size + 1) (⟨s, d, p⟩ :: ls) (some code) (faultV w1.heap.size) from fun Z hz =>
    ⟨w1.heap.size, _, rfl, Nat.lt_succ_self _, HGF.out Z hz, HK.out.ch Z (HB12.out Z hz)⟩)
  have HBX2 := mkHid (show ∀ Z, Below w2.heap.size w2 Z → Z.cell? ⟨w.heap.size, 0, none⟩ = some (.string s) ∧ Z.cell? ⟨w.heap.size, 1, none⟩ = some (.int .i64 d) ∧ Z.cell? ⟨w.heap.size, 2, none⟩ = some (.int .i64 p) from fun Z hz => HBX.out Z (below_step2 hb (HB12.out Z hz)))
  have HP2 := mkHid (show ∀ Z, Below w2.heap.size w2 Z → PowT Z from fun Z hz => HP.out.below (below_step2 hb (HB12.out Z hz)))
  have HR2 := mkHid (Below.refl w2.heap.size w2)
  obtain ⟨x0, x1, x2⟩ := HBX.out w1 hb
  clear hb hch HBX hgf
  go_wp2_with (go_at_call 19; refine (wrap_any s d p T y _).mono ?_; rintro e w1' ⟨rfl, hww⟩; rw [hw2] at hww; subst hww)
  have HKA := mkHid (show ∀ Z, Below w1'.heap.size w1' Z → (Z.cell? ⟨w1.heap.size, 0, none⟩ = some (.string s) ∧ Z.cell? ⟨w1.heap.size, 1, none⟩ = some (.int .i64 d) ∧ Z.cell? ⟨w1.heap.size, 2, none⟩ = some (.int .i64 p)) ∧ Z.cell? ⟨w.heap.size, 0, none⟩ = some (.string s) ∧ Z.cell? ⟨w.heap.size, 1, none⟩ = some (.int .i64 d) ∧ Z.cell? ⟨w.heap.size, 2, none⟩ = some (.int .i64 p) from fun Z hz =>
    have h1 := HGF.out Z hz
    ⟨⟨cell_of_row Z w1.heap.size 0 _ _ _ h1, cell_of_row Z w1.heap.size 1 _ _ _ h1, cell_of_row Z w1.heap.size 2 _ _ _ h1⟩, HBX2.out Z hz⟩)
  have HDF := mkHid (show ∀ Z, Below w1'.heap.size w1' Z → Calls Tryd.prog 15 #[faultV w1.heap.size] Z fun e w' => e = .returned (.int .i64 (n + 1 : Nat)) ∧ Below w1'.heap.size w1' w' from fun Z hz =>
    (depth_any (⟨s, d, p⟩ :: ls) (w1.heap.size + 1) (some code) _ Z (HK.out.et _ (HB12.out Z hz)) (HCF.out _ hz) (HSF.out _ hz) (by rw [List.length_cons, HLN.out]; omega)).mono fun e w' h => ⟨by rw [h.1, List.length_cons, HLN.out], below_step2 hz h.2⟩)
  have HDE := mkHid (show ∀ Z, Below w1'.heap.size w1' Z → Calls Tryd.prog 15 #[.iface T y] Z fun e w' => e = .returned (.int .i64 (n : Nat)) ∧ Below w1'.heap.size w1' w' from fun Z hz =>
    (depth_any ls w1.heap.size (some code) _ Z (HK.out.et _ (HB12.out Z hz)) (HK.out.ch _ (HB12.out Z hz)) (HB12.out Z hz).size (by rw [HLN.out]; omega)).mono fun e w' h => ⟨by rw [h.1, HLN.out], below_step2 hz h.2⟩)
  have HUW := mkHid (show ∀ Z, Below w1'.heap.size w1' Z → Calls Tryd.prog 20 #[.pointer (some ⟨w1.heap.size, 0, none⟩)] Z fun e w' => e = .returned (.iface T y) ∧ Z = w' from fun Z hz => unwrap_any w1.heap.size ⟨s, d, p⟩ _ Z (HGF.out Z hz))
  have HBY := mkHid (Below.refl w1'.heap.size w1')
  obtain ⟨⟨y0, y1, y2⟩, z0, z1, z2⟩ := HKA.out w1' HBY.out
  have hky := HKA.out w1' HBY.out
  have hw1 : IntKind.i64.wrap ((n : Int) + 1) = (n : Int) + 1 := IntWalk.i64_in _ ⟨by omega, by omega⟩
  clear x0 x1 x2
  go_region_held3 (fun Z => (Z.cell? ⟨w1.heap.size, 0, none⟩ = some (.string s) ∧ Z.cell? ⟨w1.heap.size, 1, none⟩ = some (.int .i64 d) ∧ Z.cell? ⟨w1.heap.size, 2, none⟩ = some (.int .i64 p)) ∧ Z.cell? ⟨w.heap.size, 0, none⟩ = some (.string s) ∧ Z.cell? ⟨w.heap.size, 1, none⟩ = some (.int .i64 d) ∧ Z.cell? ⟨w.heap.size, 2, none⟩ = some (.int .i64 p)) (first | exact hky | exact HKA.out _ HBY.out | exact HKA.out _ HBY.out.drew) (first
    | (go_at_call 20; (with_reducible first | refine (HUW.out _ HBY.out).mono ?_ | refine (HUW.out _ HBY.out.drew).mono ?_); rintro e wz ⟨rfl, hww⟩; subst hww)
    | (go_at_call 15; (with_reducible first | refine (HDF.out _ HBY.out).mono ?_ | refine (HDF.out _ HBY.out.drew).mono ?_); rintro e wz ⟨rfl, hb⟩; have HBY := mkHid hb; have hky := HKA.out _ hb; clear hb)
    | (go_at_call 15; (with_reducible first | refine (HDE.out _ HBY.out).mono ?_ | refine (HDE.out _ HBY.out.drew).mono ?_); rintro e wz ⟨rfl, hb⟩; have HBY := mkHid hb; have hky := HKA.out _ hb; clear hb))
  obtain ⟨⟨y0, y1, y2⟩, z0, z1, z2⟩ := hky
  clear hw1
  go_wp2_with fail
  obtain ⟨w8, hw8⟩ : ∃ w8, wz.alloc (faultO ⟨s, d, p⟩ .nilIface) = w8 := ⟨_, rfl⟩
  rw [show wz.alloc (.cells #[.string s, .int .i64 d, .int .i64 p, .nilIface] 51) = w8 from hw8]
  have HB8 := mkHid (show Below w1'.heap.size w1' w8 from by rw [← hw8]; exact below_stepA HBY.out _)
  have hga : w8.heap[wz.heap.size]? = some (faultO ⟨s, d, p⟩ .nilIface) := by rw [← hw8]; exact heap_alloc_new wz _
  have HGA := mkHid (show ∀ Z, Below w8.heap.size w8 Z → Z.heap[wz.heap.size]? = some (faultO ⟨s, d, p⟩ .nilIface) from fun Z hz => (hz.block _ (Array.getElem?_eq_some_iff.1 hga).1).trans hga)
  have HB28 := mkHid (show ∀ Z, Below w8.heap.size w8 Z → Below w1'.heap.size w1' Z from fun Z hz => below_step2 HB8.out hz)
  clear hw8 hga y0 y1 y2 z0 z1 z2
  obtain ⟨LT, hLT⟩ : ∃ LT, loneText s (Lib.itoa d) (Lib.itoa p) = LT := ⟨_, rfl⟩
  have HLT := mkHid hLT
  clear hLT
  refine (HUW.out _ HB8.out).mono ?_
  rintro e w9 ⟨rfl, hww⟩
  subst hww
  go_wp2_with fail
  refine (codeOf_some ls w1.heap.size code T y _ (HK.out.et _ (HB12.out _ HB8.out)) (HK.out.ch _ (HB12.out _ HB8.out)) (HB12.out _ HB8.out).size).mono ?_
  rintro e w9 ⟨rfl, hb⟩
  have HB9 := mkHid hb
  clear hb
  have HB29 := mkHid (show ∀ Z, Below w9.heap.size w9 Z → Below w8.heap.size w8 Z from fun Z hz => below_step2 HB9.out hz)
  have HK9 := mkHid (show ∀ Z, Below w9.heap.size w9 Z → (Z.cell? ⟨w.heap.size, 0, none⟩ = some (.string s) ∧ Z.cell? ⟨w.heap.size, 1, none⟩ = some (.int .i64 d) ∧ Z.cell? ⟨w.heap.size, 2, none⟩ = some (.int .i64 p)) from fun Z hz => HBX2.out _ (HB28.out _ (HB29.out _ hz)))
  have HER := mkHid (show ∀ Z, Below w9.heap.size w9 Z → Calls Tryd.prog 21 #[.pointer (some ⟨wz.heap.size, 0, none⟩)] Z fun e w' => e = .returned (.string LT) ∧ Below w9.heap.size w9 w' ∧ Below Z.heap.size Z w' from fun Z hz =>
    (error_any wz.heap.size ⟨s, d, p⟩ Z (HP2.out _ (HB28.out _ (HB29.out _ hz))) (HGA.out _ (HB29.out _ hz)) hs HI.out.1 HI.out.2).mono fun e w' h => ⟨by rw [h.1, HLT.out], below_step2 hz h.2, h.2⟩)
  have HAW := mkHid (show ∀ Z, Below w9.heap.size w9 Z → Calls Tryd.prog 9 #[] Z fun e w' => e = .returned (.bool true) ∧ Below w9.heap.size w9 w' ∧ Below w.heap.size w w' from fun Z hz =>
    (awake_any Z (HK.out.et _ (HB12.out _ (HB28.out _ (HB29.out _ hz))))).mono fun e w' h => ⟨h.1, below_step2 hz h.2, below_step2 HB0.out (HK.out.be _ (HB12.out _ (HB28.out _ (HB29.out _ (below_step2 hz h.2)))))⟩)
  have HTX := mkHid (show ∀ (g : Nat) (Z : World), Below w9.heap.size w9 Z → Z.heap[g]? = some (.cells #[.string s, .int .i64 d, .int .i64 p] 36 (0, 0)) → Calls Tryd.prog 22 #[.slice (some ⟨g, 0, none⟩) 1 1, .int .i64 0, .bool false] Z fun e w' => e = .returned (.string LT) ∧ Below w9.heap.size w9 w' from fun g Z hb9 hz =>
    (text_one g 0 1 ⟨s, d, p⟩ Z (Array.getElem?_eq_some_iff.1 hz).1 (cell_of_row _ _ 0 _ _ _ hz) (cell_of_row _ _ 1 _ _ _ hz) (cell_of_row _ _ 2 _ _ _ hz) hs HI.out.1 HI.out.2).mono fun e w' h => ⟨by rw [h.1, HLT.out], below_step2 hb9 h.2⟩)
  replace HBY := mkHid (Below.refl w9.heap.size w9)
  obtain ⟨z0, z1, z2⟩ := HK9.out w9 HBY.out
  have hky := HK9.out w9 HBY.out
  have hcc : (code == code) = true := by simp
  go_wp2_with fail
  go_region_held3 (fun Z => Z.cell? ⟨w.heap.size, 0, none⟩ = some (.string s) ∧ Z.cell? ⟨w.heap.size, 1, none⟩ = some (.int .i64 d) ∧ Z.cell? ⟨w.heap.size, 2, none⟩ = some (.int .i64 p)) (with_reducible first | exact hky | exact HK9.out _ HBY.out | exact HK9.out _ HBY.out.drew | exact HK9.out _ (below_stepA HBY.out _) | exact HK9.out _ (below_stepA HBY.out _).drew | exact HK9.out _ (below_stepA HBY.out.drew _)) (first
    | (go_at_call 21; (with_reducible refine (HER.out _ HBY.out).mono ?_); rintro e wy ⟨rfl, hb, hb2⟩; have HBY := mkHid hb; have hky := HK9.out _ hb; clear hb; clear hb2)
    | (go_at_call 21; (with_reducible refine (HER.out _ HBY.out.drew).mono ?_); rintro e wy ⟨rfl, hb, hb2⟩; have HBY := mkHid hb; have hky := HK9.out _ hb; clear hb; clear hb2)
    | (go_at_call 21; (with_reducible refine (HER.out _ (below_stepA HBY.out _)).mono ?_); rintro e wy ⟨rfl, hb, hb2⟩; have HSL := mkHid (slot_kept hb2); have HBY := mkHid hb; have hky := HK9.out _ hb; clear hb; clear hb2)
    | (go_at_call 21; (with_reducible refine (HER.out _ (below_stepA HBY.out _).drew).mono ?_); rintro e wy ⟨rfl, hb, hb2⟩; have HSL := mkHid (slot_keptd hb2); have HBY := mkHid hb; have hky := HK9.out _ hb; clear hb; clear hb2)
    | (go_at_call 22; (with_reducible refine (HTX.out w9.heap.size _ HBY.out HSL.out).mono ?_); rintro e wx ⟨rfl, hb⟩; have HBY := mkHid hb; have hky := HK9.out _ hb; clear hb)
    | (go_at_call 22; (with_reducible refine (HTX.out w9.heap.size _ HBY.out.drew HSL.out).mono ?_); rintro e wx ⟨rfl, hb⟩; have HBY := mkHid hb; have hky := HK9.out _ hb; clear hb)
    | (go_at_call 22; (with_reducible refine (HTX.out wy.heap.size _ (below_stepA HBY.out _) (heap_alloc_new wy _)).mono ?_); rintro e wx ⟨rfl, hb⟩; have HBY := mkHid hb; have hky := HK9.out _ hb; clear hb)
    | (go_at_call 22; (with_reducible refine (HTX.out wy.heap.size _ (below_stepA HBY.out _).drew (heap_alloc_new wy _)).mono ?_); rintro e wx ⟨rfl, hb⟩; have HBY := mkHid hb; have hky := HK9.out _ hb; clear hb)
    | (go_at_call 9; (with_reducible refine (HAW.out _ HBY.out).mono ?_); rintro e wv ⟨rfl, hb, hbf⟩; have HBF := mkHid hbf; have HBY := mkHid hb; have hky := HK9.out _ hb; clear hb hbf)
    | (go_at_call 9; (with_reducible refine (HAW.out _ HBY.out.drew).mono ?_); rintro e wv ⟨rfl, hb, hbf⟩; have HBF := mkHid hbf; have HBY := mkHid hb; have hky := HK9.out _ hb; clear hb hbf))
  all_goals
    go_wp2_with fail
    go_ret
    exact ⟨rfl, HBF.out⟩
end Go.Proofs.YtolcajcihgfeeaaDoor
