/- portagelaw01.FaultNil answers true. -/
import Derived.Test.YtolcajcihgfeeaaDoorFtK
import Derived.Test.YtolcajcihgfeeaaDoorFaultWraps
namespace Go.Proofs.YtolcajcihgfeeaaDoor
open Go.RowKit Go.Extern.Stop Go.Stop Go.Extern

theorem where_nil (w : World) (hE : ErrT w) : Calls Tryd.prog 13 #[.nilIface] w fun e w' => e = .returned (.tuple #[.int .i64 0, .int .i64 0, .bool false]) ∧ Below w.heap.size w w' := where_none none w hE
theorem deepest_nil (w : World) (hE : ErrT w) : Calls Tryd.prog 18 #[.nilIface] w fun e w' => e = .returned (.tuple #[.int .i64 0, .int .i64 0, .bool false]) ∧ Below w.heap.size w w' := deepest_none none w hE
theorem path_nil (w : World) (hE : ErrT w) : Calls Tryd.prog 17 #[.nilIface] w fun e w' => (∃ A C, e = .returned (.slice A 0 C)) ∧ Below w.heap.size w w' :=
  (path_any [] 0 none .nilIface w hE rfl (Nat.zero_le _) (Nat.zero_le _)).mono fun e w' ⟨A, C, he, _, hb⟩ => ⟨⟨A, C, he⟩, hb⟩
theorem depth_nil (w : World) (hE : ErrT w) : Calls Tryd.prog 15 #[.nilIface] w fun e w' => e = .returned (.int .i64 0) ∧ Below w.heap.size w w' := depth_any [] 0 none .nilIface w hE rfl (Nat.zero_le _) (Nat.zero_le _)
theorem below_stepA {w w1 : World} (h1 : Below w.heap.size w w1) (o : Obj) : Below w.heap.size w (w1.alloc o) := h1.alloc h1.size o

set_option maxRecDepth 20000 in
set_option maxHeartbeats 8000000 in
theorem faultNil_any (s : ByteArray) (d p code : Int) (w : World) (hE : ErrT w) (hP : PowT w) (hd : I64 d) (hp : I64 p) (hc : I64 code) :
    Calls Tryd.prog 8 #[.agg #[.string s, .int .i64 d, .int .i64 p, .int .i64 code]] w fun e w' => e = .returned (.bool true) ∧ Below w.heap.size w w' := by
  obtain ⟨W, hW⟩ : ∃ W, w.alloc (.cells #[.string s, .int .i64 d, .int .i64 p, .int .i64 code] 56) = W := ⟨_, rfl⟩
  have HB0 := mkHid (show Below w.heap.size w W from by rw [← hW]; exact below_alF _)
  have hg : W.heap[w.heap.size]? = some (.cells #[.string s, .int .i64 d, .int .i64 p, .int .i64 code] 56 (0, 0)) := by rw [← hW]; exact heap_alloc_new w _
  have k0 : W.cell? ⟨w.heap.size, 0, none⟩ = some (.string s) := cell_of_row W w.heap.size 0 _ _ _ hg
  have k1 : W.cell? ⟨w.heap.size, 1, none⟩ = some (.int .i64 d) := cell_of_row W w.heap.size 1 _ _ _ hg
  have k2 : W.cell? ⟨w.heap.size, 2, none⟩ = some (.int .i64 p) := cell_of_row W w.heap.size 2 _ _ _ hg
  have k3 : W.cell? ⟨w.heap.size, 3, none⟩ = some (.int .i64 code) := cell_of_row W w.heap.size 3 _ _ _ hg
  have HE := mkHid (hE.below HB0.out)
  have HP := mkHid (hP.below HB0.out)
  have HI := mkHid (And.intro hd (And.intro hp hc))
  clear hE hP hg hd hp hc
  go_enter Tryd.func8, Tryd.ntmps8
  go_wp2_with fail
  go_quiet (fail)
  obtain ⟨W1, hW1⟩ : ∃ W1, W.drewN nq = W1 := ⟨_, rfl⟩
  have HB1 := mkHid (show Below w.heap.size w W1 from by rw [← hW1]; exact below_drewN HB0.out _)
  have HE1 := mkHid (show ∀ Z, Below W1.heap.size W1 Z → ErrT Z from fun Z hz => ErrT.below (show ErrT W1 from by rw [← hW1]; exact HE.out) hz)
  have HP1 := mkHid (show ∀ Z, Below W1.heap.size W1 Z → PowT Z from fun Z hz => PowT.below (show PowT W1 from by rw [← hW1]; exact HP.out) hz)
  rw [hW1]
  clear hW hW1 k0 k1 k2 k3
  have HR1 := mkHid (Below.refl W1.heap.size W1)
  by_cases hbig : 10000 < s.size
  · go_wp2_with (go_at_call 9; refine (awake_any _ (HE1.out _ HR1.out)).mono ?_; rintro e w1 ⟨rfl, hb⟩; have HB2 := mkHid (hb.mono HB1.out.size); clear hb)
    go_ret
    exact ⟨rfl, HB1.out.trans HB2.out⟩
  have hs : s.size ≤ 10000 := by omega
  clear hbig
  go_wp2_with (first
    | (go_at_call 19; refine (wrap_nil s d p _).mono ?_; rintro e w1' ⟨rfl, hww⟩; subst hww)
    | (go_at_call 14; (with_reducible refine (codeOf_nil _).mono ?_); rintro e w2 ⟨rfl, hb⟩; have HB2 := mkHid (below_step2 HR1.out hb); clear hb)
    | (go_at_call 13; (with_reducible refine (where_nil _ (HE1.out _ HB2.out)).mono ?_); rintro e w3 ⟨rfl, hb⟩; have HB3 := mkHid (below_step2 HB2.out hb); clear hb)
    | (go_at_call 18; (with_reducible refine (deepest_nil _ (HE1.out _ HB3.out)).mono ?_); rintro e w4 ⟨rfl, hb⟩; have HB4 := mkHid (below_step2 HB3.out hb); clear hb)
    | (go_at_call 17; (with_reducible refine (path_nil _ (HE1.out _ HB4.out)).mono ?_); rintro e w5 ⟨⟨A, C, rfl⟩, hb⟩; have HB5 := mkHid (below_step2 HB4.out hb); clear hb)
    | (go_at_call 15; (with_reducible refine (depth_nil _ (HE1.out _ HB5.out)).mono ?_); rintro e w6 ⟨rfl, hb⟩; have HB6 := mkHid (below_step2 HB5.out hb); clear hb)
    | (go_at_call 12; refine (isAny_nil _ 1 1 [code] _ ⟨SL.of_block (heap_alloc_new w6 _) rfl (by simp), fun x hx => by rw [List.mem_singleton.1 hx]; exact HI.out.2.2⟩ (by omega)).mono ?_; rintro e w7 ⟨rfl, hb⟩; have HB7 := mkHid (below_step2 (below_stepA HB6.out _) hb); clear hb))
  obtain ⟨w8, hw8⟩ : ∃ w8, w7.alloc (faultO ⟨s, d, p⟩ .nilIface) = w8 := ⟨_, rfl⟩
  have HB8 := mkHid (show Below W1.heap.size W1 w8 from by rw [← hw8]; exact below_stepA HB7.out _)
  have hgf : w8.heap[w7.heap.size]? = some (faultO ⟨s, d, p⟩ .nilIface) := by rw [← hw8]; exact heap_alloc_new w7 _
  have HGF := mkHid (show ∀ Z, Below w8.heap.size w8 Z → Z.heap[w7.heap.size]? = some (faultO ⟨s, d, p⟩ .nilIface) from fun Z hz => (hz.block _ (Array.getElem?_eq_some_iff.1 hgf).1).trans hgf)
  have HSF := mkHid (show ∀ Z, Below w8.heap.size w8 Z → w7.heap.size + 1 ≤ Z.heap.size from fun Z hz => by have := hz.size; rw [← hw8] at this; simpa using this)
  have HCF := mkHid (show ∀ Z, Below w8.heap.size w8 Z → Ch Z (w7.heap.size + 1) [⟨s, d, p⟩] none (faultV w7.heap.size) from fun Z hz => ⟨_, _, rfl, Nat.lt_succ_self _, HGF.out Z hz, rfl⟩)
  have HE8 := mkHid (show ∀ Z, Below w8.heap.size w8 Z → ErrT Z from fun Z hz => HE1.out Z (below_step2 HB8.out hz))
  have HP8 := mkHid (show ∀ Z, Below w8.heap.size w8 Z → PowT Z from fun Z hz => HP1.out Z (below_step2 HB8.out hz))
  have HBW := mkHid (show ∀ Z, Below w8.heap.size w8 Z → Below w.heap.size w Z from fun Z hz => below_step2 HB1.out (below_step2 HB8.out hz))
  have HR8 := mkHid (Below.refl w8.heap.size w8)
  obtain ⟨LT, hLT⟩ : ∃ LT, loneText s (Lib.itoa d) (Lib.itoa p) = LT := ⟨_, rfl⟩
  have HLT := mkHid hLT
  rw [show w7.alloc (.cells #[.string s, .int .i64 d, .int .i64 p, .nilIface] 51) = w8 from hw8]
  clear hw8 hgf hLT
  refine (codeOf_none [⟨s, d, p⟩] (w7.heap.size + 1) _ _ _ (HE8.out _ HR8.out) (HCF.out _ HR8.out) (HSF.out _ HR8.out)).mono ?_
  rintro e w9 ⟨rfl, hb⟩
  have HB9 := mkHid (below_step2 HR8.out hb)
  clear hb
  go_wp2_with (first
    | (go_at_call 13; refine (where_some w7.heap.size ⟨s, d, p⟩ .nilIface _ (HE8.out _ HB9.out) (HGF.out _ HB9.out)).mono ?_; rintro e w10 ⟨rfl, hb⟩; have HB10 := mkHid (below_step2 HB9.out hb); clear hb)
    | (go_at_call 20; refine (unwrap_any w7.heap.size ⟨s, d, p⟩ _ _ (HGF.out _ HB10.out)).mono ?_; rintro e w11 ⟨rfl, hww⟩; subst hww)
    | (go_at_call 21; refine (error_any w7.heap.size ⟨s, d, p⟩ _ (HP8.out _ HB10.out) (HGF.out _ HB10.out) hs HI.out.1 HI.out.2.1).mono ?_; rintro e w12 ⟨rfl, hb⟩; rw [HLT.out]; have HB12 := mkHid (below_step2 HB10.out hb); clear hb)
    | (go_at_call 22; refine (text_one w12.heap.size 0 1 ⟨s, d, p⟩ _ (by simp) (cell_of_row _ _ 0 _ _ _ (heap_alloc_new w12 _)) (cell_of_row _ _ 1 _ _ _ (heap_alloc_new w12 _)) (cell_of_row _ _ 2 _ _ _ (heap_alloc_new w12 _)) hs HI.out.1 HI.out.2.1).mono ?_; rintro e w13 ⟨rfl, hb⟩; rw [HLT.out]; have HB13 := mkHid (below_step2 (below_stepA HB12.out _) hb); clear hb)
    | (go_at_call 15; refine (depth_any [⟨s, d, p⟩] (w7.heap.size + 1) none _ _ (HE8.out _ HB13.out) (HCF.out _ HB13.out) (HSF.out _ HB13.out) (by simp)).mono ?_; rintro e w14 ⟨rfl, hb⟩; have HB14 := mkHid (below_step2 HB13.out hb); clear hb)
    | (go_at_call 9; refine (awake_any _ (HE8.out _ HB14.out)).mono ?_; rintro e w15 ⟨rfl, hb⟩; have HB15 := mkHid (below_step2 HB14.out hb); clear hb))
  go_ret
  exact ⟨rfl, HBW.out _ HB15.out⟩
end Go.Proofs.YtolcajcihgfeeaaDoor
