/- Node.Check by contract. -/
import Derived.Test.YtilepjkdfbhgcaaNdC
namespace Go.Proofs.Ytilepjkdfbhgcaa
open Go.RowKit Go.Shelf

/-- Is a node right? -/
def rightN (lv : Int) (ks vs : List Int) : Bool := decide (0 ≤ lv ∧ lv ≤ 20 ∧ ks.length = vs.length ∧ 1 ≤ ks.length ∧ ks.length ≤ 7) && ordFrom none (pairsOf ks vs)
/-- Check's answer. -/
def nodeE (b : Bool) : Value := if b then .nilIface else codeV 70

set_option maxRecDepth 20000 in
set_option maxHeartbeats 2000000 in
theorem ncheck_any (lv : Int) (a a' : Option Addr) (n m c c' : Nat) (ks vs : List Int) (w : World) (hk : IS w w.heap.size a n ks) (hv : IS w w.heap.size a' m vs) :
    Calls Try.prog 18 #[.agg #[.int .i64 lv, .slice a n c, .slice a' m c']] w fun e w' => e = .returned (nodeE (rightN lv ks vs)) ∧ Below w.heap.size w w' := by
  have HKS := mkHid hk
  have HVS := mkHid hv
  have HLK := mkHid hk.len
  have HLV := mkHid hv.len
  clear hk hv
  by_cases h1 : lv < 0
  · have HV := mkHid (show rightN lv ks vs = false by unfold rightN; rw [decide_eq_false (by rw [HLK.out, HLV.out]; omega)]; rfl)
    go_enter Try.func18, Try.ntmps18
    go_wp2_with fail
    go_ret
    exact ⟨by rw [HV.out]; rfl, (Below.refl _ _).alloc (Nat.le_refl _) _⟩
  by_cases h2 : 20 < lv
  · have HV := mkHid (show rightN lv ks vs = false by unfold rightN; rw [decide_eq_false (by rw [HLK.out, HLV.out]; omega)]; rfl)
    go_enter Try.func18, Try.ntmps18
    go_wp2_with fail
    go_ret
    exact ⟨by rw [HV.out]; rfl, (Below.refl _ _).alloc (Nat.le_refl _) _⟩
  by_cases h3 : ¬ n = m
  · have HV := mkHid (show rightN lv ks vs = false by unfold rightN; rw [decide_eq_false (by rw [HLK.out, HLV.out]; omega)]; rfl)
    go_enter Try.func18, Try.ntmps18
    go_wp2_with fail
    go_ret
    exact ⟨by rw [HV.out]; rfl, (Below.refl _ _).alloc (Nat.le_refl _) _⟩
  by_cases h4 : n < 1
  · have HV := mkHid (show rightN lv ks vs = false by unfold rightN; rw [decide_eq_false (by rw [HLK.out, HLV.out]; omega)]; rfl)
    go_enter Try.func18, Try.ntmps18
    go_wp2_with fail
    go_ret
    exact ⟨by rw [HV.out]; rfl, (Below.refl _ _).alloc (Nat.le_refl _) _⟩
  by_cases h5 : 7 < n
  · have HV := mkHid (show rightN lv ks vs = false by unfold rightN; rw [decide_eq_false (by rw [HLK.out, HLV.out]; omega)]; rfl)
    go_enter Try.func18, Try.ntmps18
    go_wp2_with fail
    go_ret
    exact ⟨by rw [HV.out]; rfl, (Below.refl _ _).alloc (Nat.le_refl _) _⟩
  obtain rfl : n = m := by omega
  have hg1 : 0 ≤ lv := by omega
  have hg2 : lv ≤ 20 := by omega
  have hg4 : 1 ≤ n := by omega
  have hg5 : n ≤ 7 := by omega
  have HV := mkHid (show rightN lv ks vs = ordFrom none (pairsOf ks vs) by unfold rightN; rw [decide_eq_true (by rw [HLK.out, HLV.out]; omega)]; rfl)
  have HLZ := mkHid (show (pairsOf ks vs).length = n by unfold pairsOf; rw [List.length_zip, HLK.out, HLV.out]; omega)
  have hal : Below w.heap.size w (w.alloc (.cells #[.int .i64 lv, .slice a n c, .slice a' n c'] 32)) := (Below.refl _ _).alloc (Nat.le_refl _) _
  have HAL := mkHid hal
  have HKW := mkHid ((HKS.out.below hal).more hal.size)
  have HVW := mkHid ((HVS.out.below hal).more hal.size)
  have hok : ∀ x ∈ pairsOf ks vs, EnOk x := fun x hx => ⟨HKS.out.2 _ (List.of_mem_zip hx).1, HVS.out.2 _ (List.of_mem_zip hx).2⟩
  have HOK := mkHid hok
  clear hal hok h1 h2 h3 h4 h5
  go_enter Try.func18, Try.ntmps18
  go_wp2_with fail
  refine (pairs_any lv a a' n c c' ks vs _ HKW.out HVW.out (by omega)).mono ?_
  rintro e w2 ⟨A, C, rfl, ho, hb⟩
  rw [HLZ.out] at ho ⊢
  have HES := mkHid (show ES w2 w2.heap.size A n (pairsOf ks vs) from ⟨SL.of_own ho, HOK.out⟩)
  have HB := mkHid (HAL.out.trans (hb.mono HAL.out.size))
  have hq := (hb.block w.heap.size (by simp)).trans (heap_alloc_new w (.cells #[.int .i64 lv, .slice a n c, .slice a' n c'] 32))
  clear ho hb hq
  go_wp2_with fail
  refine (ordered_any A n C _ w2 HES.out (by omega)).mono ?_
  rintro e w3 ⟨rfl, hbz⟩
  have HBZ := mkHid (HB.out.trans (hbz.mono HB.out.size))
  clear hbz
  rw [← HV.out]
  cases hr : rightN lv ks vs
  all_goals
    have HR := mkHid hr
    clear hr
    go_wp2_with fail
    go_ret
    exact ⟨by rw [HR.out]; rfl, HBZ.out⟩

end Go.Proofs.Ytilepjkdfbhgcaa
