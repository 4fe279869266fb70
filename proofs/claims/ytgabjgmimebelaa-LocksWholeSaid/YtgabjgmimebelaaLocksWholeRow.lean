/- 'portagelaw15.LocksWhole' answers true for every input that the form reads, and each argument reads behind the call as it read before. -/
import Derived.Test.YtgabjgmimebelaaLocksWhole
import Derived.Test.YtgabjgmimebelaaRows
import Derived.Test.YtgabjgmimebelaaOpen
namespace Go.Proofs.Ytgabjgmimebelaa.LocksWholeP
open Go.ChangeShapes Go.WideShapes Go.ChangeAt Go.RowKit Go.Joins

theorem own : ownKnob Try.prog.godebug = none := by kernel_rfl
theorem laidOut : laidOutB Try.prog = true := by kernel_rfl

set_option maxRecDepth 100000 in
theorem lifted (os : Os) (started : os.Started) (H : Type) (enc : TypeId × Value → H) :
    ReturnsInHanded {} Try.checked os 5 .any (Rows.locksWholeSpec.pre6 enc Try.prog Try.f5 Rows.locksWholeRow.domain false) (Rows.locksWholeSpec.post enc Try.prog Try.f5 false true false false) := by
  refine returnsInHanded_of_change_sized (C := Try.checked) own started (by kernel_rfl) Try.func5
    (ChangeSpec.witness6 (enc := enc) (C := Try.checked) false ⟨#[], #[.agg #[.int .i64 0, .int .i64 0, .int .i64 0, .bool false], .agg #[.int .i64 0, .int .i64 0, .int .i64 0, .bool false]], []⟩ 8 (by kernel_rfl) (by kernel_rfl) (by kernel_rfl) (by kernel_rfl)) ?_
  intro W base args ds gs before hval0 hW hcnd hsz0 _
  have hval : ∀ (j : Nat) t v, Try.f5.params[j]? = some t → args[j]? = some v → Value.okWide Try.prog W .any base t v := hval0
  have hW' := hW
  obtain ⟨p, q, hA0, hV, rfl, hfz, hnd⟩ := hW
  have hA : DataW.TrodAll enc Try.prog W 0 (fun _ => true) true Try.f5.params.toList args.toList ds p := hA0
  rw [Try.params5] at hA hval
  obtain ⟨v0, vs0, d0, ds0, p0, q0, hargs, rfl, rfl, h0, r0⟩ := trodAll_cons hA
  obtain ⟨v1, vs1, d1, ds1, p1, q1, rfl, rfl, rfl, h1, r1⟩ := trodAll_cons r0
  obtain ⟨rfl, rfl, rfl⟩ := trodAll_nil r1
  obtain rfl : args = #[v0, v1] := by cases args; simp_all
  obtain ⟨rfl, rfl⟩ := trodVars_none hV
  have hsz : (DataW.weightsEach Try.prog [23, 23] [d0, d1]).all (· ≤ reachBytes) = true := hsz0
  have k0 := h0
  have lt0 : ∀ x ∈ p0, x.block < W.heap.size := by obtain ⟨m, hm⟩ := k0; exact DataW.trod_lt m _ _ _ hm
  have z0 : ∀ q ∈ d0.weights Try.prog 23, q ≤ reachBytes := fun q hq => by have := List.all_eq_true.1 hsz q (DataW.weights_mem_each (j := 0) rfl rfl q hq); simpa using this
  have k1 := h1
  have lt1 : ∀ x ∈ p1, x.block < W.heap.size := by obtain ⟨m, hm⟩ := k1; exact DataW.trod_lt m _ _ _ hm
  have z1 : ∀ q ∈ d1.weights Try.prog 23, q ≤ reachBytes := fun q hq => by have := List.all_eq_true.1 hsz q (DataW.weights_mem_each (j := 1) rfl rfl q hq); simpa using this
  obtain ⟨v0_0, v0_1, v0_2, v0_3, y0_0, y0_1, y0_2, y0_3, fu0, rfl, hd0, hp0, g0_0, g0_1, g0_2, g0_3⟩ := open_agg4 Try.underlying23 (by kernel_rfl) (by kernel_rfl) (hval 0 23 v0 rfl rfl) h0
  rw [hd0] at z0
  obtain ⟨i0_0, rfl, hi0_0⟩ := fd_int g0_0 Try.underlying3
  obtain ⟨i0_1, rfl, hi0_1⟩ := fd_int g0_1 Try.underlying3
  obtain ⟨i0_2, rfl, hi0_2⟩ := fd_int g0_2 Try.underlying3
  obtain ⟨b0_3, rfl⟩ := fd_bool g0_3 Try.underlying4
  obtain ⟨v1_0, v1_1, v1_2, v1_3, y1_0, y1_1, y1_2, y1_3, fu1, rfl, hd1, hp1, g1_0, g1_1, g1_2, g1_3⟩ := open_agg4 Try.underlying23 (by kernel_rfl) (by kernel_rfl) (hval 1 23 v1 rfl rfl) h1
  rw [hd1] at z1
  obtain ⟨i1_0, rfl, hi1_0⟩ := fd_int g1_0 Try.underlying3
  obtain ⟨i1_1, rfl, hi1_1⟩ := fd_int g1_1 Try.underlying3
  obtain ⟨i1_2, rfl, hi1_2⟩ := fd_int g1_2 Try.underlying3
  obtain ⟨b1_3, rfl⟩ := fd_bool g1_3 Try.underlying4
  clear hA0 hval0
  refine (locksWhole_any ⟨i0_0, i0_1, i0_2, b0_3⟩ ⟨i1_0, i1_1, i1_2, b1_3⟩ W ⟨hi0_0, hi0_1, hi0_2⟩ ⟨hi1_0, hi1_1, hi1_2⟩).mono fun e W' ⟨he, bel⟩ => ?_
  subst he
  exact ⟨_, rfl, _, _, _, [], _, [], hW', trodAll_mk1 (shut_bool Try.underlying4 _), (trodAll_cons_mk (Below.trod laidOut (by kernel_rfl) (of_decide_eq_true (by kernel_rfl)) k0 bel lt0) (trodAll_cons_mk (Below.trod laidOut (by kernel_rfl) (of_decide_eq_true (by kernel_rfl)) k1 bel lt1) trodAll_mk0)), rfl, bel.frame _, fun h => by cases h⟩

theorem over : Rows.locksWholeRow.holds Try.pinned (OpenSpec.ofChange Rows.locksWholeSpec) :=
  OpenClaim.holds_of_wide 5 Try.f5 rfl rfl rfl rfl rfl rfl rfl ⟨rfl, rfl, rfl, rfl, rfl⟩ rfl rfl rfl rfl rfl (by kernel_rfl) Try.func5 (by kernel_rfl)
    (of_decide_eq_true (by kernel_rfl)) (by unfold Func.isWrapper; first | (rw [if_pos (by decide +kernel)]; kernel_rfl) | (rw [if_neg (by decide +kernel)]; exact ⟨rfl, rfl⟩))
    (fun os started H enc _ => lifted os started H enc)

end Go.Proofs.Ytgabjgmimebelaa.LocksWholeP
namespace Go.Proofs.Ytgabjgmimebelaa
theorem LocksWhole_holds : Rows.LocksWholeSaid := LocksWholeP.over
end Go.Proofs.Ytgabjgmimebelaa
