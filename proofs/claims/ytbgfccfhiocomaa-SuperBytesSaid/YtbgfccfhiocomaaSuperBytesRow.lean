/- 'portagelaw06.SuperBytes' answers true for every input that the form reads, and each argument reads behind the call as it read before. -/
import Derived.Test.YtbgfccfhiocomaaSuperBytes
import Derived.Test.YtbgfccfhiocomaaRows
import Derived.Test.YtbgfccfhiocomaaOpen
import Derived.Test.YtbgfccfhiocomaaOpenRows
namespace Go.Proofs.Ytbgfccfhiocomaa.SuperBytesP
open Go.ChangeShapes Go.WideShapes Go.ChangeAt Go.RowKit Go.Joins

theorem own : ownKnob Try.prog.godebug = none := by kernel_rfl
theorem laidOut : laidOutB Try.prog = true := by kernel_rfl

set_option maxRecDepth 100000 in
theorem lifted (os : Os) (started : os.Started) (H : Type) (enc : TypeId × Value → H) :
    ReturnsInHanded {} Try.checked os 3 .any (Rows.superBytesSpec.pre6 enc Try.prog Try.f3 Rows.superBytesRow.domain false) (Rows.superBytesSpec.post enc Try.prog Try.f3 false true false false) := by
  refine returnsInHanded_of_change_sized (C := Try.checked) own started (by kernel_rfl) Try.func3
    (ChangeSpec.witness6 (enc := enc) (C := Try.checked) false ⟨#[], #[.agg #[.int .i64 0, .int .i64 0, .slice none 0 0], .agg #[.int .i64 0, .int .i64 0, .slice none 0 0], .slice none 0 0], []⟩ 8 (by kernel_rfl) (by kernel_rfl) (by kernel_rfl) (by kernel_rfl)) ?_
  intro W base args ds gs before hval0 hW hcnd hsz0 _
  have hval : ∀ (j : Nat) t v, Try.f3.params[j]? = some t → args[j]? = some v → Value.okWide Try.prog W .any base t v := hval0
  have hW' := hW
  obtain ⟨p, q, hA0, hV, rfl, hfz, hnd⟩ := hW
  have hA : DataW.TrodAll enc Try.prog W 0 (fun _ => true) true Try.f3.params.toList args.toList ds p := hA0
  rw [Try.params3] at hA hval
  obtain ⟨v0, vs0, d0, ds0, p0, q0, hargs, rfl, rfl, h0, r0⟩ := trodAll_cons hA
  obtain ⟨v1, vs1, d1, ds1, p1, q1, rfl, rfl, rfl, h1, r1⟩ := trodAll_cons r0
  obtain ⟨v2, vs2, d2, ds2, p2, q2, rfl, rfl, rfl, h2, r2⟩ := trodAll_cons r1
  obtain ⟨rfl, rfl, rfl⟩ := trodAll_nil r2
  obtain rfl : args = #[v0, v1, v2] := by cases args; simp_all
  obtain ⟨rfl, rfl⟩ := trodVars_none hV
  have hsz : (DataW.weightsEach Try.prog [24, 24, 25] [d0, d1, d2]).all (· ≤ reachBytes) = true := hsz0
  have k0 := h0
  have lt0 : ∀ x ∈ p0, x.block < W.heap.size := by obtain ⟨m, hm⟩ := k0; exact DataW.trod_lt m _ _ _ hm
  have z0 : ∀ q ∈ d0.weights Try.prog 24, q ≤ reachBytes := fun q hq => by have := List.all_eq_true.1 hsz q (DataW.weights_mem_each (j := 0) rfl rfl q hq); simpa using this
  have k1 := h1
  have lt1 : ∀ x ∈ p1, x.block < W.heap.size := by obtain ⟨m, hm⟩ := k1; exact DataW.trod_lt m _ _ _ hm
  have z1 : ∀ q ∈ d1.weights Try.prog 24, q ≤ reachBytes := fun q hq => by have := List.all_eq_true.1 hsz q (DataW.weights_mem_each (j := 1) rfl rfl q hq); simpa using this
  have k2 := h2
  have lt2 : ∀ x ∈ p2, x.block < W.heap.size := by obtain ⟨m, hm⟩ := k2; exact DataW.trod_lt m _ _ _ hm
  have z2 : ∀ q ∈ d2.weights Try.prog 25, q ≤ reachBytes := fun q hq => by have := List.all_eq_true.1 hsz q (DataW.weights_mem_each (j := 2) rfl rfl q hq); simpa using this
  obtain ⟨v0_0, v0_1, v0_2, y0_0, y0_1, y0_2, fu0, rfl, hd0, hp0, g0_0, g0_1, g0_2⟩ := open_agg3 Try.underlying24 (by kernel_rfl) (by kernel_rfl) (hval 0 24 v0 rfl rfl) h0
  rw [hd0] at z0
  obtain ⟨i0_0, rfl, hi0_0⟩ := fd_int g0_0 Try.underlying3
  obtain ⟨i0_1, rfl, hi0_1⟩ := fd_int g0_1 Try.underlying3
  obtain ⟨a0_2, n0_2, c0_2, l0_2, rfl, hn0_2, hc0_2, hb0_2⟩ := fd_2is g0_2 Try.underlying22 Try.underlying77 rfl rfl rfl rfl Try.underlying3 (by kernel_rfl) (by kernel_rfl) (by kernel_rfl) (fun q hq => z0 q (weights_field (j := 2) Try.underlying24 rfl rfl hq))
  obtain ⟨v1_0, v1_1, v1_2, y1_0, y1_1, y1_2, fu1, rfl, hd1, hp1, g1_0, g1_1, g1_2⟩ := open_agg3 Try.underlying24 (by kernel_rfl) (by kernel_rfl) (hval 1 24 v1 rfl rfl) h1
  rw [hd1] at z1
  obtain ⟨i1_0, rfl, hi1_0⟩ := fd_int g1_0 Try.underlying3
  obtain ⟨i1_1, rfl, hi1_1⟩ := fd_int g1_1 Try.underlying3
  obtain ⟨a1_2, n1_2, c1_2, l1_2, rfl, hn1_2, hc1_2, hb1_2⟩ := fd_2is g1_2 Try.underlying22 Try.underlying77 rfl rfl rfl rfl Try.underlying3 (by kernel_rfl) (by kernel_rfl) (by kernel_rfl) (fun q hq => z1 q (weights_field (j := 2) Try.underlying24 rfl rfl hq))
  have cv2 : v2.cells.toList = [v2] := by obtain ⟨_, _, _, rfl⟩ := okWide_slice Try.underlying25 (hval 2 25 v2 rfl rfl); rfl
  obtain ⟨fu2, g2⟩ := trod_cells h2 cv2
  obtain ⟨a2, n2, c2, l2, rfl, hn2, hc2, hb2⟩ := fd_bytes g2 Try.underlying25 Try.underlying5 (by kernel_rfl) (by kernel_rfl) z2
  clear hA0 hval0
  refine (superBytes_any i0_0 i0_1 a0_2 n0_2 c0_2 l0_2 i1_0 i1_1 a1_2 n1_2 c1_2 l1_2 W hb0_2.pairs ⟨hn0_2, by unfold maxLen; omega, by omega⟩ hb1_2.pairs ⟨hn1_2, by unfold maxLen; omega, by omega⟩ a2 n2 c2 l2 hb2 ⟨hn2, by unfold maxLen; omega, by omega⟩).mono fun e W' ⟨he, bel⟩ => ?_
  subst he
  exact ⟨_, rfl, _, _, _, [], _, [], hW', trodAll_mk1 (shut_bool Try.underlying4 _), (trodAll_cons_mk (Below.trod laidOut (by kernel_rfl) (of_decide_eq_true (by kernel_rfl)) k0 bel lt0) (trodAll_cons_mk (Below.trod laidOut (by kernel_rfl) (of_decide_eq_true (by kernel_rfl)) k1 bel lt1) (trodAll_cons_mk (Below.trod laidOut (by kernel_rfl) (of_decide_eq_true (by kernel_rfl)) k2 bel lt2) trodAll_mk0))), rfl, bel.frame _, fun h => by cases h⟩

theorem over : Rows.superBytesRow.holds Try.pinned (OpenSpec.ofChange Rows.superBytesSpec) :=
  OpenClaim.holds_of_wide 3 Try.f3 rfl rfl rfl rfl rfl rfl rfl ⟨rfl, rfl, rfl, rfl, rfl⟩ rfl rfl rfl rfl rfl (by kernel_rfl) Try.func3 (by kernel_rfl)
    (of_decide_eq_true (by kernel_rfl)) (by unfold Func.isWrapper; first | (rw [if_pos (by decide +kernel)]; kernel_rfl) | (rw [if_neg (by decide +kernel)]; exact ⟨rfl, rfl⟩))
    (fun os started H enc _ => lifted os started H enc)

end Go.Proofs.Ytbgfccfhiocomaa.SuperBytesP
namespace Go.Proofs.Ytbgfccfhiocomaa
theorem SuperBytes_holds : Rows.SuperBytesSaid := SuperBytesP.over
end Go.Proofs.Ytbgfccfhiocomaa
