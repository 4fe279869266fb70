/- 'portagelaw10.NodeFinds' answers true for every input that the form reads, and each argument reads behind the call as it read before. -/
import Derived.Test.YtilepjkdfbhgcaaNodeFinds
import Derived.Test.YtilepjkdfbhgcaaRows
import Derived.Test.YtilepjkdfbhgcaaOpen
namespace Go.Proofs.Ytilepjkdfbhgcaa.NodeFindsP
open Go.ChangeShapes Go.WideShapes Go.ChangeAt Go.RowKit Go.Joins

theorem own : ownKnob Try.prog.godebug = none := by kernel_rfl
theorem laidOut : laidOutB Try.prog = true := by kernel_rfl

set_option maxRecDepth 100000 in
theorem lifted (os : Os) (started : os.Started) (H : Type) (enc : TypeId × Value → H) :
    ReturnsInHanded {} Try.checked os 4 .any (Rows.nodeFindsSpec.pre6 enc Try.prog Try.f4 Rows.nodeFindsRow.domain false) (Rows.nodeFindsSpec.post enc Try.prog Try.f4 false true false false) := by
  refine returnsInHanded_of_change_sized (C := Try.checked) own started (by kernel_rfl) Try.func4
    (ChangeSpec.witness6 (enc := enc) (C := Try.checked) false ⟨#[], #[.agg #[.int .i64 0, .slice none 0 0, .slice none 0 0]], []⟩ 8 (by kernel_rfl) (by kernel_rfl) (by kernel_rfl) (by kernel_rfl)) ?_
  intro W base args ds gs before hval0 hW hcnd hsz0 _
  have hval : ∀ (j : Nat) t v, Try.f4.params[j]? = some t → args[j]? = some v → Value.okWide Try.prog W .any base t v := hval0
  have hW' := hW
  obtain ⟨p, q, hA0, hV, rfl, hfz, hnd⟩ := hW
  have hA : DataW.TrodAll enc Try.prog W 0 (fun _ => true) true Try.f4.params.toList args.toList ds p := hA0
  rw [Try.params4] at hA hval
  obtain ⟨v0, vs0, d0, ds0, p0, q0, hargs, rfl, rfl, h0, r0⟩ := trodAll_cons hA
  obtain ⟨rfl, rfl, rfl⟩ := trodAll_nil r0
  obtain rfl : args = #[v0] := by cases args; simp_all
  obtain ⟨rfl, rfl⟩ := trodVars_none hV
  have hsz : (DataW.weightsEach Try.prog [24] [d0]).all (· ≤ reachBytes) = true := hsz0
  have k0 := h0
  have lt0 : ∀ x ∈ p0, x.block < W.heap.size := by obtain ⟨m, hm⟩ := k0; exact DataW.trod_lt m _ _ _ hm
  have z0 : ∀ q ∈ d0.weights Try.prog 24, q ≤ reachBytes := fun q hq => by have := List.all_eq_true.1 hsz q (DataW.weights_mem_each (j := 0) rfl rfl q hq); simpa using this
  obtain ⟨v0_0, v0_1, v0_2, y0_0, y0_1, y0_2, fu0, rfl, hd0, hp0, g0_0, g0_1, g0_2⟩ := open_agg3 Try.underlying24 (by kernel_rfl) (by kernel_rfl) (hval 0 24 v0 rfl rfl) h0
  rw [hd0] at z0
  obtain ⟨i0_0, rfl, hi0_0⟩ := fd_int g0_0 Try.underlying3
  obtain ⟨a0_1, n0_1, c0_1, l0_1, rfl, hn0_1, hc0_1, hb0_1⟩ := fd_ints g0_1 Try.underlying22 Try.underlying3 (by kernel_rfl) (by kernel_rfl) (fun q hq => z0 q (weights_field (j := 1) Try.underlying24 rfl rfl hq))
  obtain ⟨a0_2, n0_2, c0_2, l0_2, rfl, hn0_2, hc0_2, hb0_2⟩ := fd_ints g0_2 Try.underlying22 Try.underlying3 (by kernel_rfl) (by kernel_rfl) (fun q hq => z0 q (weights_field (j := 2) Try.underlying24 rfl rfl hq))
  clear hA0 hval0
  refine (nodeFinds_any i0_0 a0_1 a0_2 n0_1 n0_2 c0_1 c0_2 l0_1 l0_2 W hb0_1 hb0_2).mono fun e W' ⟨he, bel⟩ => ?_
  subst he
  exact ⟨_, rfl, _, _, _, [], _, [], hW', trodAll_mk1 (shut_bool Try.underlying4 _), (trodAll_cons_mk (Below.trod laidOut (by kernel_rfl) (of_decide_eq_true (by kernel_rfl)) k0 bel lt0) trodAll_mk0), rfl, bel.frame _, fun h => by cases h⟩

theorem over : Rows.nodeFindsRow.holds Try.pinned (OpenSpec.ofChange Rows.nodeFindsSpec) :=
  OpenClaim.holds_of_wide 4 Try.f4 rfl rfl rfl rfl rfl rfl rfl ⟨rfl, rfl, rfl, rfl, rfl⟩ rfl rfl rfl rfl rfl (by kernel_rfl) Try.func4 (by kernel_rfl)
    (of_decide_eq_true (by kernel_rfl)) (by unfold Func.isWrapper; first | (rw [if_pos (by decide +kernel)]; kernel_rfl) | (rw [if_neg (by decide +kernel)]; exact ⟨rfl, rfl⟩))
    (fun os started H enc _ => lifted os started H enc)

end Go.Proofs.Ytilepjkdfbhgcaa.NodeFindsP
namespace Go.Proofs.Ytilepjkdfbhgcaa
theorem NodeFinds_holds : Rows.NodeFindsSaid := NodeFindsP.over
end Go.Proofs.Ytilepjkdfbhgcaa
