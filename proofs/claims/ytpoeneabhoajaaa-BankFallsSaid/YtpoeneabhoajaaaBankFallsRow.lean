/- 'portagelaw04.BankFalls' answers true for every input that the form reads, and each argument reads behind the call as it read before. -/
import Derived.Test.YtpoeneabhoajaaaBankFalls
import Derived.Test.YtpoeneabhoajaaaRows
import Derived.Test.YtpoeneabhoajaaaOpen
import Derived.Test.YtpoeneabhoajaaaOpsB
namespace Go.Proofs.Ytpoeneabhoajaaa.BankFallsP
open Go.ChangeShapes Go.WideShapes Go.ChangeAt Go.RowKit Go.Joins

theorem own : ownKnob Try.prog.godebug = none := by kernel_rfl
theorem laidOut : laidOutB Try.prog = true := by kernel_rfl

set_option maxRecDepth 100000 in
theorem lifted (os : Os) (started : os.Started) (H : Type) (enc : TypeId × Value → H) :
    ReturnsInHanded {} Try.checked os 4 .any (Rows.bankFallsSpec.pre6 enc Try.prog Try.f4 Rows.bankFallsRow.domain false) (Rows.bankFallsSpec.post enc Try.prog Try.f4 false true false false) := by
  refine returnsInHanded_of_change_sized (C := Try.checked) own started (by kernel_rfl) Try.func4
    (ChangeSpec.witness6 (enc := enc) (C := Try.checked) false ⟨#[], #[.int .i64 0, .slice none 0 0], []⟩ 8 (by kernel_rfl) (by kernel_rfl) (by kernel_rfl) (by kernel_rfl)) ?_
  intro W base args ds gs before hval0 hW hcnd hsz0 _
  have hval : ∀ (j : Nat) t v, Try.f4.params[j]? = some t → args[j]? = some v → Value.okWide Try.prog W .any base t v := hval0
  have hW' := hW
  obtain ⟨p, q, hA0, hV, rfl, hfz, hnd⟩ := hW
  have hA : DataW.TrodAll enc Try.prog W 0 (fun _ => true) true Try.f4.params.toList args.toList ds p := hA0
  rw [Try.params4] at hA hval
  obtain ⟨v0, vs0, d0, ds0, p0, q0, hargs, rfl, rfl, h0, r0⟩ := trodAll_cons hA
  obtain ⟨v1, vs1, d1, ds1, p1, q1, rfl, rfl, rfl, h1, r1⟩ := trodAll_cons r0
  obtain ⟨rfl, rfl, rfl⟩ := trodAll_nil r1
  obtain rfl : args = #[v0, v1] := by cases args; simp_all
  obtain ⟨rfl, rfl⟩ := trodVars_none hV
  have hsz : (DataW.weightsEach Try.prog [3, 22] [d0, d1]).all (· ≤ reachBytes) = true := hsz0
  have k0 := h0
  have lt0 : ∀ x ∈ p0, x.block < W.heap.size := by obtain ⟨m, hm⟩ := k0; exact DataW.trod_lt m _ _ _ hm
  have z0 : ∀ q ∈ d0.weights Try.prog 3, q ≤ reachBytes := fun q hq => by have := List.all_eq_true.1 hsz q (DataW.weights_mem_each (j := 0) rfl rfl q hq); simpa using this
  have k1 := h1
  have lt1 : ∀ x ∈ p1, x.block < W.heap.size := by obtain ⟨m, hm⟩ := k1; exact DataW.trod_lt m _ _ _ hm
  have z1 : ∀ q ∈ d1.weights Try.prog 22, q ≤ reachBytes := fun q hq => by have := List.all_eq_true.1 hsz q (DataW.weights_mem_each (j := 1) rfl rfl q hq); simpa using this
  have cv0 : v0.cells.toList = [v0] := by obtain ⟨_, rfl⟩ := okWide_int Try.underlying3 (hval 0 3 v0 rfl rfl); rfl
  obtain ⟨fu0, g0⟩ := trod_cells h0 cv0
  obtain ⟨i0, rfl, hi0⟩ := fd_int g0 Try.underlying3
  have cv1 : v1.cells.toList = [v1] := by obtain ⟨_, _, _, rfl⟩ := okWide_slice Try.underlying22 (hval 1 22 v1 rfl rfl); rfl
  obtain ⟨fu1, g1⟩ := trod_cells h1 cv1
  obtain ⟨a1, n1, c1, l1, rfl, hn1, hc1, hb1⟩ := fd_ops (by_ := 80) g1 Try.underlying22 Try.underlying34 rfl rfl rfl rfl rfl rfl rfl rfl rfl rfl rfl rfl Try.underlying3 Try.underlying31 Try.underlying5 Try.underlying32 (by kernel_rfl) (by kernel_rfl) (by kernel_rfl) (by kernel_rfl) (by kernel_rfl) (by kernel_rfl) (by kernel_rfl) (by kernel_rfl) (by omega) z1
  clear hA0 hval0
  refine (bankFalls_any i0 a1 n1 c1 l1 W hi0 hb1 ⟨hn1, hc1⟩).mono fun e W' ⟨he, bel⟩ => ?_
  subst he
  exact ⟨_, rfl, _, _, _, [], _, [], hW', trodAll_mk1 (shut_bool Try.underlying4 _), (trodAll_cons_mk (Below.trod laidOut (by kernel_rfl) (of_decide_eq_true (by kernel_rfl)) k0 bel lt0) (trodAll_cons_mk (Below.trod laidOut (by kernel_rfl) (of_decide_eq_true (by kernel_rfl)) k1 bel lt1) trodAll_mk0)), rfl, bel.frame _, fun h => by cases h⟩

theorem over : Rows.bankFallsRow.holds Try.pinned (OpenSpec.ofChange Rows.bankFallsSpec) :=
  OpenClaim.holds_of_wide 4 Try.f4 rfl rfl rfl rfl rfl rfl rfl ⟨rfl, rfl, rfl, rfl, rfl⟩ rfl rfl rfl rfl rfl (by kernel_rfl) Try.func4 (by kernel_rfl)
    (of_decide_eq_true (by kernel_rfl)) (by unfold Func.isWrapper; first | (rw [if_pos (by decide +kernel)]; kernel_rfl) | (rw [if_neg (by decide +kernel)]; exact ⟨rfl, rfl⟩))
    (fun os started H enc _ => lifted os started H enc)

end Go.Proofs.Ytpoeneabhoajaaa.BankFallsP
namespace Go.Proofs.Ytpoeneabhoajaaa
theorem BankFalls_holds : Rows.BankFallsSaid := BankFallsP.over
end Go.Proofs.Ytpoeneabhoajaaa
