/- 'portagelaw01.FaultFields' answers true for every input that the form reads, and each argument reads behind the call as it read before; the row's listed variables are tied to the program's text. -/
import Derived.Test.YtolcajcihgfeeaaDoorFaultFields
import Derived.Test.YtolcajcihgfeeaaDoorLaidTabs
import Derived.Test.YtolcajcihgfeeaaDoorRows
import Derived.Test.YtolcajcihgfeeaaDoorOpen
import Derived.Test.YtolcajcihgfeeaaDoorOpenRows
import Derived.Test.YtolcajcihgfeeaaDoorOpenLinks
import Derived.Test.YtolcajcihgfeeaaDoorCards
import Derived.Test.YtolcajcihgfeeaaDoorTie
import Derived.Handed
import Derived.SevenTiedAt
namespace Go.Proofs.YtolcajcihgfeeaaDoor.FaultFieldsP
open Go.ChangeShapes Go.WideShapes Go.ChangeAt Go.RowKit Go.Joins

theorem own : ownKnob Tryd.prog.godebug = none := by kernel_rfl
theorem laidOut : laidOutB Tryd.prog = true := by kernel_rfl

set_option maxRecDepth 100000 in
theorem lifted (os : Os) (started : os.Started) (H : Type) (enc : TypeId × Value → H) :
    ReturnsInHanded {} Tryd.checked os 7 .any (fun w args => (Rows.faultFieldsSpec.pre enc Tryd.prog Tryd.f7 [] false w args ∧ laidMetH Tryd.prog Rows.faultFieldsRow.laid w) ∧ sizedMet enc Tryd.prog Tryd.f7 (OpenSpec.ofChange Rows.faultFieldsSpec) false w args)
      (Rows.faultFieldsSpec.post enc Tryd.prog Tryd.f7 false true false false) := by
  refine returnsInHanded_of_change_and (C := Tryd.checked) (X := fun w _ => laidMetH Tryd.prog Rows.faultFieldsRow.laid w) (fun _ _ _ hh h => h.of_heap hh) own started (by kernel_rfl) Tryd.func7
    (ChangeSpec.witness_at (enc := enc) (C := Tryd.checked) (os := os) (X := fun w _ => laidMetH Tryd.prog Rows.faultFieldsRow.laid w) false (laidWorld4 os) #[.slice none 0 0, .int .i64 0, .agg #[.string ⟨#[]⟩, .int .i64 0, .int .i64 0]] 8 rfl (by kernel_rfl) (by kernel_rfl) (by kernel_rfl) (by kernel_rfl) (by kernel_rfl) (laidWorld4_met os _)) ?_
  intro W base args ds gs before hval0 hW hcnd hsz0 hL _
  have hval : ∀ (j : Nat) t v, Tryd.f7.params[j]? = some t → args[j]? = some v → Value.okWide Tryd.prog W .any base t v := hval0
  have hW' := hW
  obtain ⟨p, q, hA0, hV, rfl, hfz, hnd⟩ := hW
  have hA : DataW.TrodAll enc Tryd.prog W 0 (fun _ => true) true Tryd.f7.params.toList args.toList ds p := hA0
  rw [Tryd.params7] at hA hval
  have hE := errT_of_laid hL (by simp [Rows.faultFieldsRow])
  have hP := powT_of_laid hL (by kernel_rfl)
  obtain ⟨v0, vs0, d0, ds0, p0, q0, hargs, rfl, rfl, h0, r0⟩ := trodAll_cons hA
  obtain ⟨v1, vs1, d1, ds1, p1, q1, rfl, rfl, rfl, h1, r1⟩ := trodAll_cons r0
  obtain ⟨v2, vs2, d2, ds2, p2, q2, rfl, rfl, rfl, h2, r2⟩ := trodAll_cons r1
  obtain ⟨rfl, rfl, rfl⟩ := trodAll_nil r2
  obtain rfl : args = #[v0, v1, v2] := by cases args; simp_all
  obtain ⟨rfl, rfl⟩ := trodVars_none hV
  have hsz : (DataW.weightsEach Tryd.prog [22, 3, 36] [d0, d1, d2]).all (· ≤ reachBytes) = true := hsz0
  have k0 := h0
  have lt0 : ∀ x ∈ p0, x.block < W.heap.size := by obtain ⟨m, hm⟩ := k0; exact DataW.trod_lt m _ _ _ hm
  have z0 : ∀ q ∈ d0.weights Tryd.prog 22, q ≤ reachBytes := fun q hq => by have := List.all_eq_true.1 hsz q (DataW.weights_mem_each (j := 0) rfl rfl q hq); simpa using this
  have k1 := h1
  have lt1 : ∀ x ∈ p1, x.block < W.heap.size := by obtain ⟨m, hm⟩ := k1; exact DataW.trod_lt m _ _ _ hm
  have z1 : ∀ q ∈ d1.weights Tryd.prog 3, q ≤ reachBytes := fun q hq => by have := List.all_eq_true.1 hsz q (DataW.weights_mem_each (j := 1) rfl rfl q hq); simpa using this
  have k2 := h2
  have lt2 : ∀ x ∈ p2, x.block < W.heap.size := by obtain ⟨m, hm⟩ := k2; exact DataW.trod_lt m _ _ _ hm
  have z2 : ∀ q ∈ d2.weights Tryd.prog 36, q ≤ reachBytes := fun q hq => by have := List.all_eq_true.1 hsz q (DataW.weights_mem_each (j := 2) rfl rfl q hq); simpa using this
  have cv0 : v0.cells.toList = [v0] := by obtain ⟨_, _, _, rfl⟩ := okWide_slice Tryd.underlying22 (hval 0 22 v0 rfl rfl); rfl
  obtain ⟨fu0, g0⟩ := trod_cells h0 cv0
  obtain ⟨a0, n0, c0, l0, rfl, hn0, hc0, hb0⟩ := fd_links g0 Tryd.underlying22 Tryd.underlying36 rfl rfl rfl rfl rfl rfl Tryd.underlying3 Tryd.underlying9 (by kernel_rfl) (by kernel_rfl) (by kernel_rfl) (by kernel_rfl) z0
  have cv1 : v1.cells.toList = [v1] := by obtain ⟨_, rfl⟩ := okWide_int Tryd.underlying3 (hval 1 3 v1 rfl rfl); rfl
  obtain ⟨fu1, g1⟩ := trod_cells h1 cv1
  obtain ⟨i1, rfl, hi1⟩ := fd_int g1 Tryd.underlying3
  obtain ⟨v2_0, v2_1, v2_2, y2_0, y2_1, y2_2, fu2, rfl, hd2, hp2, g2_0, g2_1, g2_2⟩ := open_agg3 Tryd.underlying36 (by kernel_rfl) (by kernel_rfl) (hval 2 36 v2 rfl rfl) h2
  rw [hd2] at z2
  obtain ⟨s2_0, rfl, hs2_0⟩ := fd_str g2_0 Tryd.underlying9
  obtain ⟨i2_1, rfl, hi2_1⟩ := fd_int g2_1 Tryd.underlying3
  obtain ⟨i2_2, rfl, hi2_2⟩ := fd_int g2_2 Tryd.underlying3
  clear hA0 hval0
  refine (faultFields_any a0 n0 c0 l0 i1 s2_0 i2_1 i2_2 W hE hP (links_of hb0) hi2_1 hi2_2).mono fun e W' ⟨he, bel⟩ => ?_
  subst he
  exact ⟨_, rfl, _, _, _, [], _, [], hW', trodAll_mk1 (shut_bool Tryd.underlying4 _), (trodAll_cons_mk (Below.trod laidOut (by kernel_rfl) (of_decide_eq_true (by kernel_rfl)) k0 bel lt0) (trodAll_cons_mk (Below.trod laidOut (by kernel_rfl) (of_decide_eq_true (by kernel_rfl)) k1 bel lt1) (trodAll_cons_mk (Below.trod laidOut (by kernel_rfl) (of_decide_eq_true (by kernel_rfl)) k2 bel lt2) trodAll_mk0))), rfl, bel.frame _, fun h => by cases h⟩

theorem over : Rows.faultFieldsRow.holds Tryd.pinned (OpenSpec.ofChange Rows.faultFieldsSpec) :=
  OpenClaim.holds_of_wide 7 Tryd.f7 rfl rfl rfl rfl rfl rfl rfl ⟨rfl, rfl, rfl, rfl, rfl⟩ rfl rfl rfl rfl rfl (by kernel_rfl) Tryd.func7 (by kernel_rfl)
    (of_decide_eq_true (by kernel_rfl)) (by unfold Func.isWrapper; first | (rw [if_pos (by decide +kernel)]; kernel_rfl) | (rw [if_neg (by decide +kernel)]; exact ⟨rfl, rfl⟩))
    (fun os started H enc _ => lifted os started H enc)

theorem card : Rows.FaultFieldsCardSaid :=
  Claim7.holds_tied_plain_at .later [] Rows.faultFieldsCard.laidKinds true Rows.faultFieldsCard.stood.harness true
    over (fun _ h => by cases h) (by kernel_rfl) (fun _ h => by cases h) faultFields_row_tie rfl ⟨rfl, rfl⟩ (by kernel_rfl) rfl
    (fun f fn hf hfn => by
      obtain rfl : f = 7 := Option.some.inj ((show Tryd.prog.funcNamed "portage/portagelaw01.FaultFields" = some 7 by kernel_rfl).symm.trans hf) |>.symm
      obtain rfl : fn = Tryd.f7 := (Option.some.inj (Tryd.func7.symm.trans hfn)).symm
      exact ⟨by kernel_rfl, fun j t ht => by
        rw [Tryd.params7] at ht
        have h3 : t ∈ [22, 3, 36] := by
          obtain ⟨hj, rfl⟩ := Array.getElem?_eq_some_iff.1 ht
          exact Array.mem_toList_iff.2 (Array.getElem_mem hj)
        exact (List.all_eq_true.1 (show [22, 3, 36].all (fun t => Tryd.prog.wantsStandIn t == false) = true by kernel_rfl) t h3 |> beq_iff_eq.1)⟩)
    (by kernel_rfl)

end Go.Proofs.YtolcajcihgfeeaaDoor.FaultFieldsP
namespace Go.Proofs.YtolcajcihgfeeaaDoor
theorem FaultFields_holds : Rows.FaultFieldsCardSaid := FaultFieldsP.card
end Go.Proofs.YtolcajcihgfeeaaDoor
