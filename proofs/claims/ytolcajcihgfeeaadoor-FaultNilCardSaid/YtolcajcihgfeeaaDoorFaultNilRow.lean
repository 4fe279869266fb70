/- 'portagelaw01.FaultNil' answers true for every input that the form reads, and each argument reads behind the call as it read before; the row's listed variables are tied to the program's text. -/
import Derived.Test.YtolcajcihgfeeaaDoorFaultNil
import Derived.Test.YtolcajcihgfeeaaDoorLaidTabs
import Derived.Test.YtolcajcihgfeeaaDoorRows
import Derived.Test.YtolcajcihgfeeaaDoorOpen
import Derived.Test.YtolcajcihgfeeaaDoorOpenRows
import Derived.Test.YtolcajcihgfeeaaDoorOpenLinks
import Derived.Test.YtolcajcihgfeeaaDoorCards
import Derived.Test.YtolcajcihgfeeaaDoorTie
import Derived.Handed
import Derived.SevenTiedAt
namespace Go.Proofs.YtolcajcihgfeeaaDoor.FaultNilP
open Go.ChangeShapes Go.WideShapes Go.ChangeAt Go.RowKit Go.Joins

theorem own : ownKnob Tryd.prog.godebug = none := by kernel_rfl
theorem laidOut : laidOutB Tryd.prog = true := by kernel_rfl

set_option maxRecDepth 100000 in
theorem lifted (os : Os) (started : os.Started) (H : Type) (enc : TypeId × Value → H) :
    ReturnsInHanded {} Tryd.checked os 8 .any (fun w args => (Rows.faultNilSpec.pre enc Tryd.prog Tryd.f8 [] false w args ∧ laidMetH Tryd.prog Rows.faultNilRow.laid w) ∧ sizedMet enc Tryd.prog Tryd.f8 (OpenSpec.ofChange Rows.faultNilSpec) false w args)
      (Rows.faultNilSpec.post enc Tryd.prog Tryd.f8 false true false false) := by
  refine returnsInHanded_of_change_and (C := Tryd.checked) (X := fun w _ => laidMetH Tryd.prog Rows.faultNilRow.laid w) (fun _ _ _ hh h => h.of_heap hh) own started (by kernel_rfl) Tryd.func8
    (ChangeSpec.witness_at (enc := enc) (C := Tryd.checked) (os := os) (X := fun w _ => laidMetH Tryd.prog Rows.faultNilRow.laid w) false (laidWorld4 os) #[.agg #[.string ⟨#[]⟩, .int .i64 0, .int .i64 0, .int .i64 0]] 8 rfl (by kernel_rfl) (by kernel_rfl) (by kernel_rfl) (by kernel_rfl) (by kernel_rfl) (laidWorld4_met os _)) ?_
  intro W base args ds gs before hval0 hW hcnd hsz0 hL _
  have hval : ∀ (j : Nat) t v, Tryd.f8.params[j]? = some t → args[j]? = some v → Value.okWide Tryd.prog W .any base t v := hval0
  have hW' := hW
  obtain ⟨p, q, hA0, hV, rfl, hfz, hnd⟩ := hW
  have hA : DataW.TrodAll enc Tryd.prog W 0 (fun _ => true) true Tryd.f8.params.toList args.toList ds p := hA0
  rw [Tryd.params8] at hA hval
  have hE := errT_of_laid hL (by simp [Rows.faultNilRow])
  have hP := powT_of_laid hL (by kernel_rfl)
  obtain ⟨v0, vs0, d0, ds0, p0, q0, hargs, rfl, rfl, h0, r0⟩ := trodAll_cons hA
  obtain ⟨rfl, rfl, rfl⟩ := trodAll_nil r0
  obtain rfl : args = #[v0] := by cases args; simp_all
  obtain ⟨rfl, rfl⟩ := trodVars_none hV
  have hsz : (DataW.weightsEach Tryd.prog [56] [d0]).all (· ≤ reachBytes) = true := hsz0
  have k0 := h0
  have lt0 : ∀ x ∈ p0, x.block < W.heap.size := by obtain ⟨m, hm⟩ := k0; exact DataW.trod_lt m _ _ _ hm
  have z0 : ∀ q ∈ d0.weights Tryd.prog 56, q ≤ reachBytes := fun q hq => by have := List.all_eq_true.1 hsz q (DataW.weights_mem_each (j := 0) rfl rfl q hq); simpa using this
  obtain ⟨x0, c0, rfl, hx0, hy0, hc0⟩ := open_alone Tryd.underlying56 Tryd.underlying36 rfl rfl rfl rfl rfl rfl rfl rfl rfl rfl Tryd.underlying3 Tryd.underlying9 (by kernel_rfl) (by kernel_rfl) (by kernel_rfl) (by kernel_rfl) (hval 0 56 v0 rfl rfl) h0
  clear hA0 hval0
  refine (faultNil_any x0.op x0.dev x0.place c0 W hE hP hx0 hy0 hc0).mono fun e W' ⟨he, bel⟩ => ?_
  subst he
  exact ⟨_, rfl, _, _, _, [], _, [], hW', trodAll_mk1 (shut_bool Tryd.underlying4 _), (trodAll_cons_mk (Below.trod laidOut (by kernel_rfl) (of_decide_eq_true (by kernel_rfl)) k0 bel lt0) trodAll_mk0), rfl, bel.frame _, fun h => by cases h⟩

theorem over : Rows.faultNilRow.holds Tryd.pinned (OpenSpec.ofChange Rows.faultNilSpec) :=
  OpenClaim.holds_of_wide 8 Tryd.f8 rfl rfl rfl rfl rfl rfl rfl ⟨rfl, rfl, rfl, rfl, rfl⟩ rfl rfl rfl rfl rfl (by kernel_rfl) Tryd.func8 (by kernel_rfl)
    (of_decide_eq_true (by kernel_rfl)) (by unfold Func.isWrapper; first | (rw [if_pos (by decide +kernel)]; kernel_rfl) | (rw [if_neg (by decide +kernel)]; exact ⟨rfl, rfl⟩))
    (fun os started H enc _ => lifted os started H enc)

theorem card : Rows.FaultNilCardSaid :=
  Claim7.holds_tied_plain_at .later [] Rows.faultNilCard.laidKinds true Rows.faultNilCard.stood.harness true
    over (fun _ h => by cases h) (by kernel_rfl) (fun _ h => by cases h) faultNil_row_tie rfl ⟨rfl, rfl⟩ (by kernel_rfl) rfl
    (fun f fn hf hfn => by
      obtain rfl : f = 8 := Option.some.inj ((show Tryd.prog.funcNamed "portage/portagelaw01.FaultNil" = some 8 by kernel_rfl).symm.trans hf) |>.symm
      obtain rfl : fn = Tryd.f8 := (Option.some.inj (Tryd.func8.symm.trans hfn)).symm
      exact ⟨by kernel_rfl, fun j t ht => by
        rw [Tryd.params8] at ht
        have h3 : t ∈ [56] := by
          obtain ⟨hj, rfl⟩ := Array.getElem?_eq_some_iff.1 ht
          exact Array.mem_toList_iff.2 (Array.getElem_mem hj)
        exact (List.all_eq_true.1 (show [56].all (fun t => Tryd.prog.wantsStandIn t == false) = true by kernel_rfl) t h3 |> beq_iff_eq.1)⟩)
    (by kernel_rfl)

end Go.Proofs.YtolcajcihgfeeaaDoor.FaultNilP
namespace Go.Proofs.YtolcajcihgfeeaaDoor
theorem FaultNil_holds : Rows.FaultNilCardSaid := FaultNilP.card
end Go.Proofs.YtolcajcihgfeeaaDoor
