/- 'portagelaw01.FaultIs' answers true for every input that the form reads, and each argument reads behind the call as it read before; the row's listed variables are tied to the program's text. -/
import Derived.Test.YtolcajcihgfeeaaDoorFaultIs
import Derived.Test.YtolcajcihgfeeaaDoorLaidErr
import Derived.Test.YtolcajcihgfeeaaDoorRows
import Derived.Test.YtolcajcihgfeeaaDoorOpen
import Derived.Test.YtolcajcihgfeeaaDoorOpenRows
import Derived.Test.YtolcajcihgfeeaaDoorOpenLinks
import Derived.Test.YtolcajcihgfeeaaDoorCards
import Derived.Test.YtolcajcihgfeeaaDoorTie
import Derived.Handed
import Derived.SevenTiedAt
namespace Go.Proofs.YtolcajcihgfeeaaDoor.FaultIsP
open Go.ChangeShapes Go.WideShapes Go.ChangeAt Go.RowKit Go.Joins

theorem own : ownKnob Tryd.prog.godebug = none := by kernel_rfl
theorem laidOut : laidOutB Tryd.prog = true := by kernel_rfl

set_option maxRecDepth 100000 in
theorem lifted (os : Os) (started : os.Started) (H : Type) (enc : TypeId × Value → H) :
    ReturnsInHanded {} Tryd.checked os 3 .any (fun w args => (Rows.faultIsSpec.pre enc Tryd.prog Tryd.f3 [] false w args ∧ laidMetH Tryd.prog Rows.faultIsRow.laid w) ∧ sizedMet enc Tryd.prog Tryd.f3 (OpenSpec.ofChange Rows.faultIsSpec) false w args)
      (Rows.faultIsSpec.post enc Tryd.prog Tryd.f3 false true false false) := by
  refine returnsInHanded_of_change_and (C := Tryd.checked) (X := fun w _ => laidMetH Tryd.prog Rows.faultIsRow.laid w) (fun _ _ _ hh h => h.of_heap hh) own started (by kernel_rfl) Tryd.func3
    (ChangeSpec.witness_at (enc := enc) (C := Tryd.checked) (os := os) (X := fun w _ => laidMetH Tryd.prog Rows.faultIsRow.laid w) false (laidWorld os) #[.agg #[.slice none 0 0, .int .i64 0, .int .i64 0, .slice none 0 0]] 8 rfl (by kernel_rfl) (by kernel_rfl) (by kernel_rfl) (by kernel_rfl) (by kernel_rfl) (laidWorld_met os _)) ?_
  intro W base args ds gs before hval0 hW hcnd hsz0 hL _
  have hval : ∀ (j : Nat) t v, Tryd.f3.params[j]? = some t → args[j]? = some v → Value.okWide Tryd.prog W .any base t v := hval0
  have hW' := hW
  obtain ⟨p, q, hA0, hV, rfl, hfz, hnd⟩ := hW
  have hA : DataW.TrodAll enc Tryd.prog W 0 (fun _ => true) true Tryd.f3.params.toList args.toList ds p := hA0
  rw [Tryd.params3] at hA hval
  have hE := errT_of_laid hL (by simp [Rows.faultIsRow])
  obtain ⟨v0, vs0, d0, ds0, p0, q0, hargs, rfl, rfl, h0, r0⟩ := trodAll_cons hA
  obtain ⟨rfl, rfl, rfl⟩ := trodAll_nil r0
  obtain rfl : args = #[v0] := by cases args; simp_all
  obtain ⟨rfl, rfl⟩ := trodVars_none hV
  have hsz : (DataW.weightsEach Tryd.prog [25] [d0]).all (· ≤ reachBytes) = true := hsz0
  have k0 := h0
  have lt0 : ∀ x ∈ p0, x.block < W.heap.size := by obtain ⟨m, hm⟩ := k0; exact DataW.trod_lt m _ _ _ hm
  have z0 : ∀ q ∈ d0.weights Tryd.prog 25, q ≤ reachBytes := fun q hq => by have := List.all_eq_true.1 hsz q (DataW.weights_mem_each (j := 0) rfl rfl q hq); simpa using this
  obtain ⟨v0_0, v0_1, v0_2, v0_3, y0_0, y0_1, y0_2, y0_3, fu0, rfl, hd0, hp0, g0_0, g0_1, g0_2, g0_3⟩ := open_agg4 Tryd.underlying25 (by kernel_rfl) (by kernel_rfl) (hval 0 25 v0 rfl rfl) h0
  rw [hd0] at z0
  obtain ⟨a0_0, n0_0, c0_0, l0_0, rfl, hn0_0, hc0_0, hb0_0⟩ := fd_links g0_0 Tryd.underlying22 Tryd.underlying36 rfl rfl rfl rfl rfl rfl Tryd.underlying3 Tryd.underlying9 (by kernel_rfl) (by kernel_rfl) (by kernel_rfl) (by kernel_rfl) (fun q hq => z0 q (weights_field (j := 0) Tryd.underlying25 rfl rfl hq))
  obtain ⟨i0_1, rfl, hi0_1⟩ := fd_int g0_1 Tryd.underlying3
  obtain ⟨i0_2, rfl, hi0_2⟩ := fd_int g0_2 Tryd.underlying3
  obtain ⟨a0_3, n0_3, c0_3, l0_3, rfl, hn0_3, hc0_3, hb0_3⟩ := fd_ints g0_3 Tryd.underlying23 Tryd.underlying3 (by kernel_rfl) (by kernel_rfl) (fun q hq => z0 q (weights_field (j := 3) Tryd.underlying25 rfl rfl hq))
  clear hA0 hval0
  refine (faultIs_any a0_0 a0_3 n0_0 c0_0 n0_3 c0_3 l0_0 l0_3 i0_1 i0_2 W hE (links_of hb0_0) hb0_3).mono fun e W' ⟨he, bel⟩ => ?_
  subst he
  exact ⟨_, rfl, _, _, _, [], _, [], hW', trodAll_mk1 (shut_bool Tryd.underlying4 _), (trodAll_cons_mk (Below.trod laidOut (by kernel_rfl) (of_decide_eq_true (by kernel_rfl)) k0 bel lt0) trodAll_mk0), rfl, bel.frame _, fun h => by cases h⟩

theorem over : Rows.faultIsRow.holds Tryd.pinned (OpenSpec.ofChange Rows.faultIsSpec) :=
  OpenClaim.holds_of_wide 3 Tryd.f3 rfl rfl rfl rfl rfl rfl rfl ⟨rfl, rfl, rfl, rfl, rfl⟩ rfl rfl rfl rfl rfl (by kernel_rfl) Tryd.func3 (by kernel_rfl)
    (of_decide_eq_true (by kernel_rfl)) (by unfold Func.isWrapper; first | (rw [if_pos (by decide +kernel)]; kernel_rfl) | (rw [if_neg (by decide +kernel)]; exact ⟨rfl, rfl⟩))
    (fun os started H enc _ => lifted os started H enc)

theorem card : Rows.FaultIsCardSaid :=
  Claim7.holds_tied_plain_at .later [] Rows.faultIsCard.laidKinds true Rows.faultIsCard.stood.harness true
    over (fun _ h => by cases h) (by kernel_rfl) (fun _ h => by cases h) faultIs_row_tie rfl ⟨rfl, rfl⟩ (by kernel_rfl) rfl
    (fun f fn hf hfn => by
      obtain rfl : f = 3 := Option.some.inj ((show Tryd.prog.funcNamed "portage/portagelaw01.FaultIs" = some 3 by kernel_rfl).symm.trans hf) |>.symm
      obtain rfl : fn = Tryd.f3 := (Option.some.inj (Tryd.func3.symm.trans hfn)).symm
      exact ⟨by kernel_rfl, fun j t ht => by
        rw [Tryd.params3] at ht
        have h3 : t ∈ [25] := by
          obtain ⟨hj, rfl⟩ := Array.getElem?_eq_some_iff.1 ht
          exact Array.mem_toList_iff.2 (Array.getElem_mem hj)
        exact (List.all_eq_true.1 (show [25].all (fun t => Tryd.prog.wantsStandIn t == false) = true by kernel_rfl) t h3 |> beq_iff_eq.1)⟩)
    (by kernel_rfl)

end Go.Proofs.YtolcajcihgfeeaaDoor.FaultIsP
namespace Go.Proofs.YtolcajcihgfeeaaDoor
theorem FaultIs_holds : Rows.FaultIsCardSaid := FaultIsP.card
end Go.Proofs.YtolcajcihgfeeaaDoor
