/- 'portagelaw04.BankPlays' answers true for every input that the form reads, and each argument reads behind the call as it read before; the row's listed variables are tied to the program's text. -/
import Derived.Test.YtpoeneabhoajaaaDoorBankPlays
import Derived.Test.YtpoeneabhoajaaaDoorLaidErr4
import Derived.Test.YtpoeneabhoajaaaDoorRows
import Derived.Test.YtpoeneabhoajaaaDoorOpen
import Derived.Test.YtpoeneabhoajaaaDoorOpenRows
import Derived.Test.YtpoeneabhoajaaaDoorOpsB
import Derived.Test.YtpoeneabhoajaaaDoorCards
import Derived.Test.YtpoeneabhoajaaaDoorTie
import Derived.Handed
import Derived.SevenTiedAt
namespace Go.Proofs.YtpoeneabhoajaaaDoor.BankPlaysP
open Go.ChangeShapes Go.WideShapes Go.ChangeAt Go.RowKit Go.Joins

theorem own : ownKnob Tryd.prog.godebug = none := by kernel_rfl
theorem laidOut : laidOutB Tryd.prog = true := by kernel_rfl

set_option maxRecDepth 100000 in
theorem lifted (os : Os) (started : os.Started) (H : Type) (enc : TypeId × Value → H) :
    ReturnsInHanded {} Tryd.checked os 4 .any (fun w args => (Rows.bankPlaysSpec.pre enc Tryd.prog Tryd.f4 [] false w args ∧ laidMetH Tryd.prog Rows.bankPlaysRow.laid w) ∧ sizedMet enc Tryd.prog Tryd.f4 (OpenSpec.ofChange Rows.bankPlaysSpec) false w args)
      (Rows.bankPlaysSpec.post enc Tryd.prog Tryd.f4 false true false false) := by
  refine returnsInHanded_of_change_and (C := Tryd.checked) (X := fun w _ => laidMetH Tryd.prog Rows.bankPlaysRow.laid w) (fun _ _ _ hh h => h.of_heap hh) own started (by kernel_rfl) Tryd.func4
    (ChangeSpec.witness_at (enc := enc) (C := Tryd.checked) (os := os) (X := fun w _ => laidMetH Tryd.prog Rows.bankPlaysRow.laid w) false (laidWorld os) #[.slice none 0 0] 8 rfl (by kernel_rfl) (by kernel_rfl) (by kernel_rfl) (by kernel_rfl) (by kernel_rfl) (laidWorld_met os _)) ?_
  intro W base args ds gs before hval0 hW hcnd hsz0 hL _
  have hval : ∀ (j : Nat) t v, Tryd.f4.params[j]? = some t → args[j]? = some v → Value.okWide Tryd.prog W .any base t v := hval0
  have hW' := hW
  obtain ⟨p, q, hA0, hV, rfl, hfz, hnd⟩ := hW
  have hA : DataW.TrodAll enc Tryd.prog W 0 (fun _ => true) true Tryd.f4.params.toList args.toList ds p := hA0
  rw [Tryd.params4] at hA hval
  have hE := errT_of_laid hL (by simp [Rows.bankPlaysRow])
  obtain ⟨v0, vs0, d0, ds0, p0, q0, hargs, rfl, rfl, h0, r0⟩ := trodAll_cons hA
  obtain ⟨rfl, rfl, rfl⟩ := trodAll_nil r0
  obtain rfl : args = #[v0] := by cases args; simp_all
  obtain ⟨rfl, rfl⟩ := trodVars_none hV
  have hsz : (DataW.weightsEach Tryd.prog [34] [d0]).all (· ≤ reachBytes) = true := hsz0
  have k0 := h0
  have lt0 : ∀ x ∈ p0, x.block < W.heap.size := by obtain ⟨m, hm⟩ := k0; exact DataW.trod_lt m _ _ _ hm
  have z0 : ∀ q ∈ d0.weights Tryd.prog 34, q ≤ reachBytes := fun q hq => by have := List.all_eq_true.1 hsz q (DataW.weights_mem_each (j := 0) rfl rfl q hq); simpa using this
  have cv0 : v0.cells.toList = [v0] := by obtain ⟨_, _, _, rfl⟩ := okWide_slice Tryd.underlying34 (hval 0 34 v0 rfl rfl); rfl
  obtain ⟨fu0, g0⟩ := trod_cells h0 cv0
  obtain ⟨a0, n0, c0, l0, rfl, hn0, hc0, hb0⟩ := fd_ops (by_ := 80) g0 Tryd.underlying34 Tryd.underlying39 rfl rfl rfl rfl rfl rfl rfl rfl rfl rfl rfl rfl Tryd.underlying3 Tryd.underlying37 Tryd.underlying5 Tryd.underlying22 (by kernel_rfl) (by kernel_rfl) (by kernel_rfl) (by kernel_rfl) (by kernel_rfl) (by kernel_rfl) (by kernel_rfl) (by kernel_rfl) (by omega) z0
  clear hA0 hval0
  refine (bankPlays_any a0 n0 c0 l0 W hE hb0 ⟨hn0, hc0⟩).mono fun e W' ⟨he, bel⟩ => ?_
  subst he
  exact ⟨_, rfl, _, _, _, [], _, [], hW', trodAll_mk1 (shut_bool Tryd.underlying4 _), (trodAll_cons_mk (Below.trod laidOut (by kernel_rfl) (of_decide_eq_true (by kernel_rfl)) k0 bel lt0) trodAll_mk0), rfl, bel.frame _, fun h => by cases h⟩

theorem over : Rows.bankPlaysRow.holds Tryd.pinned (OpenSpec.ofChange Rows.bankPlaysSpec) :=
  OpenClaim.holds_of_wide 4 Tryd.f4 rfl rfl rfl rfl rfl rfl rfl ⟨rfl, rfl, rfl, rfl, rfl⟩ rfl rfl rfl rfl rfl (by kernel_rfl) Tryd.func4 (by kernel_rfl)
    (of_decide_eq_true (by kernel_rfl)) (by unfold Func.isWrapper; first | (rw [if_pos (by decide +kernel)]; kernel_rfl) | (rw [if_neg (by decide +kernel)]; exact ⟨rfl, rfl⟩))
    (fun os started H enc _ => lifted os started H enc)

theorem card : Rows.BankPlaysCardSaid :=
  Claim7.holds_tied_plain_at .later [] Rows.bankPlaysCard.laidKinds true Rows.bankPlaysCard.stood.harness true
    over (fun _ h => by cases h) (by kernel_rfl) (fun _ h => by cases h) bankPlays_row_tie rfl ⟨rfl, rfl⟩ (by kernel_rfl) rfl
    (fun f fn hf hfn => by
      obtain rfl : f = 4 := Option.some.inj ((show Tryd.prog.funcNamed "portage/portagelaw04.BankPlays" = some 4 by kernel_rfl).symm.trans hf) |>.symm
      obtain rfl : fn = Tryd.f4 := (Option.some.inj (Tryd.func4.symm.trans hfn)).symm
      exact ⟨by kernel_rfl, fun j t ht => by
        rw [Tryd.params4] at ht
        have h3 : t ∈ [34] := by
          obtain ⟨hj, rfl⟩ := Array.getElem?_eq_some_iff.1 ht
          exact Array.mem_toList_iff.2 (Array.getElem_mem hj)
        exact (List.all_eq_true.1 (show [34].all (fun t => Tryd.prog.wantsStandIn t == false) = true by kernel_rfl) t h3 |> beq_iff_eq.1)⟩)
    (by kernel_rfl)

end Go.Proofs.YtpoeneabhoajaaaDoor.BankPlaysP
namespace Go.Proofs.YtpoeneabhoajaaaDoor
theorem BankPlays_holds : Rows.BankPlaysCardSaid := BankPlaysP.card
end Go.Proofs.YtpoeneabhoajaaaDoor
