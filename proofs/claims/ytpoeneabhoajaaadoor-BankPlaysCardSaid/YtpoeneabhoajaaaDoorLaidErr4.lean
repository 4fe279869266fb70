/- What the row's condition on errors' own variable gives a walk, and a world that meets it. -/
import Derived.Test.YtpoeneabhoajaaaDoorRows
import Derived.Test.YtpoeneabhoajaaaDoorFtE4
import Derived.ChangeSame
import Derived.ChangeVars
import Derived.JoinedOf
import Derived.LaidLaws
import Derived.LaidHandle
import Derived.LaidSub
import Derived.Stop.Joined
namespace Go.Proofs.YtpoeneabhoajaaaDoor
open Go.ChangeShapes Go.WideShapes Go.RowKit

theorem lerr_et : Tryd.prog.globalNamed "errors.errorType" = some 0 := by kernel_rfl
theorem lerr_rt : (Tryd.prog.cutTypes.find? (·.1 == "internal/reflectlite.rtype")).map (·.2) = some 126 := by kernel_rfl
theorem lerr_row : ((List.range Tryd.prog.types.size).filter fun t => Tryd.prog.rowNamed t [101, 114, 114, 111, 114]) = [27] := by kernel_rfl

theorem errT_of_laid {W : World} {l : List (String × DataW Unit)} (h : laidMetH Tryd.prog l W) (hm : ("errors.errorType", (Rows.laid_errors_errorType : DataW Unit)) ∈ l) : ErrT W := by
  obtain ⟨name, u, ty, e1, e2, e3, e4, e5⟩ := (laidMetH_iff.1 h).2 _ (List.mem_filter.2 ⟨hm, rfl⟩)
  have en : name = [101, 114, 114, 111, 114] := (Option.some.inj e1).symm
  subst en
  obtain rfl := Option.some.inj (lerr_rt.symm.trans e2)
  have hm : ty ∈ (List.range Tryd.prog.types.size).filter fun t => Tryd.prog.rowNamed t [101, 114, 114, 111, 114] := List.mem_filter.2 ⟨List.mem_range.2 e3, e4⟩
  rw [lerr_row] at hm
  obtain rfl := List.mem_singleton.1 hm
  have hh : typeHandle Tryd.prog 27 = .pointer (some ⟨1, 27, none⟩) := by kernel_rfl
  rw [hh] at e5
  unfold ErrT
  simpa using World.var?_cell lerr_et e5 0

/-- A world that meets the condition: the settled one, the variable's cell laid. -/
noncomputable def laidWorld (os : Os) : World :=
  let w0 := World.holding Tryd.prog os ⟨#[], #[], []⟩
  { w0 with heap := w0.heap.modify 0 fun
      | .cells _ t frozen => .cells #[.iface 126 (.agg #[.pointer (some ⟨1, 27, none⟩)])] t frozen
      | o => o }
theorem laidWorld_met (os : Os) (args : Array Value) : laidMetH Tryd.prog [("errors.errorType", (Rows.laid_errors_errorType : DataW Unit))] ((laidWorld os).forCall (fun _ _ => 0) ⟨#[], args, []⟩).memory :=
  laidMetH_of_parts (laidMet_nil _ _) (by kernel_rfl)
end Go.Proofs.YtpoeneabhoajaaaDoor
