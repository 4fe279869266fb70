/- Rosters by contract: with for whatever change, turn, Grow, Cancel, Remove. -/
import Derived.Test.YtbgfccfhiocomaaRosAR
import Derived.Deep.RegionLaw
import Derived.Deep.RegionHeld3
namespace Go.Proofs.Ytbgfccfhiocomaa
open Go.RowKit Go.Shelf

/-- A roster and an error are answered; what was there is as it was. -/
def RetR (w : World) (r : Int × List (Int × Int)) (e : Ending) (w' : World) : Prop :=
  ∃ A c, e = .returned (.tuple #[.agg #[.slice A r.2.length c], errV r.1]) ∧ ES w' w'.heap.size A r.2.length r.2 ∧ CapOk r.2.length c ∧ Below w.heap.size w w'
theorem RetR.no {w w' : World} {c : Int} (h : Below w.heap.size w w') : RetR w (c, []) (.returned (.tuple #[.agg #[.slice none 0 0], errV c])) w' :=
  ⟨none, 0, rfl, ES.nil, ⟨by simp, by unfold maxLen; omega, by simp⟩, h⟩










end Go.Proofs.Ytbgfccfhiocomaa
