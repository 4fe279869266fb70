/- The law's own 'is' on whatever error, portageref05's Add, Grow, Turn by contract. -/
import Derived.IntWalk
import Derived.Test.YtbgfccfhiocomaaRosIR
namespace Go.Proofs.Ytbgfccfhiocomaa
open Go.RowKit Go.Shelf


/-- A list and a number are answered; what was there is as it was. -/
def RetL (w : World) (r : Int × List (Int × Int)) (e : Ending) (w' : World) : Prop :=
  ∃ A C, e = .returned (.tuple #[.slice A r.2.length C, .int .i64 r.1]) ∧ ES w' w'.heap.size A r.2.length r.2 ∧ CapOk r.2.length C ∧ Below w.heap.size w w'
theorem RetL.no {w w' : World} {c : Int} (h : Below w.heap.size w w') : RetL w (c, []) (.returned (.tuple #[.slice none 0 0, .int .i64 c])) w' :=
  ⟨none, 0, rfl, ES.nil, ⟨by simp, by unfold maxLen; omega, by simp⟩, h⟩





end Go.Proofs.Ytbgfccfhiocomaa
