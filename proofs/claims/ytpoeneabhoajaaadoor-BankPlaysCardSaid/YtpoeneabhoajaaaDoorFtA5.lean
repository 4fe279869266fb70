/- Chains of faults in memory; fault.Wrap, (*Fault).Unwrap and the law's chain by contract. -/
import Derived.Test.YtpoeneabhoajaaaDoorFtA4
import Derived.Test.YtpoeneabhoajaaaDoorMem
import Derived.Stop.Asserts
import Derived.RowKitTokens
namespace Go.Proofs.YtpoeneabhoajaaaDoor
open Go.RowKit Go.Extern.Stop Go.Stop Go.Extern


set_option maxHeartbeats 400000 in
theorem unwrap_any (g : Nat) (x : Lk) (u : Value) (w : World) (h : w.heap[g]? = some (faultO x u)) :
    Calls Tryd.prog 102 #[.pointer (some ⟨g, 0, none⟩)] w fun e w' => e = .returned u ∧ w = w' := by
  have h3 := cell_of_row w g 3 _ _ _ h
  have h3' : w.cell? ⟨g, 3, none⟩ = some u := h3
  clear h3 h
  go_enter Tryd.func102, Tryd.ntmps102
  go_wp2
  go_ret
  exact ⟨rfl, rfl⟩


end Go.Proofs.YtpoeneabhoajaaaDoor
