/- portagelaw10.NodeBack answers true. -/
import Derived.Test.YtilepjkdfbhgcaaNodeBackB
import Derived.Test.YtilepjkdfbhgcaaNodeBackC
namespace Go.Proofs.Ytilepjkdfbhgcaa
open Go.RowKit Go.Shelf

theorem nodeBack_any (lv : Int) (a a' : Option Addr) (n m c c' : Nat) (ks vs : List Int) (key val : Int) (w : World) (hk : IS w w.heap.size a n ks) (hv : IS w w.heap.size a' m vs) :
    Calls Try.prog 6 #[.agg #[.int .i64 lv, .slice a n c, .slice a' m c'], .int .i64 key, .int .i64 val] w fun e w' => e = .returned (.bool true) ∧ Below w.heap.size w w' := by
  by_cases h7 : (putL ks vs key val).length ≤ 7
  · exact nodeBack_one lv a a' n m c c' ks vs key val w hk hv h7
  · by_cases h8 : (putL ks vs key val).length = 8
    · by_cases hky : key < (insK ks key)[4]?.getD 0
      · exact nodeBack_lo lv a a' n m c c' ks vs key val w hk hv h8 hky
      · exact nodeBack_hi lv a a' n m c c' ks vs key val w hk hv h8 hky
    · exact nodeBack_bad lv a a' n m c c' ks vs key val w hk hv h7 h8

end Go.Proofs.Ytilepjkdfbhgcaa
