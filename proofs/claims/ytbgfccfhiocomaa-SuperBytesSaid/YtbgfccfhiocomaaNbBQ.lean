/- Node.Bytes by contract. -/
import Derived.Test.YtbgfccfhiocomaaNbAQ
namespace Go.Proofs.Ytbgfccfhiocomaa
open Go.RowKit Go.Shelf



set_option maxRecDepth 20000 in
set_option maxHeartbeats 400000 in
theorem pLongL_own (g base : Nat) (A : Option Addr) (n C : Nat) (bs : List Int) (bad : Bool) (k m cn : Nat) (l : List Int) (fr : Nat × Nat) (w : World) (hp : PK w g base A n C bs bad) (hnum : w.heap[k]? = some (.cells (l.map i64v).toArray 3 fr)) (hl : l.length = m) (hI : ∀ x ∈ l, I64 x) (hsz : n + 8 * m ≤ 1000000000000) :
    Calls Try.prog 33 #[.pointer (some ⟨g, 0, none⟩), .slice (some ⟨k, 0, none⟩) m cn] w fun e w' => e = .returned (.pointer (some ⟨g, 0, none⟩)) ∧
      (∃ A' C', PK w' g base A' (n + 8 * m) C' (bs ++ packs 8 l) (bad || !l.all (fits 8)) ∧ PB base w w' g (Value.slice A n C).ownBlock (Value.slice A' (n + 8 * m) C').ownBlock) := by
  have HL := mkHid hp.len
  have HLL := mkHid hl
  have H := mkHid (put8_own g base A n C bs bad k m cn l fr w hp hnum hl hI hsz _ rfl)
  clear hp hnum hl hI
  go_enter Try.func33, Try.ntmps33
  go_wp2_with fail
  refine H.out.mono ?_
  rintro e w1 ⟨rfl, A', n', C', hp1, hb1⟩
  have hn' : n' = n + 8 * m := by have h1 := hp1.len; have h2 := HL.out; rw [List.length_append, packs_len, h2, HLL.out] at h1; omega
  subst hn'
  have HP := mkHid hp1
  have HB := mkHid hb1
  clear hp1 hb1
  go_wp2_with fail
  go_ret
  exact ⟨rfl, A', C', HP.out, HB.out⟩

theorem packs_two (s : Nat) (x y : Int) : packs s [x, y] = nb s x ++ nb s y := by simp [packs]



end Go.Proofs.Ytbgfccfhiocomaa
