/- frame.Packer's Byte, Short, Word and Long of one number by contract, with what they leave alone. -/
import Derived.Test.YtbgfccfhiocomaaPackerK8G
namespace Go.Proofs.Ytbgfccfhiocomaa
open Go.RowKit

set_option maxRecDepth 20000 in
set_option maxHeartbeats 400000 in
theorem pByte_own (g base : Nat) (A : Option Addr) (n C : Nat) (bs : List Int) (bad : Bool) (k cn : Nat) (x : Int) (fr : Nat × Nat) (w : World) (hp : PK w g base A n C bs bad) (hnum : w.heap[k]? = some (.cells #[.int .i64 x] 3 fr)) (hI : I64 x) (hsz : n ≤ 900000000000) :
    Calls Try.prog 71 #[.pointer (some ⟨g, 0, none⟩), .slice (some ⟨k, 0, none⟩) 1 cn] w fun e w' => e = .returned (.pointer (some ⟨g, 0, none⟩)) ∧
      (∃ A' C', PK w' g base A' (n + 1) C' (bs ++ nb 1 x) (bad || !fits 1 x) ∧ PB base w w' g (Value.slice A n C).ownBlock (Value.slice A' (n + 1) C').ownBlock) := by
  have HL := mkHid hp.len
  go_enter Try.func71, Try.ntmps71
  go_wp2_with fail
  refine (put1_own g base A n C bs bad k 1 cn [x] fr w hp hnum rfl (by intro y hy; obtain rfl := List.mem_singleton.1 hy; exact hI) (by omega) _ rfl).mono ?_
  rintro e w1 ⟨rfl, A', n', C', hp1, hb1⟩
  have hn' : n' = n + 1 := by have h1 := hp1.len; have h2 := HL.out; rw [List.length_append, packs_len, h2] at h1; simp at h1; omega
  subst hn'
  have e1 : bs ++ packs 1 [x] = bs ++ nb 1 x := by simp [packs]
  have e2 : (bad || !([x] : List Int).all (fits 1)) = (bad || !fits 1 x) := by simp
  rw [e1, e2] at hp1
  have HP := mkHid hp1
  have HB := mkHid hb1
  clear hp1 hb1 e1 e2
  go_wp2_with fail
  go_ret
  exact ⟨rfl, A', C', HP.out, HB.out⟩

set_option maxRecDepth 20000 in
set_option maxHeartbeats 400000 in
theorem pShort_own (g base : Nat) (A : Option Addr) (n C : Nat) (bs : List Int) (bad : Bool) (k cn : Nat) (x : Int) (fr : Nat × Nat) (w : World) (hp : PK w g base A n C bs bad) (hnum : w.heap[k]? = some (.cells #[.int .i64 x] 3 fr)) (hI : I64 x) (hsz : n ≤ 900000000000) :
    Calls Try.prog 72 #[.pointer (some ⟨g, 0, none⟩), .slice (some ⟨k, 0, none⟩) 1 cn] w fun e w' => e = .returned (.pointer (some ⟨g, 0, none⟩)) ∧
      (∃ A' C', PK w' g base A' (n + 2) C' (bs ++ nb 2 x) (bad || !fits 2 x) ∧ PB base w w' g (Value.slice A n C).ownBlock (Value.slice A' (n + 2) C').ownBlock) := by
  have HL := mkHid hp.len
  go_enter Try.func72, Try.ntmps72
  go_wp2_with fail
  refine (put2_own g base A n C bs bad k 1 cn [x] fr w hp hnum rfl (by intro y hy; obtain rfl := List.mem_singleton.1 hy; exact hI) (by omega) _ rfl).mono ?_
  rintro e w1 ⟨rfl, A', n', C', hp1, hb1⟩
  have hn' : n' = n + 2 := by have h1 := hp1.len; have h2 := HL.out; rw [List.length_append, packs_len, h2] at h1; simp at h1; omega
  subst hn'
  have e1 : bs ++ packs 2 [x] = bs ++ nb 2 x := by simp [packs]
  have e2 : (bad || !([x] : List Int).all (fits 2)) = (bad || !fits 2 x) := by simp
  rw [e1, e2] at hp1
  have HP := mkHid hp1
  have HB := mkHid hb1
  clear hp1 hb1 e1 e2
  go_wp2_with fail
  go_ret
  exact ⟨rfl, A', C', HP.out, HB.out⟩


set_option maxRecDepth 20000 in
set_option maxHeartbeats 400000 in
theorem pLong_own (g base : Nat) (A : Option Addr) (n C : Nat) (bs : List Int) (bad : Bool) (k cn : Nat) (x : Int) (fr : Nat × Nat) (w : World) (hp : PK w g base A n C bs bad) (hnum : w.heap[k]? = some (.cells #[.int .i64 x] 3 fr)) (hI : I64 x) (hsz : n ≤ 900000000000) :
    Calls Try.prog 33 #[.pointer (some ⟨g, 0, none⟩), .slice (some ⟨k, 0, none⟩) 1 cn] w fun e w' => e = .returned (.pointer (some ⟨g, 0, none⟩)) ∧
      (∃ A' C', PK w' g base A' (n + 8) C' (bs ++ nb 8 x) (bad || !fits 8 x) ∧ PB base w w' g (Value.slice A n C).ownBlock (Value.slice A' (n + 8) C').ownBlock) := by
  have HL := mkHid hp.len
  go_enter Try.func33, Try.ntmps33
  go_wp2_with fail
  refine (put8_own g base A n C bs bad k 1 cn [x] fr w hp hnum rfl (by intro y hy; obtain rfl := List.mem_singleton.1 hy; exact hI) (by omega) _ rfl).mono ?_
  rintro e w1 ⟨rfl, A', n', C', hp1, hb1⟩
  have hn' : n' = n + 8 := by have h1 := hp1.len; have h2 := HL.out; rw [List.length_append, packs_len, h2] at h1; simp at h1; omega
  subst hn'
  have e1 : bs ++ packs 8 [x] = bs ++ nb 8 x := by simp [packs]
  have e2 : (bad || !([x] : List Int).all (fits 8)) = (bad || !fits 8 x) := by simp
  rw [e1, e2] at hp1
  have HP := mkHid hp1
  have HB := mkHid hb1
  clear hp1 hb1 e1 e2
  go_wp2_with fail
  go_ret
  exact ⟨rfl, A', C', HP.out, HB.out⟩

end Go.Proofs.Ytbgfccfhiocomaa
