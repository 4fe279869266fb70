/- frame.Unpacker by contract, the rest: NewUnpacker, Byte, Short, Word, Long, Rest, Done; the law's own 'next'; portageref02.Read and Fits. -/
import Derived.Test.YtilepjkdfbhgcaaUnpackF
namespace Go.Proofs.Ytilepjkdfbhgcaa
open Go.RowKit

set_option maxRecDepth 20000 in
set_option maxHeartbeats 400000 in
theorem newUnpacker_any (a : Option Addr) (n c : Nat) (l : List Int) (w : World) (hx : BS w w.heap.size a n l) (hn : n ≤ 140737488355328) :
    Calls Try.prog 57 #[.slice a n c] w fun e w' => ∃ g, e = .returned (.pointer (some ⟨g, 0, none⟩)) ∧ w.heap.size ≤ g ∧ (∃ a' n' c', UK w' g a' n' c' l false) ∧ Below w.heap.size w w' := by
  have HL := mkHid hx.len
  go_enter Try.func57, Try.ntmps57
  go_wp2_with fail
  refine (clone_any a n c l w hx hn).mono ?_
  rintro e w1 ⟨A, n', c', rfl, hown, hb⟩
  have hn' : n' = n := by have h1 := hown.1; have h2 := HL.out; simp at h1; omega
  have hsz := hb.size
  have hbs : BS w1 w1.heap.size A n' l := ⟨SL.of_own hown, hx.2⟩
  have hcap := own_cap hown
  have HU := mkHid (show UK (w1.alloc (.cells #[.slice A n' c', .bool false] 108)) w1.heap.size A n' c' l false from
    ⟨heap_alloc_new w1 _, UBO.of (hbs.below ((Below.refl _ _).alloc (Nat.le_refl _) _)) (by simp) (Nat.le_refl _), hcap.1, hcap.2, by omega⟩)
  clear hbs hown hn' hcap
  go_wp2_with fail
  go_ret
  exact ⟨_, rfl, hsz, ⟨A, n', c', HU.out⟩, hb.alloc hsz _⟩


set_option maxRecDepth 20000 in
set_option maxHeartbeats 400000 in
theorem uByte_any (g : Nat) (a : Option Addr) (n c : Nat) (bs : List Int) (bad : Bool) (w : World) (hu : UK w g a n c bs bad) :
    Calls Try.prog 58 #[.pointer (some ⟨g, 0, none⟩)] w fun e w' => e = .returned (.int .i64 (takeOf 1 bs bad).1) ∧
      (∃ a' n' c', UK w' g a' n' c' (takeOf 1 bs bad).2.1 (takeOf 1 bs bad).2.2) ∧ w.grownBy w' (some g) := by
  go_enter Try.func58, Try.ntmps58
  go_wp2_with fail
  refine (take_any 1 (by omega) g a n c bs bad w hu).mono ?_
  rintro e w1 ⟨rfl, hu1, hg1⟩
  go_wp2_with fail
  go_ret
  exact ⟨rfl, hu1, hg1⟩






set_option maxRecDepth 20000 in
set_option maxHeartbeats 400000 in
theorem uLong_any (g : Nat) (a : Option Addr) (n c : Nat) (bs : List Int) (bad : Bool) (w : World) (hu : UK w g a n c bs bad) :
    Calls Try.prog 59 #[.pointer (some ⟨g, 0, none⟩)] w fun e w' => e = .returned (.int .i64 (takeOf 8 bs bad).1) ∧
      (∃ a' n' c', UK w' g a' n' c' (takeOf 8 bs bad).2.1 (takeOf 8 bs bad).2.2) ∧ w.grownBy w' (some g) := by
  go_enter Try.func59, Try.ntmps59
  go_wp2_with fail
  refine (take_any 8 (by omega) g a n c bs bad w hu).mono ?_
  rintro e w1 ⟨rfl, hu1, hg1⟩
  go_wp2_with fail
  go_ret
  exact ⟨rfl, hu1, hg1⟩





end Go.Proofs.Ytilepjkdfbhgcaa
