/- frame.Unpacker by contract, the rest: NewUnpacker, Byte, Short, Word, Long, Rest, Done; the law's own 'next'; portageref02.Read and Fits. -/
import Derived.Test.YtbgfccfhiocomaaUnpackF
namespace Go.Proofs.Ytbgfccfhiocomaa
open Go.RowKit

set_option maxRecDepth 20000 in
set_option maxHeartbeats 400000 in
theorem newUnpacker_any (a : Option Addr) (n c : Nat) (l : List Int) (w : World) (hx : BS w w.heap.size a n l) (hn : n ≤ 140737488355328) :
    Calls Try.prog 46 #[.slice a n c] w fun e w' => ∃ g, e = .returned (.pointer (some ⟨g, 0, none⟩)) ∧ w.heap.size ≤ g ∧ (∃ a' n' c', UK w' g a' n' c' l false) ∧ Below w.heap.size w w' := by
  have HL := mkHid hx.len
  go_enter Try.func46, Try.ntmps46
  go_wp2_with fail
  refine (clone_any a n c l w hx hn).mono ?_
  rintro e w1 ⟨A, n', c', rfl, hown, hb⟩
  have hn' : n' = n := by have h1 := hown.1; have h2 := HL.out; simp at h1; omega
  have hsz := hb.size
  have hbs : BS w1 w1.heap.size A n' l := ⟨SL.of_own hown, hx.2⟩
  have hcap := own_cap hown
  have HU := mkHid (show UK (w1.alloc (.cells #[.slice A n' c', .bool false] 131)) w1.heap.size A n' c' l false from
    ⟨heap_alloc_new w1 _, UBO.of (hbs.below ((Below.refl _ _).alloc (Nat.le_refl _) _)) (by simp) (Nat.le_refl _), hcap.1, hcap.2, by omega⟩)
  clear hbs hown hn' hcap
  go_wp2_with fail
  go_ret
  exact ⟨_, rfl, hsz, ⟨A, n', c', HU.out⟩, hb.alloc hsz _⟩


set_option maxRecDepth 20000 in
set_option maxHeartbeats 400000 in
theorem uByte_any (g : Nat) (a : Option Addr) (n c : Nat) (bs : List Int) (bad : Bool) (w : World) (hu : UK w g a n c bs bad) :
    Calls Try.prog 82 #[.pointer (some ⟨g, 0, none⟩)] w fun e w' => e = .returned (.int .i64 (takeOf 1 bs bad).1) ∧
      (∃ a' n' c', UK w' g a' n' c' (takeOf 1 bs bad).2.1 (takeOf 1 bs bad).2.2) ∧ w.grownBy w' (some g) := by
  go_enter Try.func82, Try.ntmps82
  go_wp2_with fail
  refine (take_any 1 (by omega) g a n c bs bad w hu).mono ?_
  rintro e w1 ⟨rfl, hu1, hg1⟩
  go_wp2_with fail
  go_ret
  exact ⟨rfl, hu1, hg1⟩


set_option maxRecDepth 20000 in
set_option maxHeartbeats 400000 in
theorem uShort_any (g : Nat) (a : Option Addr) (n c : Nat) (bs : List Int) (bad : Bool) (w : World) (hu : UK w g a n c bs bad) :
    Calls Try.prog 83 #[.pointer (some ⟨g, 0, none⟩)] w fun e w' => e = .returned (.int .i64 (takeOf 2 bs bad).1) ∧
      (∃ a' n' c', UK w' g a' n' c' (takeOf 2 bs bad).2.1 (takeOf 2 bs bad).2.2) ∧ w.grownBy w' (some g) := by
  go_enter Try.func83, Try.ntmps83
  go_wp2_with fail
  refine (take_any 2 (by omega) g a n c bs bad w hu).mono ?_
  rintro e w1 ⟨rfl, hu1, hg1⟩
  go_wp2_with fail
  go_ret
  exact ⟨rfl, hu1, hg1⟩




set_option maxRecDepth 20000 in
set_option maxHeartbeats 400000 in
theorem uLong_any (g : Nat) (a : Option Addr) (n c : Nat) (bs : List Int) (bad : Bool) (w : World) (hu : UK w g a n c bs bad) :
    Calls Try.prog 47 #[.pointer (some ⟨g, 0, none⟩)] w fun e w' => e = .returned (.int .i64 (takeOf 8 bs bad).1) ∧
      (∃ a' n' c', UK w' g a' n' c' (takeOf 8 bs bad).2.1 (takeOf 8 bs bad).2.2) ∧ w.grownBy w' (some g) := by
  go_enter Try.func47, Try.ntmps47
  go_wp2_with fail
  refine (take_any 8 (by omega) g a n c bs bad w hu).mono ?_
  rintro e w1 ⟨rfl, hu1, hg1⟩
  go_wp2_with fail
  go_ret
  exact ⟨rfl, hu1, hg1⟩


set_option maxRecDepth 20000 in
set_option maxHeartbeats 400000 in
/-- Rest of an unpacker that is not spoiled. -/
theorem rest_any (g : Nat) (a : Option Addr) (n c : Nat) (bs : List Int) (w : World) (hu : UK w g a n c bs false) :
    Calls Try.prog 49 #[.pointer (some ⟨g, 0, none⟩)] w fun e w' => (∃ A n' c', e = .returned (.slice A n' c') ∧ w'.ownsRow w.heap.size 5 1 (.slice A n' c') n' (bs.map u8)) ∧
      (∃ a' n' c', UK w' g a' n' c' [] false) ∧ w.grownBy w' (some g) := by
  obtain ⟨c0, c1, f0, f1⟩ := hu.facts
  have hlt := hu.lt
  have hcap := hu.cap
  have HB := mkHid (hu.bytes.keep (grown_set w g 0 (.slice none 0 0))).bs
  have HU := mkHid (hu.setBytes (a' := none) (n' := 0) (c' := 0) (bs' := []) ⟨rfl, (fun x hx => by cases hx), fun j hj => absurd hj (by omega)⟩ ⟨by omega, by unfold maxLen; omega, by omega⟩)
  clear hu
  go_enter Try.func49, Try.ntmps49
  go_wp2_with fail
  refine (clone_any a n c bs _ HB.out (by omega)).mono ?_
  rintro e w1 ⟨A, n', c', rfl, hown, hb⟩
  have hs : (w.setCell ⟨g, 0, none⟩ (.slice none 0 0)).heap.size = w.heap.size := by simp [World.setCell]
  have HU1 := mkHid (HU.out.below hb (Nat.le_refl _))
  have HG := mkHid (show w.grownBy w1 (some g) from by
    have g1 := grown_set w g 0 (.slice none 0 0)
    refine ⟨hb.os.trans g1.os, hb.tape.trans g1.tape, hb.output.trans g1.output, ?_, fun k hk hne => (hb.block k (by rw [hs]; exact hk)).trans (g1.block k hk hne)⟩
    have := hb.size
    rw [hs] at this
    exact this)
  rw [hs] at hown
  clear hb hs
  go_wp2_with fail
  go_ret
  exact ⟨⟨A, n', c', rfl, hown⟩, ⟨_, _, _, HU1.out⟩, HG.out⟩

set_option maxRecDepth 20000 in
set_option maxHeartbeats 400000 in
theorem rest_bad (g : Nat) (a : Option Addr) (n c : Nat) (bs : List Int) (w : World) (hu : UK w g a n c bs true) :
    Calls Try.prog 49 #[.pointer (some ⟨g, 0, none⟩)] w fun e w' => e = .returned (.slice none 0 0) ∧ w = w' := by
  obtain ⟨c0, c1, f0, f1⟩ := hu.facts
  clear hu
  go_enter Try.func49, Try.ntmps49
  go_wp2_with fail
  go_ret
  exact ⟨rfl, rfl⟩

/-- Was it read just so? -/
def doneOf (bs : List Int) (bad : Bool) : Bool := !bad && decide (bs.length = 0)
set_option maxRecDepth 20000 in
set_option maxHeartbeats 400000 in
theorem done_any (g : Nat) (a : Option Addr) (n c : Nat) (bs : List Int) (bad : Bool) (w : World) (hu : UK w g a n c bs bad) :
    Calls Try.prog 50 #[.pointer (some ⟨g, 0, none⟩)] w fun e w' => e = .returned (if doneOf bs bad = true then .nilIface else codeV 14) ∧ w = w' := by
  obtain ⟨c0, c1, f0, f1⟩ := hu.facts
  have hl := hu.bytes.1
  have hcap := hu.cap
  clear hu
  cases bad with
  | true =>
    rw [if_neg (by simp [doneOf])]
    go_enter Try.func50, Try.ntmps50
    go_wp2_with fail
    go_ret
    exact ⟨rfl, rfl⟩
  | false =>
    by_cases h0 : n = 0
    · have hb : bs.length = 0 := by omega
      rw [if_pos (by simp [doneOf, hb])]
      clear hb
      subst h0
      clear hl
      go_enter Try.func50, Try.ntmps50
      go_wp2_with fail
      go_ret
      exact ⟨rfl, rfl⟩
    · have hb : ¬ bs.length = 0 := by omega
      rw [if_neg (by simp [doneOf, hb])]
      clear hb
      have h1 : 0 < n := by omega
      clear hl h0
      go_enter Try.func50, Try.ntmps50
      go_wp2_with fail
      go_ret
      exact ⟨rfl, rfl⟩

end Go.Proofs.Ytbgfccfhiocomaa
