/- The walk of portagelaw02.awake: it answers true. -/
import Derived.Test.YtncbckbcdopipaaFramePut
namespace Go.Proofs.Ytncbckbcdopipaa
open Go.RowKit

theorem crc_check : crcSum [49, 50, 51, 52, 53, 54, 55, 56, 57] = 3421780262 := by
  rw [crcSum_nat (by unfold okBytes; decide)]; decide +kernel

set_option maxRecDepth 20000 in
set_option maxHeartbeats 400000 in
theorem awake_any (w : World) : Calls Try.prog 11 #[] w fun e w' => e = .returned (.bool true) ∧ Below w.heap.size w w' := by
  have kc := fun (w : World) (C : Array Value) (n c : Nat) => Lib.run_convert_bytes_const (P := Try.prog) w 23 5 C n c Try.underlying23 Try.underlying5
  go_enter Try.func11, Try.ntmps11
  go_wp2_with fail
  have hbs : BS (w.alloc (.cells #[u8 1, u8 2] 5)) (w.alloc (.cells #[u8 1, u8 2] 5)).heap.size (some ⟨w.heap.size, 0, none⟩) 2 [1, 2] :=
    ⟨SL.of_block (heap_alloc_new w _) rfl (by simp), by unfold okBytes; decide⟩
  refine (put_ok 3 _ 2 2 [1, 2] _ hbs (by omega) (by omega)).mono ?_
  rintro e w1 ⟨A, c', rfl, hown, hb⟩
  clear hbs
  obtain ⟨g, rfl, hg1, hg2, hc⟩ := own_cells hown (by omega)
  have c0 : w1.cell? ⟨g, 0, none⟩ = some (.int .u8 3) := hc 0 (by omega)
  have c1 : w1.cell? ⟨g, 1, none⟩ = some (.int .u8 2) := hc 1 (by omega)
  clear hc hown
  go_wp2_with fail
  have hbss := BSS.one (t := 23) (c := 9) (W := w1.alloc (.cells #[u8 49, u8 50, u8 51, u8 52, u8 53, u8 54, u8 55, u8 56, u8 57] 5 (9, 10))) (l := [49, 50, 51, 52, 53, 54, 55, 56, 57]) (a := some ⟨w1.heap.size, 0, none⟩) (n := 9)
    ⟨SL.of_block (heap_alloc_new w1 _) rfl (by simp), by unfold okBytes; decide⟩ ⟨by omega, by unfold maxLen; omega, by omega⟩ (g := w1.heap.size + 1) (by simp)
  refine (sum_any _ 1 1 [[49, 50, 51, 52, 53, 54, 55, 56, 57]] _ hbss (by unfold maxLen; omega)).mono ?_
  rintro e w' ⟨rfl, rfl⟩
  rw [List.flatten_cons, List.flatten_nil, List.append_nil, crc_check]
  clear hbss
  go_wp2_with fail
  go_ret
  exact ⟨rfl, ((((Below.refl _ _).alloc (Nat.le_refl _) _).trans (hb.mono (by simp))).alloc (by have := hb.size; simp at this; omega) _).alloc (by have := hb.size; simp at this ⊢; omega) _⟩

end Go.Proofs.Ytncbckbcdopipaa
