/- portagelaw15.awake answers true. -/
import Derived.Test.YtgabjgmimebelaaTabE
namespace Go.Proofs.Ytgabjgmimebelaa
open Go.RowKit Go.Shelf

/-- A span in a block of its own. -/
theorem SS.one {w : World} {k : Nat} {s : Sp} {t : TypeId} {Ok : Nat → Prop} (h : w.heap[k]? = some (.cells #[.int .i64 s.vol, .int .i64 s.frm, .int .i64 s.len, .bool s.wr] t (0, 0))) (hs : SpOk s) (ho : Ok k) : SS w Ok (some ⟨k, 0, none⟩) 1 [s] := by
  refine ⟨rfl, fun j hj => ?_⟩
  obtain rfl : j = 0 := by omega
  obtain ⟨c0, c1, c2, c3⟩ := facts4 h
  exact ⟨k, 0, s, rfl, ho, rfl, hs, c0, c1, c2, c3⟩

theorem T.fresh {w : World} {F : Nat → Prop} {g : Nat} {es : List En} {last : Nat} (h : T w F g es last) (o : Obj) : T (w.alloc o) F g es last := h.below ((Below.refl _ _).alloc (Nat.le_refl _) o)

set_option maxRecDepth 20000 in
set_option maxHeartbeats 1000000 in
theorem awake_any (w : World) : Calls Try.prog 11 #[] w fun e w' => e = .returned (.bool true) ∧ Below w.heap.size w w' := by
  go_enter Try.func11, Try.ntmps11
  go_wp2_with fail
  refine (new_any w).mono ?_
  rintro e w1 ⟨rfl, ht1, hb1⟩
  have HT1 := mkHid ht1
  have HB1 := mkHid hb1
  clear ht1 hb1
  go_wp2_with fail
  have T1 := HT1.out.fresh (.cells #[.int .i64 1, .int .i64 0, .int .i64 4, .bool true] 24)
  have S1 := SS.one (s := ⟨1, 0, 4, true⟩) (Ok := fun b => b < (w1.alloc (.cells #[.int .i64 1, .int .i64 0, .int .i64 4, .bool true] 24)).heap.size ∧ ¬ b = w.heap.size) (heap_alloc_new w1 (.cells #[.int .i64 1, .int .i64 0, .int .i64 4, .bool true] 24)) (by unfold SpOk I64; simp) ⟨by simp, by have := HT1.out.glt; omega⟩
  refine (add_ok _ _ _ _ _ 1 1 _ _ T1 S1 ⟨by omega, by unfold maxLen; omega, by omega⟩ (by omega) (by omega) (by simp) rfl).mono ?_
  rintro e w2 ⟨rfl, ht2, F1, hT2, hF1⟩
  have HT2 := mkHid hT2
  have HB2 := mkHid (HB1.out.trans ((((Below.refl w1.heap.size w1).alloc (Nat.le_refl _) (.cells #[.int .i64 1, .int .i64 0, .int .i64 4, .bool true] 24)).mono (B' := w.heap.size) HB1.out.size).trans (ht2.below (B := w.heap.size) (fun b hb => by omega) (by have := HB1.out.size; simp; omega))))
  have HF1 := mkHid (show ∀ b, F1 b → w.heap.size ≤ b from fun b hb => by
    have h1 := HB1.out.size
    rcases hF1 b hb with e | e
    · omega
    · simp at e; omega)
  clear ht2 hT2 hF1 T1 S1
  go_wp2_with fail
  have T2 := HT2.out.fresh (.cells #[.int .i64 1, .int .i64 3, .int .i64 1, .bool false] 24)
  have S2 := SS.one (s := ⟨1, 3, 1, false⟩) (Ok := fun b => b < (w2.alloc (.cells #[.int .i64 1, .int .i64 3, .int .i64 1, .bool false] 24)).heap.size ∧ ¬ F1 b) (heap_alloc_new w2 (.cells #[.int .i64 1, .int .i64 3, .int .i64 1, .bool false] 24)) (by unfold SpOk I64; simp) ⟨by simp, fun h => by have := HT2.out.lt _ h; omega⟩
  refine (add_ok _ _ _ _ _ 1 1 _ _ T2 S2 ⟨by omega, by unfold maxLen; omega, by omega⟩ (by omega) (by omega) (by simp) rfl).mono ?_
  rintro e w3 ⟨rfl, ht3, F2, hT3, hF2⟩
  have HT3 := mkHid hT3
  have HB3 := mkHid (HB2.out.trans ((((Below.refl w2.heap.size w2).alloc (Nat.le_refl _) (.cells #[.int .i64 1, .int .i64 3, .int .i64 1, .bool false] 24)).mono (B' := w.heap.size) HB2.out.size).trans (ht3.below (B := w.heap.size) HF1.out (by have := HB2.out.size; simp; omega))))
  clear ht3 hT3 hF2 T2 S2
  go_wp2_with fail
  refine (may_any _ _ _ _ _ _ HT3.out (by unfold I64; omega)).mono ?_
  rintro e w4 ⟨rfl, hb4⟩
  have HB4 := mkHid hb4
  clear hb4
  rw [show mayOf ([] ++ [⟨((0 : Nat) : Int) + 1, [⟨1, 0, 4, true⟩]⟩] ++ [⟨((0 + 1 : Nat) : Int) + 1, [⟨1, 3, 1, false⟩]⟩]) 1 = true from rfl]
  go_wp2_with fail
  refine (may_any _ _ _ _ _ _ (HT3.out.below HB4.out) (by unfold I64; omega)).mono ?_
  rintro e w5 ⟨rfl, hb5⟩
  have HB5 := mkHid hb5
  clear hb5
  rw [show mayOf ([] ++ [⟨((0 : Nat) : Int) + 1, [⟨1, 0, 4, true⟩]⟩] ++ [⟨((0 + 1 : Nat) : Int) + 1, [⟨1, 3, 1, false⟩]⟩]) 2 = false from rfl]
  go_wp2_with fail
  go_ret
  exact ⟨rfl, HB3.out.trans ((HB4.out.mono HB3.out.size).trans (HB5.out.mono (Nat.le_trans HB3.out.size HB4.out.size)))⟩

end Go.Proofs.Ytgabjgmimebelaa
