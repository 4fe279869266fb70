/- fault.CodeOf, Where, Depth, Deepest by contract. -/
import Derived.Test.YtpoeneabhoajaaaDoorFtG4
namespace Go.Proofs.YtpoeneabhoajaaaDoor
open Go.RowKit Go.Extern.Stop Go.Stop Go.Extern


/-- The last fault, out of the row that faults gives. -/
theorem ft_last {w : World} {B base n C : Nat} {A : Option Addr} {ps : List Nat} {l : List Lk} {x : Lk} {T : TypeId} (ho : w.ownsRow base T 1 (.slice A (n + 1) C) (n + 1) (ps.map fpV)) (hf : Fs w B ps (l ++ [x])) (hn : l.length = n) :
    ∃ b o g, A = some ⟨b, o, none⟩ ∧ w.cell? ⟨b, o + n, none⟩ = some (fpV g) ∧ w.cell? ⟨g, 1, none⟩ = some (.int .i64 x.dev) ∧ w.cell? ⟨g, 2, none⟩ = some (.int .i64 x.place) := by
  obtain ⟨g, y, u, h1, h2, h3, h4⟩ := hf.2 n (by simp; omega)
  obtain ⟨b, o, ha, hb, hc⟩ := (SL.of_own ho).2 n (by omega)
  rw [List.getElem?_append_right (by omega), hn, Nat.sub_self] at h2
  obtain rfl : x = y := by simpa using h2
  refine ⟨b, o, g, ha, ?_, cell_of_row w g 1 _ _ _ h4, cell_of_row w g 2 _ _ _ h4⟩
  rw [hc, List.getElem?_map, h1]
  rfl
set_option maxHeartbeats 4000000 in
theorem where_none (c : Option Int) (w : World) (hE : ErrT w) : Calls Tryd.prog 17 #[endV c] w fun e w' => e = .returned (.tuple #[.int .i64 0, .int .i64 0, .bool false]) ∧ Below w.heap.size w w' := by
  have HB := mkHid (show Below w.heap.size w (w.alloc (.cells #[.pointer none] 86)) from below_alF _)
  have HE := mkHid (hE.below HB.out)
  have HV := mkHid (show Var1 (w.alloc (.cells #[.pointer none] 86)) w.heap.size 86 (.pointer none) from heap_alloc_new w _)
  clear hE
  cases c with
  | none =>
    show Calls Tryd.prog 17 #[.nilIface] w _
    go_enter Tryd.func17, Tryd.ntmps17
    go_wp2_with (go_at_call 46; refine (As_nil _ _).mono ?_; rintro e w1 ⟨rfl, hww⟩; subst hww)
    go_ret3
    exact ⟨rfl, HB.out⟩
  | some c =>
    show Calls Tryd.prog 17 #[codeV c] w _
    go_enter Tryd.func17, Tryd.ntmps17
    go_wp2_with (go_at_call 46; refine (AsF_miss c w.heap.size _ _ HE.out HV.out).mono ?_; rintro e w1 ⟨rfl, hb⟩; have HB1 := mkHid hb; clear hb)
    go_ret3
    exact ⟨rfl, HB.out.trans (HB1.out.mono HB.out.size)⟩
set_option maxHeartbeats 4000000 in
theorem where_some (g : Nat) (x : Lk) (u : Value) (w : World) (hE : ErrT w) (hx : w.heap[g]? = some (faultO x u)) : Calls Tryd.prog 17 #[faultV g] w fun e w' => e = .returned (.tuple #[.int .i64 x.dev, .int .i64 x.place, .bool true]) ∧ Below w.heap.size w w' := by
  have HB := mkHid (show Below w.heap.size w (w.alloc (.cells #[.pointer none] 86)) from below_alF _)
  have HE := mkHid (hE.below HB.out)
  have HV := mkHid (show Var1 (w.alloc (.cells #[.pointer none] 86)) w.heap.size 86 (.pointer none) from heap_alloc_new w _)
  have HX := mkHid hx
  have HLT := mkHid (Array.getElem?_eq_some_iff.1 hx).1
  clear hE hx
  go_enter Tryd.func17, Tryd.ntmps17
  go_wp2_with (go_at_call 46; refine (AsF_hit g w.heap.size _ _ HE.out HV.out).mono ?_; rintro e w1 ⟨rfl, hv, hb⟩; have hcell : w1.cell? ⟨w.heap.size, 0, none⟩ = some (.pointer (some ⟨g, 0, none⟩)) := hv.cell; have HB1 := mkHid (hb.below HB.out HB.out.size (Nat.le_refl _)); have hx1 := (HB1.out.block g HLT.out).trans HX.out; have hd : w1.cell? ⟨g, 1, none⟩ = some (.int .i64 x.dev) := cell_of_row w1 g 1 _ _ _ hx1; have hp : w1.cell? ⟨g, 2, none⟩ = some (.int .i64 x.place) := cell_of_row w1 g 2 _ _ _ hx1; clear hv hb hx1)
  go_quiet (fail)
  go_wp2_with fail
  go_ret3
  exact ⟨rfl, below_drewN HB1.out _⟩


end Go.Proofs.YtpoeneabhoajaaaDoor
