/- fault.CodeOf, Where, Depth, Deepest by contract. -/
import Derived.Test.YtolcajcihgfeeaaDoorFtG
namespace Go.Proofs.YtolcajcihgfeeaaDoor
open Go.RowKit Go.Extern.Stop Go.Stop Go.Extern

set_option maxHeartbeats 4000000 in
theorem codeOf_some (l : List Lk) (B : Nat) (c : Int) (T : TypeId) (x : Value) (w : World) (hE : ErrT w) (h : Ch w B l (some c) (.iface T x)) (hB : B ≤ w.heap.size) :
    Calls Tryd.prog 14 #[.iface T x] w fun e w' => e = .returned (.tuple #[.int .i64 c, .bool true]) ∧ Below w.heap.size w w' := by
  have HB := mkHid (show Below w.heap.size w (w.alloc (.cells #[.int .i64 0] 31)) from below_alF _)
  have HE := mkHid (hE.below HB.out)
  have HC := mkHid (h.keep fun b hb => HB.out.block b (Nat.lt_of_lt_of_le hb hB) : Ch (w.alloc (.cells #[.int .i64 0] 31)) B l (some c) (.iface T x))
  have HBW := mkHid (Nat.le_trans hB HB.out.size)
  have HV := mkHid (show Var1 (w.alloc (.cells #[.int .i64 0] 31)) w.heap.size 31 (.int .i64 0) from heap_alloc_new w _)
  clear hE h hB
  go_enter Tryd.func14, Tryd.ntmps14
  go_wp2_with (go_at_call 27; refine (AsC_any l B (some c) T x w.heap.size _ _ HE.out HC.out HBW.out HV.out).mono ?_; rintro e w1 ⟨rfl, hv, hb⟩; have hcell : w1.cell? ⟨w.heap.size, 0, none⟩ = some (.int .i64 c) := hv.cell; have HB1 := mkHid hb; clear hv hb)
  go_ret2
  exact ⟨rfl, HB1.out.below HB.out HB.out.size (Nat.le_refl _)⟩
set_option maxHeartbeats 4000000 in
theorem codeOf_none (l : List Lk) (B : Nat) (T : TypeId) (x : Value) (w : World) (hE : ErrT w) (h : Ch w B l none (.iface T x)) (hB : B ≤ w.heap.size) :
    Calls Tryd.prog 14 #[.iface T x] w fun e w' => e = .returned (.tuple #[.int .i64 0, .bool false]) ∧ Below w.heap.size w w' := by
  have HB := mkHid (show Below w.heap.size w (w.alloc (.cells #[.int .i64 0] 31)) from below_alF _)
  have HE := mkHid (hE.below HB.out)
  have HC := mkHid (h.keep fun b hb => HB.out.block b (Nat.lt_of_lt_of_le hb hB) : Ch (w.alloc (.cells #[.int .i64 0] 31)) B l none (.iface T x))
  have HBW := mkHid (Nat.le_trans hB HB.out.size)
  have HV := mkHid (show Var1 (w.alloc (.cells #[.int .i64 0] 31)) w.heap.size 31 (.int .i64 0) from heap_alloc_new w _)
  clear hE h hB
  go_enter Tryd.func14, Tryd.ntmps14
  go_wp2_with (go_at_call 27; refine (AsC_any l B none T x w.heap.size _ _ HE.out HC.out HBW.out HV.out).mono ?_; rintro e w1 ⟨rfl, hv, hb⟩; have HB1 := mkHid hb; clear hv hb)
  go_ret2
  exact ⟨rfl, HB1.out.below HB.out HB.out.size (Nat.le_refl _)⟩
set_option maxHeartbeats 4000000 in
theorem codeOf_nil (w : World) : Calls Tryd.prog 14 #[.nilIface] w fun e w' => e = .returned (.tuple #[.int .i64 0, .bool false]) ∧ Below w.heap.size w w' := by
  go_enter Tryd.func14, Tryd.ntmps14
  go_wp2_with (go_at_call 27; refine (As_nil _ _).mono ?_; rintro e w1 ⟨rfl, hww⟩; subst hww)
  go_ret2
  exact ⟨rfl, below_alF _⟩

/-- The last fault, out of the row that faults gives. -/
theorem ft_last {w : World} {B base n C : Nat} {A : Option Addr} {ps : List Nat} {l : List Lk} {x : Lk} {T : TypeId} (ho : w.ownsRow base T 1 (.slice A (n + 1) C) (n + 1) (ps.map fpV)) (hf : Fs w B ps (l ++ [x])) (hn : l.length = n) :
    ∃ b o g, A = some ⟨b, o, none⟩ ∧ w.cell? ⟨b, o + n, none⟩ = some (fpV g) ∧ w.cell? ⟨g, 1, none⟩ = some (.int .i64 x.dev) ∧ w.cell? ⟨g, 2, none⟩ = some (.int .i64 x.place) := by
  obtain ⟨g, y, u, h1, h2, h3, h4⟩ := hf.2 n (by simp; omega)
  obtain ⟨b, o, ha, hb, hc⟩ := (SL.of_own ho).2 n (by omega)
  rw [List.getElem?_append_right (by omega), hn, Nat.sub_self] at h2
  obtain rfl : x = y := by simpa using h2
  refine ⟨b, o, g, ha, ?_, cell_of_row w g 1 _ _ _ h4, cell_of_row w g 2 _ _ _ h4⟩
  rw [hc, List.getElem?_map, h1]
  rfl
/-- The first fault's places. -/
def firstOf : List Lk → Value
  | [] => .tuple #[.int .i64 0, .int .i64 0, .bool false]
  | x :: _ => .tuple #[.int .i64 x.dev, .int .i64 x.place, .bool true]
set_option maxHeartbeats 4000000 in
theorem where_none (c : Option Int) (w : World) (hE : ErrT w) : Calls Tryd.prog 13 #[endV c] w fun e w' => e = .returned (.tuple #[.int .i64 0, .int .i64 0, .bool false]) ∧ Below w.heap.size w w' := by
  have HB := mkHid (show Below w.heap.size w (w.alloc (.cells #[.pointer none] 48)) from below_alF _)
  have HE := mkHid (hE.below HB.out)
  have HV := mkHid (show Var1 (w.alloc (.cells #[.pointer none] 48)) w.heap.size 48 (.pointer none) from heap_alloc_new w _)
  clear hE
  cases c with
  | none =>
    show Calls Tryd.prog 13 #[.nilIface] w _
    go_enter Tryd.func13, Tryd.ntmps13
    go_wp2_with (go_at_call 27; refine (As_nil _ _).mono ?_; rintro e w1 ⟨rfl, hww⟩; subst hww)
    go_ret3
    exact ⟨rfl, HB.out⟩
  | some c =>
    show Calls Tryd.prog 13 #[codeV c] w _
    go_enter Tryd.func13, Tryd.ntmps13
    go_wp2_with (go_at_call 27; refine (AsF_miss c w.heap.size _ _ HE.out HV.out).mono ?_; rintro e w1 ⟨rfl, hb⟩; have HB1 := mkHid hb; clear hb)
    go_ret3
    exact ⟨rfl, HB.out.trans (HB1.out.mono HB.out.size)⟩
set_option maxHeartbeats 4000000 in
theorem where_some (g : Nat) (x : Lk) (u : Value) (w : World) (hE : ErrT w) (hx : w.heap[g]? = some (faultO x u)) : Calls Tryd.prog 13 #[faultV g] w fun e w' => e = .returned (.tuple #[.int .i64 x.dev, .int .i64 x.place, .bool true]) ∧ Below w.heap.size w w' := by
  have HB := mkHid (show Below w.heap.size w (w.alloc (.cells #[.pointer none] 48)) from below_alF _)
  have HE := mkHid (hE.below HB.out)
  have HV := mkHid (show Var1 (w.alloc (.cells #[.pointer none] 48)) w.heap.size 48 (.pointer none) from heap_alloc_new w _)
  have HX := mkHid hx
  have HLT := mkHid (Array.getElem?_eq_some_iff.1 hx).1
  clear hE hx
  go_enter Tryd.func13, Tryd.ntmps13
  go_wp2_with (go_at_call 27; refine (AsF_hit g w.heap.size _ _ HE.out HV.out).mono ?_; rintro e w1 ⟨rfl, hv, hb⟩; have hcell : w1.cell? ⟨w.heap.size, 0, none⟩ = some (.pointer (some ⟨g, 0, none⟩)) := hv.cell; have HB1 := mkHid (hb.below HB.out HB.out.size (Nat.le_refl _)); have hx1 := (HB1.out.block g HLT.out).trans HX.out; have hd : w1.cell? ⟨g, 1, none⟩ = some (.int .i64 x.dev) := cell_of_row w1 g 1 _ _ _ hx1; have hp : w1.cell? ⟨g, 2, none⟩ = some (.int .i64 x.place) := cell_of_row w1 g 2 _ _ _ hx1; clear hv hb hx1)
  go_quiet (fail)
  go_wp2_with fail
  go_ret3
  exact ⟨rfl, below_drewN HB1.out _⟩

set_option maxHeartbeats 4000000 in
theorem depth_any (l : List Lk) (B : Nat) (c : Option Int) (v : Value) (w : World) (hE : ErrT w) (h : Ch w B l c v) (hB : B ≤ w.heap.size) (hl : l.length ≤ 1000) :
    Calls Tryd.prog 15 #[v] w fun e w' => e = .returned (.int .i64 l.length) ∧ Below w.heap.size w w' := by
  have HF := mkHid (faults_any l B c v w hE h hB hl)
  clear hE h hB hl
  go_enter Tryd.func15, Tryd.ntmps15
  go_wp2_with (go_at_call 28; refine HF.out.mono ?_; rintro e w1 ⟨A, C, ps, rfl, _, _, hb⟩; have HB := mkHid hb; clear hb)
  go_ret
  exact ⟨rfl, HB.out⟩

set_option maxHeartbeats 4000000 in
theorem deepest_none (c : Option Int) (w : World) (hE : ErrT w) : Calls Tryd.prog 18 #[endV c] w fun e w' => e = .returned (.tuple #[.int .i64 0, .int .i64 0, .bool false]) ∧ Below w.heap.size w w' := by
  have HF := mkHid (faults_any [] 0 c (endV c) w hE rfl (Nat.zero_le _) (Nat.zero_le _))
  clear hE
  go_enter Tryd.func18, Tryd.ntmps18
  go_wp2_with (go_at_call 28; refine HF.out.mono ?_; rintro e w1 ⟨A, C, ps, rfl, _, _, hb⟩; have HB := mkHid hb; clear hb; simp only [List.length_nil])
  go_ret3
  exact ⟨rfl, HB.out⟩
set_option maxHeartbeats 4000000 in
theorem deepest_some (l : List Lk) (x : Lk) (B : Nat) (c : Option Int) (v : Value) (w : World) (hE : ErrT w) (h : Ch w B (l ++ [x]) c v) (hB : B ≤ w.heap.size) (hl : l.length < 1000) :
    Calls Tryd.prog 18 #[v] w fun e w' => e = .returned (.tuple #[.int .i64 x.dev, .int .i64 x.place, .bool true]) ∧ Below w.heap.size w w' := by
  have hf := faults_any (l ++ [x]) B c v w hE h hB (by simp; omega)
  rw [show (l ++ [x]).length = l.length + 1 by simp] at hf
  obtain ⟨n, hn⟩ : ∃ n, l.length = n := ⟨_, rfl⟩
  rw [hn] at hf hl
  have HN := mkHid hn
  have HF := mkHid hf
  have h0 : 0 < n + 1 := by omega
  clear hE h hB hf hn
  go_enter Tryd.func18, Tryd.ntmps18
  go_wp2_with (go_at_call 28; refine HF.out.mono ?_; rintro e w1 ⟨A, C, ps, rfl, ho, hfs, hb⟩; have HB := mkHid hb; have HK := mkHid (ft_last ho hfs HN.out); clear hb ho hfs; obtain ⟨b, o, g, rfl, hc0, hc1, hc2⟩ := HK.out)
  have hcell := HK.out
  clear HK HF
  go_quiet (fail)
  go_wp2_with fail
  go_ret3
  exact ⟨rfl, below_drewN HB.out _⟩
end Go.Proofs.YtolcajcihgfeeaaDoor
