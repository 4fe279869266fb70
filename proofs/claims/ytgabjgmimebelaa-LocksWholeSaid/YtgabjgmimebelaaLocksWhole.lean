/- portagelaw15.LocksWhole answers true. -/
import Derived.Test.YtgabjgmimebelaaLocksClash
import Derived.Deep.RegionHeld3
namespace Go.Proofs.Ytgabjgmimebelaa
open Go.RowKit Go.Shelf

theorem rightOf_whole {a : Sp} (h : rightOf a = true) (v : Int) (hv : v = 0 ∨ v = a.vol) (b : Bool) : rightOf ⟨v, 0, 0, b⟩ = true := by
  have h := of_decide_eq_true h
  exact decide_eq_true ⟨by simp only; omega, by simp, by simp, by simp⟩
/-- A span of a whole volume. -/
theorem clash_whole {a b : Sp} (ha : rightOf a = true) (hb : rightOf b = true) (hv : a.vol = b.vol) : clashOf ⟨a.vol, 0, 0, a.wr⟩ b = (a.wr || b.wr) := by
  unfold clashOf
  rw [rightOf_whole ha _ (.inr rfl), hb]
  cases h1 : a.wr <;> cases h2 : b.wr <;> simp [hv, wholeOf]
/-- A span of all volumes. -/
theorem clash_all {a b : Sp} (ha : rightOf a = true) (hb : rightOf b = true) : clashOf ⟨0, 0, 0, a.wr⟩ b = (a.wr || b.wr) := by
  unfold clashOf
  rw [rightOf_whole ha 0 (.inl rfl), hb]
  cases h1 : a.wr <;> cases h2 : b.wr <;> simp
theorem clash_apart {a b : Sp} (ha : 0 < a.vol) (hb : 0 < b.vol) (hv : a.vol ≠ b.vol) : clashOf a b = false := by
  unfold clashOf
  split
  · rfl
  · rw [if_neg (by omega)]
theorem clash_self {a : Sp} (ha : rightOf a = true) : clashOf a a = a.wr := by
  unfold clashOf
  have hr := of_decide_eq_true ha
  rw [ha]
  cases h1 : a.wr with
  | false => simp
  | true =>
    by_cases h2 : a.vol = 0
    · simp [h2]
    · by_cases h3 : a.len = 0
      · simp [wholeOf, h3]
      · have : 0 < a.len := by omega
        simp [wholeOf, h2, h3, this]

set_option maxRecDepth 20000 in
set_option maxHeartbeats 4000000 in
theorem locksWhole_any (x y : Sp) (w : World) (hx : SpOk x) (hy : SpOk y) : Calls Try.prog 5 #[spV x, spV y] w fun e w' => e = .returned (.bool true) ∧ Below w.heap.size w w' := by
  have HRX := mkHid (fun W => rright_any x W hx)
  have HRY := mkHid (fun W => rright_any y W hy)
  have HXY := mkHid (fun W => clash_any x y W hx hy)
  have HXX := mkHid (fun W => clash_any x x W hx hx)
  have HWB := mkHid (fun W => clash_any ⟨x.vol, 0, 0, x.wr⟩ y W ⟨hx.1, by simp [I64], by simp [I64]⟩ hy)
  have HAB := mkHid (fun W => clash_any ⟨0, 0, 0, x.wr⟩ y W ⟨by simp [I64], by simp [I64], by simp [I64]⟩ hy)
  have LW := mkHid (fun ha hb hv => clash_whole (a := x) (b := y) ha hb hv)
  have LA := mkHid (fun ha hb => clash_all (a := x) (b := y) ha hb)
  have LP := mkHid (fun ha hb hv => clash_apart (a := x) (b := y) ha hb hv)
  have LS := mkHid (fun ha => clash_self (a := x) ha)
  obtain ⟨v, f, n, b⟩ := x
  obtain ⟨v', f', n', b'⟩ := y
  obtain ⟨⟨v0, v1⟩, ⟨f0, f1⟩, ⟨n0, n1⟩⟩ := hx
  obtain ⟨⟨v0', v1'⟩, ⟨f0', f1'⟩, ⟨n0', n1'⟩⟩ := hy
  simp only at v0 v1 f0 f1 n0 n1 v0' v1' f0' f1' n0' n1'
  simp only at LW LA LP LS
  unfold spV at HRX HRY HXY HXX HWB HAB ⊢
  simp only at HRX HRY HXY HXX HWB HAB ⊢
  go_enter Try.func5, Try.ntmps5
  go_wp2_with fail
  generalize hW : (w.alloc (.cells #[.int .i64 v, .int .i64 f, .int .i64 n, .bool b] 23)).alloc (.cells #[.int .i64 v', .int .i64 f', .int .i64 n', .bool b'] 23) = w0
  have HB0 := mkHid (show Below w.heap.size w w0 from hW ▸ ((Below.refl _ _).alloc (Nat.le_refl _) _).alloc (by simp) _)
  have ak0 : w0.heap[w.heap.size]? = some (.cells #[.int .i64 v, .int .i64 f, .int .i64 n, .bool b] 23 (0, 0)) := hW ▸ (Below.heap_alloc _ _ _ (by simp)).trans (heap_alloc_new w _)
  have dk0 : w0.heap[w.heap.size + 1]? = some (.cells #[.int .i64 v', .int .i64 f', .int .i64 n', .bool b'] 23 (0, 0)) := hW ▸ heap_alloc2_new w _ _
  clear hW
  obtain ⟨ac0, ac1, ac2, ac3⟩ := facts4 ak0
  have al : w.heap.size < w0.heap.size := (Array.getElem?_eq_some_iff.1 ak0).1
  obtain ⟨dc0, dc1, dc2, dc3⟩ := facts4 dk0
  have dl : (w.heap.size + 1) < w0.heap.size := (Array.getElem?_eq_some_iff.1 dk0).1
  refine (HRX.out _).mono ?_
  rintro e w1 ⟨rfl, hb1⟩
  have HB1 := mkHid (HB0.out.trans (hb1.mono HB0.out.size))
  have ak1 : w1.heap[w.heap.size]? = some (.cells #[.int .i64 v, .int .i64 f, .int .i64 n, .bool b] 23 (0, 0)) := (hb1.block _ al).trans ak0
  have dk1 : w1.heap[(w.heap.size + 1)]? = some (.cells #[.int .i64 v', .int .i64 f', .int .i64 n', .bool b'] 23 (0, 0)) := (hb1.block _ dl).trans dk0
  clear hb1 ac0 ac1 ac2 ac3 al ak0 dc0 dc1 dc2 dc3 dl dk0
  obtain ⟨ac0, ac1, ac2, ac3⟩ := facts4 ak1
  have al : w.heap.size < w1.heap.size := (Array.getElem?_eq_some_iff.1 ak1).1
  obtain ⟨dc0, dc1, dc2, dc3⟩ := facts4 dk1
  have dl : (w.heap.size + 1) < w1.heap.size := (Array.getElem?_eq_some_iff.1 dk1).1
  cases hra : rightOf ⟨v, f, n, b⟩ with
  | false =>
    clear HRX HRY HXY HXX HWB HAB LW LA LP LS
    go_wp2_with fail
    refine (awake_any _).mono ?_
    rintro e w2 ⟨rfl, hb2⟩
    have HB2 := mkHid (HB1.out.trans (hb2.mono HB1.out.size))
    clear hb2
    go_wp2_with fail
    go_ret
    exact ⟨rfl, HB2.out⟩
  | true =>
    have HRA := mkHid hra
    clear hra
    go_wp2_with fail
    refine (HRY.out _).mono ?_
    rintro e w2 ⟨rfl, hb2⟩
    have HB2 := mkHid (HB1.out.trans (hb2.mono HB1.out.size))
    have ak2 : w2.heap[w.heap.size]? = some (.cells #[.int .i64 v, .int .i64 f, .int .i64 n, .bool b] 23 (0, 0)) := (hb2.block _ al).trans ak1
    have dk2 : w2.heap[(w.heap.size + 1)]? = some (.cells #[.int .i64 v', .int .i64 f', .int .i64 n', .bool b'] 23 (0, 0)) := (hb2.block _ dl).trans dk1
    clear hb2 ac0 ac1 ac2 ac3 al ak1 dc0 dc1 dc2 dc3 dl dk1
    obtain ⟨ac0, ac1, ac2, ac3⟩ := facts4 ak2
    have al : w.heap.size < w2.heap.size := (Array.getElem?_eq_some_iff.1 ak2).1
    obtain ⟨dc0, dc1, dc2, dc3⟩ := facts4 dk2
    have dl : (w.heap.size + 1) < w2.heap.size := (Array.getElem?_eq_some_iff.1 dk2).1
    cases hrb : rightOf ⟨v', f', n', b'⟩ with
    | false =>
      clear HRX HRY HXY HXX HWB HAB LW LA LP LS
      go_wp2_with fail
      refine (awake_any _).mono ?_
      rintro e w3 ⟨rfl, hb3⟩
      have HB3 := mkHid (HB2.out.trans (hb3.mono HB2.out.size))
      clear hb3
      go_wp2_with fail
      go_ret
      exact ⟨rfl, HB3.out⟩
    | true =>
      have HRB := mkHid hrb
      have hpa := of_decide_eq_true hrb
      have hpb := of_decide_eq_true HRA.out
      simp only at hpa hpb
      obtain ⟨pa, -⟩ := hpa
      obtain ⟨pb, -⟩ := hpb
      clear hrb
      have LA2 := mkHid (LA.out HRA.out HRB.out)
      have LS2 := mkHid (LS.out HRA.out)
      rw [LA2.out] at HAB
      rw [LS2.out] at HXX
      clear HRX HRY LA LS
      cases b with
      | true =>
        have hbb : (b' != b') = false := by simp
        rw [show (true || b') = true from rfl] at HAB
        by_cases hv1 : v ≤ 0
        · have hv2 := hv1
          go_wp2_with fail
          generalize hW : (w2.alloc (.cells #[.int .i64 v, .int .i64 0, .int .i64 0, .bool true] 24)).alloc (.cells #[.int .i64 0, .int .i64 0, .int .i64 0, .bool true] 24) = w3
          have HB3 := mkHid (show Below w.heap.size w w3 from hW ▸ (HB2.out.alloc HB2.out.size _).alloc (by have := HB2.out.size; simp; omega) _)
          have hs3 : w3.heap.size = w2.heap.size + 2 := by rw [← hW]; simp
          have wk3 : w3.heap[w2.heap.size]? = some (.cells #[.int .i64 v, .int .i64 0, .int .i64 0, .bool true] 24 (0, 0)) := hW ▸ (Below.heap_alloc _ _ _ (by simp)).trans (heap_alloc_new w2 _)
          have uk3 : w3.heap[w2.heap.size + 1]? = some (.cells #[.int .i64 0, .int .i64 0, .int .i64 0, .bool true] 24 (0, 0)) := hW ▸ heap_alloc2_new w2 _ _
          have ak3 : w3.heap[w.heap.size]? = some (.cells #[.int .i64 v, .int .i64 f, .int .i64 n, .bool true] 23 (0, 0)) := hW ▸ ((Below.heap_alloc _ _ _ (by simp; omega)).trans (Below.heap_alloc _ _ _ al)).trans ak2
          have dk3 : w3.heap[w.heap.size + 1]? = some (.cells #[.int .i64 v', .int .i64 f', .int .i64 n', .bool b'] 23 (0, 0)) := hW ▸ ((Below.heap_alloc _ _ _ (by simp; omega)).trans (Below.heap_alloc _ _ _ dl)).trans dk2
          clear hW ac0 ac1 ac2 ac3 al ak2 dc0 dc1 dc2 dc3 dl dk2
          obtain ⟨ac0, ac1, ac2, ac3⟩ := facts4 ak3
          have al : w.heap.size < w3.heap.size := (Array.getElem?_eq_some_iff.1 ak3).1
          obtain ⟨dc0, dc1, dc2, dc3⟩ := facts4 dk3
          have dl : (w.heap.size + 1) < w3.heap.size := (Array.getElem?_eq_some_iff.1 dk3).1
          obtain ⟨uc0, uc1, uc2, uc3⟩ := facts4 uk3
          have ul : (w2.heap.size + 1) < w3.heap.size := (Array.getElem?_eq_some_iff.1 uk3).1
          refine (HAB.out _).mono ?_
          rintro e w4 ⟨rfl, hb4⟩
          have HB4 := mkHid (HB3.out.trans (hb4.mono HB3.out.size))
          have ak4 : w4.heap[w.heap.size]? = some (.cells #[.int .i64 v, .int .i64 f, .int .i64 n, .bool true] 23 (0, 0)) := (hb4.block _ al).trans ak3
          have dk4 : w4.heap[(w.heap.size + 1)]? = some (.cells #[.int .i64 v', .int .i64 f', .int .i64 n', .bool b'] 23 (0, 0)) := (hb4.block _ dl).trans dk3
          clear hb4 ac0 ac1 ac2 ac3 al ak3 dc0 dc1 dc2 dc3 dl dk3
          obtain ⟨ac0, ac1, ac2, ac3⟩ := facts4 ak4
          have al : w.heap.size < w4.heap.size := (Array.getElem?_eq_some_iff.1 ak4).1
          obtain ⟨dc0, dc1, dc2, dc3⟩ := facts4 dk4
          have dl : (w.heap.size + 1) < w4.heap.size := (Array.getElem?_eq_some_iff.1 dk4).1
          have hsl : ∀ s : World, (∀ q, q < w4.heap.size + 1 → s.heap[q]? = (w4.alloc (.cells #[.int .i64 v, .int .i64 f, .int .i64 n, .bool true] 24)).heap[q]?) → (s.cell? ⟨w4.heap.size, 0, none⟩ = some (.int .i64 v) ∧ s.cell? ⟨w4.heap.size, 1, none⟩ = some (.int .i64 f) ∧ s.cell? ⟨w4.heap.size, 2, none⟩ = some (.int .i64 n) ∧ s.cell? ⟨w4.heap.size, 3, none⟩ = some (.bool true)) ∧ s.cell? ⟨w.heap.size, 3, none⟩ = some (.bool true) := fun s hs => by
            have h1 := (hs w4.heap.size (by omega)).trans (heap_alloc_new w4 _)
            have h2 := ((hs w.heap.size (by omega)).trans (Below.heap_alloc _ _ _ al)).trans ak4
            exact ⟨facts4 h1, (facts4 h2).2.2.2⟩
          have HSL := mkHid hsl
          have HC0 := mkHid (hsl _ fun _ _ => rfl)
          clear hsl
          go_wp2_with fail
          go_region_held3 (fun s => (s.cell? ⟨w4.heap.size, 0, none⟩ = some (.int .i64 v) ∧ s.cell? ⟨w4.heap.size, 1, none⟩ = some (.int .i64 f) ∧ s.cell? ⟨w4.heap.size, 2, none⟩ = some (.int .i64 n) ∧ s.cell? ⟨w4.heap.size, 3, none⟩ = some (.bool true)) ∧ s.cell? ⟨w.heap.size, 3, none⟩ = some (.bool true)) (first | exact HC0.out | assumption) (first
            | (go_at_call 9; refine (HXX.out _).mono ?_; rintro e wy ⟨rfl, hby⟩; have hpc := HSL.out wy (fun q hq => hby.block q (by simpa [World.drew] using hq)); have HBY := mkHid (((HB4.out.alloc HB4.out.size (.cells #[.int .i64 v, .int .i64 f, .int .i64 n, .bool true] 24)).drew).trans (hby.mono (by have := HB4.out.size; simp [World.drew]; omega))); have hys : w4.heap.size + 1 ≤ wy.heap.size := (by have := hby.size; simpa [World.drew] using this); have HYK := mkHid (show ∀ q, q < w4.heap.size + 1 → wy.heap[q]? = (w4.alloc (.cells #[.int .i64 v, .int .i64 f, .int .i64 n, .bool true] 24)).heap[q]? from fun q hq => hby.block q (by simpa [World.drew] using hq)); clear hby)
            | (go_at_call 11; refine (awake_any _).mono ?_; rintro e wz ⟨rfl, hbz⟩; have hpz := HSL.out wz (fun q hq => (hbz.block q (by omega)).trans (HYK.out q hq)); have HBZ := mkHid (HBY.out.trans (hbz.mono HBY.out.size)); clear hbz))
          go_wp2
          go_ret
          exact ⟨rfl, HBZ.out⟩
        by_cases hv1 : 0 < v ∧ v = v'
        · obtain ⟨hv1, rfl⟩ := hv1
          have hvv : (v == v) = true := by simp
          have hvn : (v != v) = false := by simp
          rw [LW.out HRA.out HRB.out rfl] at HWB
          rw [show (true || b') = true from rfl] at HWB
          go_wp2_with fail
          generalize hW : (w2.alloc (.cells #[.int .i64 v, .int .i64 0, .int .i64 0, .bool true] 24)).alloc (.cells #[.int .i64 0, .int .i64 0, .int .i64 0, .bool true] 24) = w3
          have HB3 := mkHid (show Below w.heap.size w w3 from hW ▸ (HB2.out.alloc HB2.out.size _).alloc (by have := HB2.out.size; simp; omega) _)
          have hs3 : w3.heap.size = w2.heap.size + 2 := by rw [← hW]; simp
          have wk3 : w3.heap[w2.heap.size]? = some (.cells #[.int .i64 v, .int .i64 0, .int .i64 0, .bool true] 24 (0, 0)) := hW ▸ (Below.heap_alloc _ _ _ (by simp)).trans (heap_alloc_new w2 _)
          have uk3 : w3.heap[w2.heap.size + 1]? = some (.cells #[.int .i64 0, .int .i64 0, .int .i64 0, .bool true] 24 (0, 0)) := hW ▸ heap_alloc2_new w2 _ _
          have ak3 : w3.heap[w.heap.size]? = some (.cells #[.int .i64 v, .int .i64 f, .int .i64 n, .bool true] 23 (0, 0)) := hW ▸ ((Below.heap_alloc _ _ _ (by simp; omega)).trans (Below.heap_alloc _ _ _ al)).trans ak2
          have dk3 : w3.heap[w.heap.size + 1]? = some (.cells #[.int .i64 v, .int .i64 f', .int .i64 n', .bool b'] 23 (0, 0)) := hW ▸ ((Below.heap_alloc _ _ _ (by simp; omega)).trans (Below.heap_alloc _ _ _ dl)).trans dk2
          clear hW ac0 ac1 ac2 ac3 al ak2 dc0 dc1 dc2 dc3 dl dk2
          obtain ⟨ac0, ac1, ac2, ac3⟩ := facts4 ak3
          have al : w.heap.size < w3.heap.size := (Array.getElem?_eq_some_iff.1 ak3).1
          obtain ⟨dc0, dc1, dc2, dc3⟩ := facts4 dk3
          have dl : (w.heap.size + 1) < w3.heap.size := (Array.getElem?_eq_some_iff.1 dk3).1
          obtain ⟨uc0, uc1, uc2, uc3⟩ := facts4 uk3
          have ul : (w2.heap.size + 1) < w3.heap.size := (Array.getElem?_eq_some_iff.1 uk3).1
          refine (HWB.out _).mono ?_
          rintro e w4 ⟨rfl, hb4⟩
          have HB4 := mkHid (HB3.out.trans (hb4.mono HB3.out.size))
          have ak4 : w4.heap[w.heap.size]? = some (.cells #[.int .i64 v, .int .i64 f, .int .i64 n, .bool true] 23 (0, 0)) := (hb4.block _ al).trans ak3
          have dk4 : w4.heap[(w.heap.size + 1)]? = some (.cells #[.int .i64 v, .int .i64 f', .int .i64 n', .bool b'] 23 (0, 0)) := (hb4.block _ dl).trans dk3
          have uk4 : w4.heap[(w2.heap.size + 1)]? = some (.cells #[.int .i64 0, .int .i64 0, .int .i64 0, .bool true] 24 (0, 0)) := (hb4.block _ ul).trans uk3
          clear hb4 ac0 ac1 ac2 ac3 al ak3 dc0 dc1 dc2 dc3 dl dk3 uc0 uc1 uc2 uc3 ul uk3
          obtain ⟨ac0, ac1, ac2, ac3⟩ := facts4 ak4
          have al : w.heap.size < w4.heap.size := (Array.getElem?_eq_some_iff.1 ak4).1
          obtain ⟨dc0, dc1, dc2, dc3⟩ := facts4 dk4
          have dl : (w.heap.size + 1) < w4.heap.size := (Array.getElem?_eq_some_iff.1 dk4).1
          obtain ⟨uc0, uc1, uc2, uc3⟩ := facts4 uk4
          have ul : (w2.heap.size + 1) < w4.heap.size := (Array.getElem?_eq_some_iff.1 uk4).1
          go_wp2_with fail
          refine (HAB.out _).mono ?_
          rintro e w5 ⟨rfl, hb5⟩
          have HB5 := mkHid (HB4.out.trans (hb5.mono HB4.out.size))
          have ak5 : w5.heap[w.heap.size]? = some (.cells #[.int .i64 v, .int .i64 f, .int .i64 n, .bool true] 23 (0, 0)) := (hb5.block _ al).trans ak4
          have dk5 : w5.heap[(w.heap.size + 1)]? = some (.cells #[.int .i64 v, .int .i64 f', .int .i64 n', .bool b'] 23 (0, 0)) := (hb5.block _ dl).trans dk4
          clear hb5 ac0 ac1 ac2 ac3 al ak4 dc0 dc1 dc2 dc3 dl dk4
          obtain ⟨ac0, ac1, ac2, ac3⟩ := facts4 ak5
          have al : w.heap.size < w5.heap.size := (Array.getElem?_eq_some_iff.1 ak5).1
          obtain ⟨dc0, dc1, dc2, dc3⟩ := facts4 dk5
          have dl : (w.heap.size + 1) < w5.heap.size := (Array.getElem?_eq_some_iff.1 dk5).1
          have hsl : ∀ s : World, (∀ q, q < w5.heap.size + 1 → s.heap[q]? = (w5.alloc (.cells #[.int .i64 v, .int .i64 f, .int .i64 n, .bool true] 24)).heap[q]?) → (s.cell? ⟨w5.heap.size, 0, none⟩ = some (.int .i64 v) ∧ s.cell? ⟨w5.heap.size, 1, none⟩ = some (.int .i64 f) ∧ s.cell? ⟨w5.heap.size, 2, none⟩ = some (.int .i64 n) ∧ s.cell? ⟨w5.heap.size, 3, none⟩ = some (.bool true)) ∧ s.cell? ⟨w.heap.size, 3, none⟩ = some (.bool true) := fun s hs => by
            have h1 := (hs w5.heap.size (by omega)).trans (heap_alloc_new w5 _)
            have h2 := ((hs w.heap.size (by omega)).trans (Below.heap_alloc _ _ _ al)).trans ak5
            exact ⟨facts4 h1, (facts4 h2).2.2.2⟩
          have HSL := mkHid hsl
          have HC0 := mkHid (hsl _ fun _ _ => rfl)
          clear hsl
          go_wp2_with fail
          go_region_held3 (fun s => (s.cell? ⟨w5.heap.size, 0, none⟩ = some (.int .i64 v) ∧ s.cell? ⟨w5.heap.size, 1, none⟩ = some (.int .i64 f) ∧ s.cell? ⟨w5.heap.size, 2, none⟩ = some (.int .i64 n) ∧ s.cell? ⟨w5.heap.size, 3, none⟩ = some (.bool true)) ∧ s.cell? ⟨w.heap.size, 3, none⟩ = some (.bool true)) (first | exact HC0.out | assumption) (first
            | (go_at_call 9; refine (HXX.out _).mono ?_; rintro e wy ⟨rfl, hby⟩; have hpc := HSL.out wy (fun q hq => hby.block q (by simpa [World.drew] using hq)); have HBY := mkHid (((HB5.out.alloc HB5.out.size (.cells #[.int .i64 v, .int .i64 f, .int .i64 n, .bool true] 24)).drew).trans (hby.mono (by have := HB5.out.size; simp [World.drew]; omega))); have hys : w5.heap.size + 1 ≤ wy.heap.size := (by have := hby.size; simpa [World.drew] using this); have HYK := mkHid (show ∀ q, q < w5.heap.size + 1 → wy.heap[q]? = (w5.alloc (.cells #[.int .i64 v, .int .i64 f, .int .i64 n, .bool true] 24)).heap[q]? from fun q hq => hby.block q (by simpa [World.drew] using hq)); clear hby)
            | (go_at_call 11; refine (awake_any _).mono ?_; rintro e wz ⟨rfl, hbz⟩; have hpz := HSL.out wz (fun q hq => (hbz.block q (by omega)).trans (HYK.out q hq)); have HBZ := mkHid (HBY.out.trans (hbz.mono HBY.out.size)); clear hbz))
          go_wp2
          go_ret
          exact ⟨rfl, HBZ.out⟩
        by_cases hv1 : 0 < v ∧ v' = 0
        · obtain ⟨hv1, rfl⟩ := hv1
          have hvv : (v == 0) = false := by simp; omega
          go_wp2_with fail
          generalize hW : (w2.alloc (.cells #[.int .i64 v, .int .i64 0, .int .i64 0, .bool true] 24)).alloc (.cells #[.int .i64 0, .int .i64 0, .int .i64 0, .bool true] 24) = w3
          have HB3 := mkHid (show Below w.heap.size w w3 from hW ▸ (HB2.out.alloc HB2.out.size _).alloc (by have := HB2.out.size; simp; omega) _)
          have hs3 : w3.heap.size = w2.heap.size + 2 := by rw [← hW]; simp
          have wk3 : w3.heap[w2.heap.size]? = some (.cells #[.int .i64 v, .int .i64 0, .int .i64 0, .bool true] 24 (0, 0)) := hW ▸ (Below.heap_alloc _ _ _ (by simp)).trans (heap_alloc_new w2 _)
          have uk3 : w3.heap[w2.heap.size + 1]? = some (.cells #[.int .i64 0, .int .i64 0, .int .i64 0, .bool true] 24 (0, 0)) := hW ▸ heap_alloc2_new w2 _ _
          have ak3 : w3.heap[w.heap.size]? = some (.cells #[.int .i64 v, .int .i64 f, .int .i64 n, .bool true] 23 (0, 0)) := hW ▸ ((Below.heap_alloc _ _ _ (by simp; omega)).trans (Below.heap_alloc _ _ _ al)).trans ak2
          have dk3 : w3.heap[w.heap.size + 1]? = some (.cells #[.int .i64 0, .int .i64 f', .int .i64 n', .bool b'] 23 (0, 0)) := hW ▸ ((Below.heap_alloc _ _ _ (by simp; omega)).trans (Below.heap_alloc _ _ _ dl)).trans dk2
          clear hW ac0 ac1 ac2 ac3 al ak2 dc0 dc1 dc2 dc3 dl dk2
          obtain ⟨ac0, ac1, ac2, ac3⟩ := facts4 ak3
          have al : w.heap.size < w3.heap.size := (Array.getElem?_eq_some_iff.1 ak3).1
          obtain ⟨dc0, dc1, dc2, dc3⟩ := facts4 dk3
          have dl : (w.heap.size + 1) < w3.heap.size := (Array.getElem?_eq_some_iff.1 dk3).1
          obtain ⟨uc0, uc1, uc2, uc3⟩ := facts4 uk3
          have ul : (w2.heap.size + 1) < w3.heap.size := (Array.getElem?_eq_some_iff.1 uk3).1
          refine (HAB.out _).mono ?_
          rintro e w4 ⟨rfl, hb4⟩
          have HB4 := mkHid (HB3.out.trans (hb4.mono HB3.out.size))
          have ak4 : w4.heap[w.heap.size]? = some (.cells #[.int .i64 v, .int .i64 f, .int .i64 n, .bool true] 23 (0, 0)) := (hb4.block _ al).trans ak3
          have dk4 : w4.heap[(w.heap.size + 1)]? = some (.cells #[.int .i64 0, .int .i64 f', .int .i64 n', .bool b'] 23 (0, 0)) := (hb4.block _ dl).trans dk3
          clear hb4 ac0 ac1 ac2 ac3 al ak3 dc0 dc1 dc2 dc3 dl dk3
          obtain ⟨ac0, ac1, ac2, ac3⟩ := facts4 ak4
          have al : w.heap.size < w4.heap.size := (Array.getElem?_eq_some_iff.1 ak4).1
          obtain ⟨dc0, dc1, dc2, dc3⟩ := facts4 dk4
          have dl : (w.heap.size + 1) < w4.heap.size := (Array.getElem?_eq_some_iff.1 dk4).1
          have hsl : ∀ s : World, (∀ q, q < w4.heap.size + 1 → s.heap[q]? = (w4.alloc (.cells #[.int .i64 v, .int .i64 f, .int .i64 n, .bool true] 24)).heap[q]?) → (s.cell? ⟨w4.heap.size, 0, none⟩ = some (.int .i64 v) ∧ s.cell? ⟨w4.heap.size, 1, none⟩ = some (.int .i64 f) ∧ s.cell? ⟨w4.heap.size, 2, none⟩ = some (.int .i64 n) ∧ s.cell? ⟨w4.heap.size, 3, none⟩ = some (.bool true)) ∧ s.cell? ⟨w.heap.size, 3, none⟩ = some (.bool true) := fun s hs => by
            have h1 := (hs w4.heap.size (by omega)).trans (heap_alloc_new w4 _)
            have h2 := ((hs w.heap.size (by omega)).trans (Below.heap_alloc _ _ _ al)).trans ak4
            exact ⟨facts4 h1, (facts4 h2).2.2.2⟩
          have HSL := mkHid hsl
          have HC0 := mkHid (hsl _ fun _ _ => rfl)
          clear hsl
          go_wp2_with fail
          go_region_held3 (fun s => (s.cell? ⟨w4.heap.size, 0, none⟩ = some (.int .i64 v) ∧ s.cell? ⟨w4.heap.size, 1, none⟩ = some (.int .i64 f) ∧ s.cell? ⟨w4.heap.size, 2, none⟩ = some (.int .i64 n) ∧ s.cell? ⟨w4.heap.size, 3, none⟩ = some (.bool true)) ∧ s.cell? ⟨w.heap.size, 3, none⟩ = some (.bool true)) (first | exact HC0.out | assumption) (first
            | (go_at_call 9; refine (HXX.out _).mono ?_; rintro e wy ⟨rfl, hby⟩; have hpc := HSL.out wy (fun q hq => hby.block q (by simpa [World.drew] using hq)); have HBY := mkHid (((HB4.out.alloc HB4.out.size (.cells #[.int .i64 v, .int .i64 f, .int .i64 n, .bool true] 24)).drew).trans (hby.mono (by have := HB4.out.size; simp [World.drew]; omega))); have hys : w4.heap.size + 1 ≤ wy.heap.size := (by have := hby.size; simpa [World.drew] using this); have HYK := mkHid (show ∀ q, q < w4.heap.size + 1 → wy.heap[q]? = (w4.alloc (.cells #[.int .i64 v, .int .i64 f, .int .i64 n, .bool true] 24)).heap[q]? from fun q hq => hby.block q (by simpa [World.drew] using hq)); clear hby)
            | (go_at_call 11; refine (awake_any _).mono ?_; rintro e wz ⟨rfl, hbz⟩; have hpz := HSL.out wz (fun q hq => (hbz.block q (by omega)).trans (HYK.out q hq)); have HBZ := mkHid (HBY.out.trans (hbz.mono HBY.out.size)); clear hbz))
          go_wp2
          go_ret
          exact ⟨rfl, HBZ.out⟩
        have hv1 : 0 < v ∧ 0 < v' ∧ v ≠ v' := by omega
        obtain ⟨hv1, hv2, hv3⟩ := hv1
        have hvv : (v == v') = false := by simpa using hv3
        have hvn : (v != v') = true := by simpa using hv3
        go_wp2_with fail
        generalize hW : (w2.alloc (.cells #[.int .i64 v, .int .i64 0, .int .i64 0, .bool true] 24)).alloc (.cells #[.int .i64 0, .int .i64 0, .int .i64 0, .bool true] 24) = w3
        have HB3 := mkHid (show Below w.heap.size w w3 from hW ▸ (HB2.out.alloc HB2.out.size _).alloc (by have := HB2.out.size; simp; omega) _)
        have hs3 : w3.heap.size = w2.heap.size + 2 := by rw [← hW]; simp
        have wk3 : w3.heap[w2.heap.size]? = some (.cells #[.int .i64 v, .int .i64 0, .int .i64 0, .bool true] 24 (0, 0)) := hW ▸ (Below.heap_alloc _ _ _ (by simp)).trans (heap_alloc_new w2 _)
        have uk3 : w3.heap[w2.heap.size + 1]? = some (.cells #[.int .i64 0, .int .i64 0, .int .i64 0, .bool true] 24 (0, 0)) := hW ▸ heap_alloc2_new w2 _ _
        have ak3 : w3.heap[w.heap.size]? = some (.cells #[.int .i64 v, .int .i64 f, .int .i64 n, .bool true] 23 (0, 0)) := hW ▸ ((Below.heap_alloc _ _ _ (by simp; omega)).trans (Below.heap_alloc _ _ _ al)).trans ak2
        have dk3 : w3.heap[w.heap.size + 1]? = some (.cells #[.int .i64 v', .int .i64 f', .int .i64 n', .bool b'] 23 (0, 0)) := hW ▸ ((Below.heap_alloc _ _ _ (by simp; omega)).trans (Below.heap_alloc _ _ _ dl)).trans dk2
        clear hW ac0 ac1 ac2 ac3 al ak2 dc0 dc1 dc2 dc3 dl dk2
        obtain ⟨ac0, ac1, ac2, ac3⟩ := facts4 ak3
        have al : w.heap.size < w3.heap.size := (Array.getElem?_eq_some_iff.1 ak3).1
        obtain ⟨dc0, dc1, dc2, dc3⟩ := facts4 dk3
        have dl : (w.heap.size + 1) < w3.heap.size := (Array.getElem?_eq_some_iff.1 dk3).1
        obtain ⟨uc0, uc1, uc2, uc3⟩ := facts4 uk3
        have ul : (w2.heap.size + 1) < w3.heap.size := (Array.getElem?_eq_some_iff.1 uk3).1
        refine (HAB.out _).mono ?_
        rintro e w4 ⟨rfl, hb4⟩
        have HB4 := mkHid (HB3.out.trans (hb4.mono HB3.out.size))
        have ak4 : w4.heap[w.heap.size]? = some (.cells #[.int .i64 v, .int .i64 f, .int .i64 n, .bool true] 23 (0, 0)) := (hb4.block _ al).trans ak3
        have dk4 : w4.heap[(w.heap.size + 1)]? = some (.cells #[.int .i64 v', .int .i64 f', .int .i64 n', .bool b'] 23 (0, 0)) := (hb4.block _ dl).trans dk3
        clear hb4 ac0 ac1 ac2 ac3 al ak3 dc0 dc1 dc2 dc3 dl dk3
        obtain ⟨ac0, ac1, ac2, ac3⟩ := facts4 ak4
        have al : w.heap.size < w4.heap.size := (Array.getElem?_eq_some_iff.1 ak4).1
        obtain ⟨dc0, dc1, dc2, dc3⟩ := facts4 dk4
        have dl : (w.heap.size + 1) < w4.heap.size := (Array.getElem?_eq_some_iff.1 dk4).1
        rw [LP.out hv1 hv2 hv3] at HXY
        go_wp2_with fail
        refine (HXY.out _).mono ?_
        rintro e w5 ⟨rfl, hb5⟩
        have HB5 := mkHid (HB4.out.trans (hb5.mono HB4.out.size))
        have ak5 : w5.heap[w.heap.size]? = some (.cells #[.int .i64 v, .int .i64 f, .int .i64 n, .bool true] 23 (0, 0)) := (hb5.block _ al).trans ak4
        have dk5 : w5.heap[(w.heap.size + 1)]? = some (.cells #[.int .i64 v', .int .i64 f', .int .i64 n', .bool b'] 23 (0, 0)) := (hb5.block _ dl).trans dk4
        clear hb5 ac0 ac1 ac2 ac3 al ak4 dc0 dc1 dc2 dc3 dl dk4
        obtain ⟨ac0, ac1, ac2, ac3⟩ := facts4 ak5
        have al : w.heap.size < w5.heap.size := (Array.getElem?_eq_some_iff.1 ak5).1
        obtain ⟨dc0, dc1, dc2, dc3⟩ := facts4 dk5
        have dl : (w.heap.size + 1) < w5.heap.size := (Array.getElem?_eq_some_iff.1 dk5).1
        have hsl : ∀ s : World, (∀ q, q < w5.heap.size + 1 → s.heap[q]? = (w5.alloc (.cells #[.int .i64 v, .int .i64 f, .int .i64 n, .bool true] 24)).heap[q]?) → (s.cell? ⟨w5.heap.size, 0, none⟩ = some (.int .i64 v) ∧ s.cell? ⟨w5.heap.size, 1, none⟩ = some (.int .i64 f) ∧ s.cell? ⟨w5.heap.size, 2, none⟩ = some (.int .i64 n) ∧ s.cell? ⟨w5.heap.size, 3, none⟩ = some (.bool true)) ∧ s.cell? ⟨w.heap.size, 3, none⟩ = some (.bool true) := fun s hs => by
          have h1 := (hs w5.heap.size (by omega)).trans (heap_alloc_new w5 _)
          have h2 := ((hs w.heap.size (by omega)).trans (Below.heap_alloc _ _ _ al)).trans ak5
          exact ⟨facts4 h1, (facts4 h2).2.2.2⟩
        have HSL := mkHid hsl
        have HC0 := mkHid (hsl _ fun _ _ => rfl)
        clear hsl
        go_wp2_with fail
        go_region_held3 (fun s => (s.cell? ⟨w5.heap.size, 0, none⟩ = some (.int .i64 v) ∧ s.cell? ⟨w5.heap.size, 1, none⟩ = some (.int .i64 f) ∧ s.cell? ⟨w5.heap.size, 2, none⟩ = some (.int .i64 n) ∧ s.cell? ⟨w5.heap.size, 3, none⟩ = some (.bool true)) ∧ s.cell? ⟨w.heap.size, 3, none⟩ = some (.bool true)) (first | exact HC0.out | assumption) (first
          | (go_at_call 9; refine (HXX.out _).mono ?_; rintro e wy ⟨rfl, hby⟩; have hpc := HSL.out wy (fun q hq => hby.block q (by simpa [World.drew] using hq)); have HBY := mkHid (((HB5.out.alloc HB5.out.size (.cells #[.int .i64 v, .int .i64 f, .int .i64 n, .bool true] 24)).drew).trans (hby.mono (by have := HB5.out.size; simp [World.drew]; omega))); have hys : w5.heap.size + 1 ≤ wy.heap.size := (by have := hby.size; simpa [World.drew] using this); have HYK := mkHid (show ∀ q, q < w5.heap.size + 1 → wy.heap[q]? = (w5.alloc (.cells #[.int .i64 v, .int .i64 f, .int .i64 n, .bool true] 24)).heap[q]? from fun q hq => hby.block q (by simpa [World.drew] using hq)); clear hby)
          | (go_at_call 11; refine (awake_any _).mono ?_; rintro e wz ⟨rfl, hbz⟩; have hpz := HSL.out wz (fun q hq => (hbz.block q (by omega)).trans (HYK.out q hq)); have HBZ := mkHid (HBY.out.trans (hbz.mono HBY.out.size)); clear hbz))
        go_wp2
        go_ret
        exact ⟨rfl, HBZ.out⟩
      | false =>
        have hbb : (b' != b') = false := by simp
        rw [show (false || b') = b' from rfl] at HAB
        by_cases hv1 : v ≤ 0
        · have hv2 := hv1
          go_wp2_with fail
          generalize hW : (w2.alloc (.cells #[.int .i64 v, .int .i64 0, .int .i64 0, .bool false] 24)).alloc (.cells #[.int .i64 0, .int .i64 0, .int .i64 0, .bool false] 24) = w3
          have HB3 := mkHid (show Below w.heap.size w w3 from hW ▸ (HB2.out.alloc HB2.out.size _).alloc (by have := HB2.out.size; simp; omega) _)
          have hs3 : w3.heap.size = w2.heap.size + 2 := by rw [← hW]; simp
          have wk3 : w3.heap[w2.heap.size]? = some (.cells #[.int .i64 v, .int .i64 0, .int .i64 0, .bool false] 24 (0, 0)) := hW ▸ (Below.heap_alloc _ _ _ (by simp)).trans (heap_alloc_new w2 _)
          have uk3 : w3.heap[w2.heap.size + 1]? = some (.cells #[.int .i64 0, .int .i64 0, .int .i64 0, .bool false] 24 (0, 0)) := hW ▸ heap_alloc2_new w2 _ _
          have ak3 : w3.heap[w.heap.size]? = some (.cells #[.int .i64 v, .int .i64 f, .int .i64 n, .bool false] 23 (0, 0)) := hW ▸ ((Below.heap_alloc _ _ _ (by simp; omega)).trans (Below.heap_alloc _ _ _ al)).trans ak2
          have dk3 : w3.heap[w.heap.size + 1]? = some (.cells #[.int .i64 v', .int .i64 f', .int .i64 n', .bool b'] 23 (0, 0)) := hW ▸ ((Below.heap_alloc _ _ _ (by simp; omega)).trans (Below.heap_alloc _ _ _ dl)).trans dk2
          clear hW ac0 ac1 ac2 ac3 al ak2 dc0 dc1 dc2 dc3 dl dk2
          obtain ⟨ac0, ac1, ac2, ac3⟩ := facts4 ak3
          have al : w.heap.size < w3.heap.size := (Array.getElem?_eq_some_iff.1 ak3).1
          obtain ⟨dc0, dc1, dc2, dc3⟩ := facts4 dk3
          have dl : (w.heap.size + 1) < w3.heap.size := (Array.getElem?_eq_some_iff.1 dk3).1
          obtain ⟨uc0, uc1, uc2, uc3⟩ := facts4 uk3
          have ul : (w2.heap.size + 1) < w3.heap.size := (Array.getElem?_eq_some_iff.1 uk3).1
          refine (HAB.out _).mono ?_
          rintro e w4 ⟨rfl, hb4⟩
          have HB4 := mkHid (HB3.out.trans (hb4.mono HB3.out.size))
          have ak4 : w4.heap[w.heap.size]? = some (.cells #[.int .i64 v, .int .i64 f, .int .i64 n, .bool false] 23 (0, 0)) := (hb4.block _ al).trans ak3
          have dk4 : w4.heap[(w.heap.size + 1)]? = some (.cells #[.int .i64 v', .int .i64 f', .int .i64 n', .bool b'] 23 (0, 0)) := (hb4.block _ dl).trans dk3
          clear hb4 ac0 ac1 ac2 ac3 al ak3 dc0 dc1 dc2 dc3 dl dk3
          obtain ⟨ac0, ac1, ac2, ac3⟩ := facts4 ak4
          have al : w.heap.size < w4.heap.size := (Array.getElem?_eq_some_iff.1 ak4).1
          obtain ⟨dc0, dc1, dc2, dc3⟩ := facts4 dk4
          have dl : (w.heap.size + 1) < w4.heap.size := (Array.getElem?_eq_some_iff.1 dk4).1
          have hsl : ∀ s : World, (∀ q, q < w4.heap.size + 1 → s.heap[q]? = (w4.alloc (.cells #[.int .i64 v, .int .i64 f, .int .i64 n, .bool false] 24)).heap[q]?) → (s.cell? ⟨w4.heap.size, 0, none⟩ = some (.int .i64 v) ∧ s.cell? ⟨w4.heap.size, 1, none⟩ = some (.int .i64 f) ∧ s.cell? ⟨w4.heap.size, 2, none⟩ = some (.int .i64 n) ∧ s.cell? ⟨w4.heap.size, 3, none⟩ = some (.bool false)) ∧ s.cell? ⟨w.heap.size, 3, none⟩ = some (.bool false) := fun s hs => by
            have h1 := (hs w4.heap.size (by omega)).trans (heap_alloc_new w4 _)
            have h2 := ((hs w.heap.size (by omega)).trans (Below.heap_alloc _ _ _ al)).trans ak4
            exact ⟨facts4 h1, (facts4 h2).2.2.2⟩
          have HSL := mkHid hsl
          have HC0 := mkHid (hsl _ fun _ _ => rfl)
          clear hsl
          go_wp2_with fail
          go_region_held3 (fun s => (s.cell? ⟨w4.heap.size, 0, none⟩ = some (.int .i64 v) ∧ s.cell? ⟨w4.heap.size, 1, none⟩ = some (.int .i64 f) ∧ s.cell? ⟨w4.heap.size, 2, none⟩ = some (.int .i64 n) ∧ s.cell? ⟨w4.heap.size, 3, none⟩ = some (.bool false)) ∧ s.cell? ⟨w.heap.size, 3, none⟩ = some (.bool false)) (first | exact HC0.out | assumption) (first
            | (go_at_call 9; refine (HXX.out _).mono ?_; rintro e wy ⟨rfl, hby⟩; have hpc := HSL.out wy (fun q hq => hby.block q (by simpa [World.drew] using hq)); have HBY := mkHid (((HB4.out.alloc HB4.out.size (.cells #[.int .i64 v, .int .i64 f, .int .i64 n, .bool false] 24)).drew).trans (hby.mono (by have := HB4.out.size; simp [World.drew]; omega))); have hys : w4.heap.size + 1 ≤ wy.heap.size := (by have := hby.size; simpa [World.drew] using this); have HYK := mkHid (show ∀ q, q < w4.heap.size + 1 → wy.heap[q]? = (w4.alloc (.cells #[.int .i64 v, .int .i64 f, .int .i64 n, .bool false] 24)).heap[q]? from fun q hq => hby.block q (by simpa [World.drew] using hq)); clear hby)
            | (go_at_call 11; refine (awake_any _).mono ?_; rintro e wz ⟨rfl, hbz⟩; have hpz := HSL.out wz (fun q hq => (hbz.block q (by omega)).trans (HYK.out q hq)); have HBZ := mkHid (HBY.out.trans (hbz.mono HBY.out.size)); clear hbz))
          go_wp2
          go_ret
          exact ⟨rfl, HBZ.out⟩
        by_cases hv1 : 0 < v ∧ v = v'
        · obtain ⟨hv1, rfl⟩ := hv1
          have hvv : (v == v) = true := by simp
          have hvn : (v != v) = false := by simp
          rw [LW.out HRA.out HRB.out rfl] at HWB
          rw [show (false || b') = b' from rfl] at HWB
          go_wp2_with fail
          generalize hW : (w2.alloc (.cells #[.int .i64 v, .int .i64 0, .int .i64 0, .bool false] 24)).alloc (.cells #[.int .i64 0, .int .i64 0, .int .i64 0, .bool false] 24) = w3
          have HB3 := mkHid (show Below w.heap.size w w3 from hW ▸ (HB2.out.alloc HB2.out.size _).alloc (by have := HB2.out.size; simp; omega) _)
          have hs3 : w3.heap.size = w2.heap.size + 2 := by rw [← hW]; simp
          have wk3 : w3.heap[w2.heap.size]? = some (.cells #[.int .i64 v, .int .i64 0, .int .i64 0, .bool false] 24 (0, 0)) := hW ▸ (Below.heap_alloc _ _ _ (by simp)).trans (heap_alloc_new w2 _)
          have uk3 : w3.heap[w2.heap.size + 1]? = some (.cells #[.int .i64 0, .int .i64 0, .int .i64 0, .bool false] 24 (0, 0)) := hW ▸ heap_alloc2_new w2 _ _
          have ak3 : w3.heap[w.heap.size]? = some (.cells #[.int .i64 v, .int .i64 f, .int .i64 n, .bool false] 23 (0, 0)) := hW ▸ ((Below.heap_alloc _ _ _ (by simp; omega)).trans (Below.heap_alloc _ _ _ al)).trans ak2
          have dk3 : w3.heap[w.heap.size + 1]? = some (.cells #[.int .i64 v, .int .i64 f', .int .i64 n', .bool b'] 23 (0, 0)) := hW ▸ ((Below.heap_alloc _ _ _ (by simp; omega)).trans (Below.heap_alloc _ _ _ dl)).trans dk2
          clear hW ac0 ac1 ac2 ac3 al ak2 dc0 dc1 dc2 dc3 dl dk2
          obtain ⟨ac0, ac1, ac2, ac3⟩ := facts4 ak3
          have al : w.heap.size < w3.heap.size := (Array.getElem?_eq_some_iff.1 ak3).1
          obtain ⟨dc0, dc1, dc2, dc3⟩ := facts4 dk3
          have dl : (w.heap.size + 1) < w3.heap.size := (Array.getElem?_eq_some_iff.1 dk3).1
          obtain ⟨uc0, uc1, uc2, uc3⟩ := facts4 uk3
          have ul : (w2.heap.size + 1) < w3.heap.size := (Array.getElem?_eq_some_iff.1 uk3).1
          refine (HWB.out _).mono ?_
          rintro e w4 ⟨rfl, hb4⟩
          have HB4 := mkHid (HB3.out.trans (hb4.mono HB3.out.size))
          have ak4 : w4.heap[w.heap.size]? = some (.cells #[.int .i64 v, .int .i64 f, .int .i64 n, .bool false] 23 (0, 0)) := (hb4.block _ al).trans ak3
          have dk4 : w4.heap[(w.heap.size + 1)]? = some (.cells #[.int .i64 v, .int .i64 f', .int .i64 n', .bool b'] 23 (0, 0)) := (hb4.block _ dl).trans dk3
          have uk4 : w4.heap[(w2.heap.size + 1)]? = some (.cells #[.int .i64 0, .int .i64 0, .int .i64 0, .bool false] 24 (0, 0)) := (hb4.block _ ul).trans uk3
          clear hb4 ac0 ac1 ac2 ac3 al ak3 dc0 dc1 dc2 dc3 dl dk3 uc0 uc1 uc2 uc3 ul uk3
          obtain ⟨ac0, ac1, ac2, ac3⟩ := facts4 ak4
          have al : w.heap.size < w4.heap.size := (Array.getElem?_eq_some_iff.1 ak4).1
          obtain ⟨dc0, dc1, dc2, dc3⟩ := facts4 dk4
          have dl : (w.heap.size + 1) < w4.heap.size := (Array.getElem?_eq_some_iff.1 dk4).1
          obtain ⟨uc0, uc1, uc2, uc3⟩ := facts4 uk4
          have ul : (w2.heap.size + 1) < w4.heap.size := (Array.getElem?_eq_some_iff.1 uk4).1
          go_wp2_with fail
          refine (HAB.out _).mono ?_
          rintro e w5 ⟨rfl, hb5⟩
          have HB5 := mkHid (HB4.out.trans (hb5.mono HB4.out.size))
          have ak5 : w5.heap[w.heap.size]? = some (.cells #[.int .i64 v, .int .i64 f, .int .i64 n, .bool false] 23 (0, 0)) := (hb5.block _ al).trans ak4
          have dk5 : w5.heap[(w.heap.size + 1)]? = some (.cells #[.int .i64 v, .int .i64 f', .int .i64 n', .bool b'] 23 (0, 0)) := (hb5.block _ dl).trans dk4
          clear hb5 ac0 ac1 ac2 ac3 al ak4 dc0 dc1 dc2 dc3 dl dk4
          obtain ⟨ac0, ac1, ac2, ac3⟩ := facts4 ak5
          have al : w.heap.size < w5.heap.size := (Array.getElem?_eq_some_iff.1 ak5).1
          obtain ⟨dc0, dc1, dc2, dc3⟩ := facts4 dk5
          have dl : (w.heap.size + 1) < w5.heap.size := (Array.getElem?_eq_some_iff.1 dk5).1
          have hsl : ∀ s : World, (∀ q, q < w5.heap.size + 1 → s.heap[q]? = (w5.alloc (.cells #[.int .i64 v, .int .i64 f, .int .i64 n, .bool false] 24)).heap[q]?) → (s.cell? ⟨w5.heap.size, 0, none⟩ = some (.int .i64 v) ∧ s.cell? ⟨w5.heap.size, 1, none⟩ = some (.int .i64 f) ∧ s.cell? ⟨w5.heap.size, 2, none⟩ = some (.int .i64 n) ∧ s.cell? ⟨w5.heap.size, 3, none⟩ = some (.bool false)) ∧ s.cell? ⟨w.heap.size, 3, none⟩ = some (.bool false) := fun s hs => by
            have h1 := (hs w5.heap.size (by omega)).trans (heap_alloc_new w5 _)
            have h2 := ((hs w.heap.size (by omega)).trans (Below.heap_alloc _ _ _ al)).trans ak5
            exact ⟨facts4 h1, (facts4 h2).2.2.2⟩
          have HSL := mkHid hsl
          have HC0 := mkHid (hsl _ fun _ _ => rfl)
          clear hsl
          go_wp2_with fail
          go_region_held3 (fun s => (s.cell? ⟨w5.heap.size, 0, none⟩ = some (.int .i64 v) ∧ s.cell? ⟨w5.heap.size, 1, none⟩ = some (.int .i64 f) ∧ s.cell? ⟨w5.heap.size, 2, none⟩ = some (.int .i64 n) ∧ s.cell? ⟨w5.heap.size, 3, none⟩ = some (.bool false)) ∧ s.cell? ⟨w.heap.size, 3, none⟩ = some (.bool false)) (first | exact HC0.out | assumption) (first
            | (go_at_call 9; refine (HXX.out _).mono ?_; rintro e wy ⟨rfl, hby⟩; have hpc := HSL.out wy (fun q hq => hby.block q (by simpa [World.drew] using hq)); have HBY := mkHid (((HB5.out.alloc HB5.out.size (.cells #[.int .i64 v, .int .i64 f, .int .i64 n, .bool false] 24)).drew).trans (hby.mono (by have := HB5.out.size; simp [World.drew]; omega))); have hys : w5.heap.size + 1 ≤ wy.heap.size := (by have := hby.size; simpa [World.drew] using this); have HYK := mkHid (show ∀ q, q < w5.heap.size + 1 → wy.heap[q]? = (w5.alloc (.cells #[.int .i64 v, .int .i64 f, .int .i64 n, .bool false] 24)).heap[q]? from fun q hq => hby.block q (by simpa [World.drew] using hq)); clear hby)
            | (go_at_call 11; refine (awake_any _).mono ?_; rintro e wz ⟨rfl, hbz⟩; have hpz := HSL.out wz (fun q hq => (hbz.block q (by omega)).trans (HYK.out q hq)); have HBZ := mkHid (HBY.out.trans (hbz.mono HBY.out.size)); clear hbz))
          go_wp2
          go_ret
          exact ⟨rfl, HBZ.out⟩
        by_cases hv1 : 0 < v ∧ v' = 0
        · obtain ⟨hv1, rfl⟩ := hv1
          have hvv : (v == 0) = false := by simp; omega
          go_wp2_with fail
          generalize hW : (w2.alloc (.cells #[.int .i64 v, .int .i64 0, .int .i64 0, .bool false] 24)).alloc (.cells #[.int .i64 0, .int .i64 0, .int .i64 0, .bool false] 24) = w3
          have HB3 := mkHid (show Below w.heap.size w w3 from hW ▸ (HB2.out.alloc HB2.out.size _).alloc (by have := HB2.out.size; simp; omega) _)
          have hs3 : w3.heap.size = w2.heap.size + 2 := by rw [← hW]; simp
          have wk3 : w3.heap[w2.heap.size]? = some (.cells #[.int .i64 v, .int .i64 0, .int .i64 0, .bool false] 24 (0, 0)) := hW ▸ (Below.heap_alloc _ _ _ (by simp)).trans (heap_alloc_new w2 _)
          have uk3 : w3.heap[w2.heap.size + 1]? = some (.cells #[.int .i64 0, .int .i64 0, .int .i64 0, .bool false] 24 (0, 0)) := hW ▸ heap_alloc2_new w2 _ _
          have ak3 : w3.heap[w.heap.size]? = some (.cells #[.int .i64 v, .int .i64 f, .int .i64 n, .bool false] 23 (0, 0)) := hW ▸ ((Below.heap_alloc _ _ _ (by simp; omega)).trans (Below.heap_alloc _ _ _ al)).trans ak2
          have dk3 : w3.heap[w.heap.size + 1]? = some (.cells #[.int .i64 0, .int .i64 f', .int .i64 n', .bool b'] 23 (0, 0)) := hW ▸ ((Below.heap_alloc _ _ _ (by simp; omega)).trans (Below.heap_alloc _ _ _ dl)).trans dk2
          clear hW ac0 ac1 ac2 ac3 al ak2 dc0 dc1 dc2 dc3 dl dk2
          obtain ⟨ac0, ac1, ac2, ac3⟩ := facts4 ak3
          have al : w.heap.size < w3.heap.size := (Array.getElem?_eq_some_iff.1 ak3).1
          obtain ⟨dc0, dc1, dc2, dc3⟩ := facts4 dk3
          have dl : (w.heap.size + 1) < w3.heap.size := (Array.getElem?_eq_some_iff.1 dk3).1
          obtain ⟨uc0, uc1, uc2, uc3⟩ := facts4 uk3
          have ul : (w2.heap.size + 1) < w3.heap.size := (Array.getElem?_eq_some_iff.1 uk3).1
          refine (HAB.out _).mono ?_
          rintro e w4 ⟨rfl, hb4⟩
          have HB4 := mkHid (HB3.out.trans (hb4.mono HB3.out.size))
          have ak4 : w4.heap[w.heap.size]? = some (.cells #[.int .i64 v, .int .i64 f, .int .i64 n, .bool false] 23 (0, 0)) := (hb4.block _ al).trans ak3
          have dk4 : w4.heap[(w.heap.size + 1)]? = some (.cells #[.int .i64 0, .int .i64 f', .int .i64 n', .bool b'] 23 (0, 0)) := (hb4.block _ dl).trans dk3
          clear hb4 ac0 ac1 ac2 ac3 al ak3 dc0 dc1 dc2 dc3 dl dk3
          obtain ⟨ac0, ac1, ac2, ac3⟩ := facts4 ak4
          have al : w.heap.size < w4.heap.size := (Array.getElem?_eq_some_iff.1 ak4).1
          obtain ⟨dc0, dc1, dc2, dc3⟩ := facts4 dk4
          have dl : (w.heap.size + 1) < w4.heap.size := (Array.getElem?_eq_some_iff.1 dk4).1
          have hsl : ∀ s : World, (∀ q, q < w4.heap.size + 1 → s.heap[q]? = (w4.alloc (.cells #[.int .i64 v, .int .i64 f, .int .i64 n, .bool false] 24)).heap[q]?) → (s.cell? ⟨w4.heap.size, 0, none⟩ = some (.int .i64 v) ∧ s.cell? ⟨w4.heap.size, 1, none⟩ = some (.int .i64 f) ∧ s.cell? ⟨w4.heap.size, 2, none⟩ = some (.int .i64 n) ∧ s.cell? ⟨w4.heap.size, 3, none⟩ = some (.bool false)) ∧ s.cell? ⟨w.heap.size, 3, none⟩ = some (.bool false) := fun s hs => by
            have h1 := (hs w4.heap.size (by omega)).trans (heap_alloc_new w4 _)
            have h2 := ((hs w.heap.size (by omega)).trans (Below.heap_alloc _ _ _ al)).trans ak4
            exact ⟨facts4 h1, (facts4 h2).2.2.2⟩
          have HSL := mkHid hsl
          have HC0 := mkHid (hsl _ fun _ _ => rfl)
          clear hsl
          go_wp2_with fail
          go_region_held3 (fun s => (s.cell? ⟨w4.heap.size, 0, none⟩ = some (.int .i64 v) ∧ s.cell? ⟨w4.heap.size, 1, none⟩ = some (.int .i64 f) ∧ s.cell? ⟨w4.heap.size, 2, none⟩ = some (.int .i64 n) ∧ s.cell? ⟨w4.heap.size, 3, none⟩ = some (.bool false)) ∧ s.cell? ⟨w.heap.size, 3, none⟩ = some (.bool false)) (first | exact HC0.out | assumption) (first
            | (go_at_call 9; refine (HXX.out _).mono ?_; rintro e wy ⟨rfl, hby⟩; have hpc := HSL.out wy (fun q hq => hby.block q (by simpa [World.drew] using hq)); have HBY := mkHid (((HB4.out.alloc HB4.out.size (.cells #[.int .i64 v, .int .i64 f, .int .i64 n, .bool false] 24)).drew).trans (hby.mono (by have := HB4.out.size; simp [World.drew]; omega))); have hys : w4.heap.size + 1 ≤ wy.heap.size := (by have := hby.size; simpa [World.drew] using this); have HYK := mkHid (show ∀ q, q < w4.heap.size + 1 → wy.heap[q]? = (w4.alloc (.cells #[.int .i64 v, .int .i64 f, .int .i64 n, .bool false] 24)).heap[q]? from fun q hq => hby.block q (by simpa [World.drew] using hq)); clear hby)
            | (go_at_call 11; refine (awake_any _).mono ?_; rintro e wz ⟨rfl, hbz⟩; have hpz := HSL.out wz (fun q hq => (hbz.block q (by omega)).trans (HYK.out q hq)); have HBZ := mkHid (HBY.out.trans (hbz.mono HBY.out.size)); clear hbz))
          go_wp2
          go_ret
          exact ⟨rfl, HBZ.out⟩
        have hv1 : 0 < v ∧ 0 < v' ∧ v ≠ v' := by omega
        obtain ⟨hv1, hv2, hv3⟩ := hv1
        have hvv : (v == v') = false := by simpa using hv3
        have hvn : (v != v') = true := by simpa using hv3
        go_wp2_with fail
        generalize hW : (w2.alloc (.cells #[.int .i64 v, .int .i64 0, .int .i64 0, .bool false] 24)).alloc (.cells #[.int .i64 0, .int .i64 0, .int .i64 0, .bool false] 24) = w3
        have HB3 := mkHid (show Below w.heap.size w w3 from hW ▸ (HB2.out.alloc HB2.out.size _).alloc (by have := HB2.out.size; simp; omega) _)
        have hs3 : w3.heap.size = w2.heap.size + 2 := by rw [← hW]; simp
        have wk3 : w3.heap[w2.heap.size]? = some (.cells #[.int .i64 v, .int .i64 0, .int .i64 0, .bool false] 24 (0, 0)) := hW ▸ (Below.heap_alloc _ _ _ (by simp)).trans (heap_alloc_new w2 _)
        have uk3 : w3.heap[w2.heap.size + 1]? = some (.cells #[.int .i64 0, .int .i64 0, .int .i64 0, .bool false] 24 (0, 0)) := hW ▸ heap_alloc2_new w2 _ _
        have ak3 : w3.heap[w.heap.size]? = some (.cells #[.int .i64 v, .int .i64 f, .int .i64 n, .bool false] 23 (0, 0)) := hW ▸ ((Below.heap_alloc _ _ _ (by simp; omega)).trans (Below.heap_alloc _ _ _ al)).trans ak2
        have dk3 : w3.heap[w.heap.size + 1]? = some (.cells #[.int .i64 v', .int .i64 f', .int .i64 n', .bool b'] 23 (0, 0)) := hW ▸ ((Below.heap_alloc _ _ _ (by simp; omega)).trans (Below.heap_alloc _ _ _ dl)).trans dk2
        clear hW ac0 ac1 ac2 ac3 al ak2 dc0 dc1 dc2 dc3 dl dk2
        obtain ⟨ac0, ac1, ac2, ac3⟩ := facts4 ak3
        have al : w.heap.size < w3.heap.size := (Array.getElem?_eq_some_iff.1 ak3).1
        obtain ⟨dc0, dc1, dc2, dc3⟩ := facts4 dk3
        have dl : (w.heap.size + 1) < w3.heap.size := (Array.getElem?_eq_some_iff.1 dk3).1
        obtain ⟨uc0, uc1, uc2, uc3⟩ := facts4 uk3
        have ul : (w2.heap.size + 1) < w3.heap.size := (Array.getElem?_eq_some_iff.1 uk3).1
        refine (HAB.out _).mono ?_
        rintro e w4 ⟨rfl, hb4⟩
        have HB4 := mkHid (HB3.out.trans (hb4.mono HB3.out.size))
        have ak4 : w4.heap[w.heap.size]? = some (.cells #[.int .i64 v, .int .i64 f, .int .i64 n, .bool false] 23 (0, 0)) := (hb4.block _ al).trans ak3
        have dk4 : w4.heap[(w.heap.size + 1)]? = some (.cells #[.int .i64 v', .int .i64 f', .int .i64 n', .bool b'] 23 (0, 0)) := (hb4.block _ dl).trans dk3
        clear hb4 ac0 ac1 ac2 ac3 al ak3 dc0 dc1 dc2 dc3 dl dk3
        obtain ⟨ac0, ac1, ac2, ac3⟩ := facts4 ak4
        have al : w.heap.size < w4.heap.size := (Array.getElem?_eq_some_iff.1 ak4).1
        obtain ⟨dc0, dc1, dc2, dc3⟩ := facts4 dk4
        have dl : (w.heap.size + 1) < w4.heap.size := (Array.getElem?_eq_some_iff.1 dk4).1
        rw [LP.out hv1 hv2 hv3] at HXY
        go_wp2_with fail
        refine (HXY.out _).mono ?_
        rintro e w5 ⟨rfl, hb5⟩
        have HB5 := mkHid (HB4.out.trans (hb5.mono HB4.out.size))
        have ak5 : w5.heap[w.heap.size]? = some (.cells #[.int .i64 v, .int .i64 f, .int .i64 n, .bool false] 23 (0, 0)) := (hb5.block _ al).trans ak4
        have dk5 : w5.heap[(w.heap.size + 1)]? = some (.cells #[.int .i64 v', .int .i64 f', .int .i64 n', .bool b'] 23 (0, 0)) := (hb5.block _ dl).trans dk4
        clear hb5 ac0 ac1 ac2 ac3 al ak4 dc0 dc1 dc2 dc3 dl dk4
        obtain ⟨ac0, ac1, ac2, ac3⟩ := facts4 ak5
        have al : w.heap.size < w5.heap.size := (Array.getElem?_eq_some_iff.1 ak5).1
        obtain ⟨dc0, dc1, dc2, dc3⟩ := facts4 dk5
        have dl : (w.heap.size + 1) < w5.heap.size := (Array.getElem?_eq_some_iff.1 dk5).1
        have hsl : ∀ s : World, (∀ q, q < w5.heap.size + 1 → s.heap[q]? = (w5.alloc (.cells #[.int .i64 v, .int .i64 f, .int .i64 n, .bool false] 24)).heap[q]?) → (s.cell? ⟨w5.heap.size, 0, none⟩ = some (.int .i64 v) ∧ s.cell? ⟨w5.heap.size, 1, none⟩ = some (.int .i64 f) ∧ s.cell? ⟨w5.heap.size, 2, none⟩ = some (.int .i64 n) ∧ s.cell? ⟨w5.heap.size, 3, none⟩ = some (.bool false)) ∧ s.cell? ⟨w.heap.size, 3, none⟩ = some (.bool false) := fun s hs => by
          have h1 := (hs w5.heap.size (by omega)).trans (heap_alloc_new w5 _)
          have h2 := ((hs w.heap.size (by omega)).trans (Below.heap_alloc _ _ _ al)).trans ak5
          exact ⟨facts4 h1, (facts4 h2).2.2.2⟩
        have HSL := mkHid hsl
        have HC0 := mkHid (hsl _ fun _ _ => rfl)
        clear hsl
        go_wp2_with fail
        go_region_held3 (fun s => (s.cell? ⟨w5.heap.size, 0, none⟩ = some (.int .i64 v) ∧ s.cell? ⟨w5.heap.size, 1, none⟩ = some (.int .i64 f) ∧ s.cell? ⟨w5.heap.size, 2, none⟩ = some (.int .i64 n) ∧ s.cell? ⟨w5.heap.size, 3, none⟩ = some (.bool false)) ∧ s.cell? ⟨w.heap.size, 3, none⟩ = some (.bool false)) (first | exact HC0.out | assumption) (first
          | (go_at_call 9; refine (HXX.out _).mono ?_; rintro e wy ⟨rfl, hby⟩; have hpc := HSL.out wy (fun q hq => hby.block q (by simpa [World.drew] using hq)); have HBY := mkHid (((HB5.out.alloc HB5.out.size (.cells #[.int .i64 v, .int .i64 f, .int .i64 n, .bool false] 24)).drew).trans (hby.mono (by have := HB5.out.size; simp [World.drew]; omega))); have hys : w5.heap.size + 1 ≤ wy.heap.size := (by have := hby.size; simpa [World.drew] using this); have HYK := mkHid (show ∀ q, q < w5.heap.size + 1 → wy.heap[q]? = (w5.alloc (.cells #[.int .i64 v, .int .i64 f, .int .i64 n, .bool false] 24)).heap[q]? from fun q hq => hby.block q (by simpa [World.drew] using hq)); clear hby)
          | (go_at_call 11; refine (awake_any _).mono ?_; rintro e wz ⟨rfl, hbz⟩; have hpz := HSL.out wz (fun q hq => (hbz.block q (by omega)).trans (HYK.out q hq)); have HBZ := mkHid (HBY.out.trans (hbz.mono HBY.out.size)); clear hbz))
        go_wp2
        go_ret
        exact ⟨rfl, HBZ.out⟩

end Go.Proofs.Ytgabjgmimebelaa
