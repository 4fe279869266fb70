/- portagelaw15.spans, entry and portageref15.Apart by contract. -/
import Derived.Test.YtgabjgmimebelaaTabH
import Derived.Test.YtgabjgmimebelaaRefClash
import Derived.Test.YtgabjgmimebelaaLkA
namespace Go.Proofs.Ytgabjgmimebelaa
open Go.RowKit Go.Shelf

set_option maxRecDepth 20000 in
set_option maxHeartbeats 1000000 in
theorem spans_any (a : Option Addr) (n c : Nat) (xs : List Sp) (w : World) (hs : SS w (· < w.heap.size) a n xs) (hn : n ≤ 1000) :
    Calls Try.prog 15 #[.slice a n c] w (RetS w xs) := by
  obtain rfl := hs.1
  have HS := mkHid hs
  clear hs
  go_enter Try.func15, Try.ntmps15
  go_wp2_with fail
  go_loopw [8, 3] (fun i out wr => ∃ (q : Nat) (O : Option Addr) (C : Nat), q ≤ xs.length ∧ i = .int .i64 q ∧ out = .slice O q C ∧ wr.ownsRow w.heap.size 24 4 (.slice O q C) q ((xs.take q).flatMap spC) ∧ Below w.heap.size w wr) (fun i _ _ => xs.length - (intOf i).toNat)
  case atStart => exact ⟨0, none, 0, Nat.zero_le _, rfl, rfl, by simpa using World.ownsRow_nil _ _ _ _, Below.refl _ _⟩
  case round =>
    obtain ⟨q, O, C, hq, rfl, rfl, ho, hb⟩ := hrel
    by_cases hlt : q < xs.length
    · obtain ⟨b, o, x, rfl, hbs, hxq, hok, h0, h1, h2, h3⟩ := HS.out.2 q hlt
      have c0 := (hb.cell (p := ⟨b, o + q * 4, none⟩) hbs).trans h0
      have c1 := (hb.cell (p := ⟨b, o + q * 4 + 1, none⟩) hbs).trans h1
      have c2 := (hb.cell (p := ⟨b, o + q * 4 + 2, none⟩) hbs).trans h2
      have c3 := (hb.cell (p := ⟨b, o + q * 4 + 3, none⟩) hbs).trans h3
      have hsnoc : ((xs.take q).flatMap spC) ++ spC x = (xs.take (q + 1)).flatMap spC := by
        rw [List.take_add_one, hxq]
        simp
      have HSN := mkHid hsnoc
      have HO := mkHid ho
      have HB := mkHid hb
      have hsz := hb.size
      clear hxq hsnoc ho hb hok h0 h1 h2 h3
      go_wp2_with (at_builtin; refine wpList_app _ rfl (.tmp 12) (.tmp 14) _ rfl w.heap.size el_span O q C _ rfl ((HO.out.alloc _).alloc _) (wr.heap.size + 2) (some ⟨wr.heap.size + 1, 0, none⟩) 1 1 (spC x) rfl (SL.of_block (heap_alloc2_new _ _ _) rfl (by omega)) (fun u hu => spC_one [x] u (by simpa using hu)) (by unfold maxLen; omega) (by omega) (by simp; omega) ?_; intro O' C' w3 ho3 hg3 hat3; have HO3 := mkHid ho3; have HG3 := mkHid hg3; clear ho3 hg3 hat3)
      go_roundw
      case rel => exact ⟨q + 1, O', C', by omega, by go_num, rfl, HSN.out ▸ HO3.out, ((HB.out.alloc hsz _).alloc (by simp; omega) _).grown HG3.out (by simp; omega) (own_base HO.out)⟩
      case measure => simp [intOf]; omega
    · obtain rfl : q = xs.length := by omega
      rw [List.take_of_length_le (Nat.le_refl _)] at ho
      have HO := mkHid ho
      have HB := mkHid hb
      clear ho hb
      go_wp2_with fail
      go_ret
      exact ⟨O, C, rfl, HO.out, HB.out⟩

/-- The entry of a number in a list of entries. -/
def entOf (es : List En) (num : Int) : En := (es.find? fun x => x.num == num).getD ⟨0, []⟩
theorem entOf_hit {es : List En} {q : Nat} {e : En} (hq : es[q]? = some e) (hn : ∀ (j : Nat) y, j < q → es[j]? = some y → (y.num == e.num) = false) : entOf es e.num = e := by
  obtain ⟨hl, he⟩ := List.getElem?_eq_some_iff.1 hq
  unfold entOf
  have hf : es.find? (fun x => x.num == e.num) = some e := by
    refine List.find?_eq_some_iff_append.2 ⟨by simp, es.take q, es.drop (q + 1), ?_, fun a ha => ?_⟩
    · rw [← he, List.getElem_cons_drop, List.take_append_drop]
    · obtain ⟨j, hj⟩ := List.getElem?_of_mem ha
      have hjq : j < q := by
        have := (List.getElem?_eq_some_iff.1 hj).1
        rw [List.length_take] at this
        omega
      rw [List.getElem?_take_of_lt hjq] at hj
      rw [hn j a hjq hj]
      rfl
  rw [hf]
  rfl

set_option maxRecDepth 20000 in
set_option maxHeartbeats 1000000 in
theorem entry_any (a : Option Addr) (n c : Nat) (es : List En) (num : Int) (w : World) (hs : ES w (· < w.heap.size) a n es) (hn : n ≤ 1000) (hI : I64 num) :
    Calls Try.prog 20 #[.slice a n c, .int .i64 num] w fun e w' => ∃ p m k, e = .returned (.agg #[.int .i64 (entOf es num).num, .slice p m k]) ∧ CapOk m k ∧ SS w (· < w.heap.size) p m (entOf es num).spans ∧ Below w.heap.size w w' := by
  obtain rfl := hs.1
  have HS := mkHid hs
  clear hs
  go_enter Try.func20, Try.ntmps20
  go_wp2_with fail
  obtain ⟨w1, hw1⟩ : ∃ w1, w.alloc (.cells #[.int .i64 0, .slice none 0 0] 42) = w1 := ⟨_, rfl⟩
  rw [hw1]
  have hw1s : w1.heap.size = w.heap.size + 1 := by rw [← hw1]; simp
  have hw1h : w1.heap[w.heap.size]? = some (.cells #[.int .i64 0, .slice none 0 0] 42 (0, 0)) := by rw [← hw1]; exact heap_alloc_new w _
  have hw1b : Below w.heap.size w w1 := by rw [← hw1]; exact (Below.refl _ _).alloc (Nat.le_refl _) _
  clear hw1
  go_loopw [9] (fun i wr => ∃ q : Nat, q ≤ es.length ∧ i = .int .i64 q ∧ Hid (Below w1.heap.size w1 wr) ∧ Hid (∀ j y, j < q → es[j]? = some y → (y.num == num) = false)) (fun i _ => es.length - (intOf i).toNat)
  case atStart => exact ⟨0, Nat.zero_le _, rfl, mkHid (Below.refl _ _), mkHid fun j _ hj => absurd hj (by omega)⟩
  case round =>
    obtain ⟨q, hq, rfl, HB, HN⟩ := hrel
    have hblk : wr.heap[w.heap.size]? = some (.cells #[.int .i64 0, .slice none 0 0] 42 (0, 0)) := (HB.out.block _ (by omega)).trans hw1h
    have z0 := cell_of_row wr w.heap.size 0 _ _ _ hblk
    have z1 := cell_of_row wr w.heap.size 1 _ _ _ hblk
    simp at z0 z1
    have hszr := HB.out.size
    by_cases hlt : q < es.length
    · obtain ⟨b, o, e, p, m, k, rfl, hbs, hxq, hIe, h0, h1, hc, hss⟩ := HS.out.2 q hlt
      have c0 := ((HB.out.cell (p := ⟨b, o + q * 2, none⟩) (by simp; omega)).trans (hw1b.cell (p := ⟨b, o + q * 2, none⟩) hbs)).trans h0
      have c1 := ((HB.out.cell (p := ⟨b, o + q * 2 + 1, none⟩) (by simp; omega)).trans (hw1b.cell (p := ⟨b, o + q * 2 + 1, none⟩) hbs)).trans h1
      have HX := mkHid hxq
      have HSS := mkHid hss
      clear h0 h1 hxq hss
      by_cases hnum : e.num = num
      · subst hnum
        have hb0 : (wr.alloc (.cells #[.int .i64 e.num, .slice p m k] 42)).heap[w.heap.size]? = some (.cells #[.int .i64 0, .slice none 0 0] 42 (0, 0)) := (Below.heap_alloc _ _ _ (by omega)).trans hblk
        have y0 := cell_of_row _ w.heap.size 0 _ _ _ hb0
        have y1 := cell_of_row _ w.heap.size 1 _ _ _ hb0
        have f0 := frozen_of_row _ w.heap.size 0 _ _ hb0
        have f1 := frozen_of_row _ w.heap.size 1 _ _ hb0
        have hb1 := heap_setCell_same _ w.heap.size 0 _ _ (.int .i64 e.num) hb0
        have hb2 := heap_setCell_same _ w.heap.size 1 _ _ (.slice p m k) hb1
        have y2 := cell_of_row _ w.heap.size 1 _ _ _ hb1
        have f2 := frozen_of_row _ w.heap.size 1 _ _ hb1
        have u0 := cell_of_row _ w.heap.size 0 _ _ _ hb2
        have u1 := cell_of_row _ w.heap.size 1 _ _ _ hb2
        simp at y0 y1 y2 u0 u1
        have HB2 := mkHid hb2
        clear hb0 hb1 hb2 hblk
        go_wp2_with fail
        refine bodyPost_ret (v := .agg #[.int .i64 e.num, .slice p m k]) (by simp [results, Try.results20, go_sem, u0, u1]) rfl ?_
        rw [entOf_hit HX.out HN.out]
        exact ⟨p, m, k, rfl, hc, HSS.out, ((hw1b.trans ((HB.out.alloc hszr _).mono (by omega))).setCell (p := ⟨w.heap.size, 0, none⟩) (Nat.le_refl _) _).setCell (p := ⟨w.heap.size, 1, none⟩) (Nat.le_refl _) _⟩
      · go_wp2_with fail
        go_roundw
        case rel => exact ⟨q + 1, by omega, by go_num, mkHid (HB.out.alloc hszr _), mkHid fun j y hj hy => by
          by_cases hjq : j < q
          · exact HN.out j y hjq hy
          · obtain rfl : j = q := by omega
            rw [HX.out] at hy
            cases hy
            simpa using hnum⟩
        case measure => simp [intOf]; omega
    · obtain rfl : q = es.length := by omega
      have f0 := frozen_of_row _ w.heap.size 0 _ _ hblk
      have f1 := frozen_of_row _ w.heap.size 1 _ _ hblk
      have hb1 := heap_setCell_same _ w.heap.size 0 _ _ (.int .i64 0) hblk
      have hb2 := heap_setCell_same _ w.heap.size 1 _ _ (.slice none 0 0) hb1
      have y2 := cell_of_row _ w.heap.size 1 _ _ _ hb1
      have f2 := frozen_of_row _ w.heap.size 1 _ _ hb1
      have u0 := cell_of_row _ w.heap.size 0 _ _ _ hb2
      have u1 := cell_of_row _ w.heap.size 1 _ _ _ hb2
      simp at y2 u0 u1
      clear hb1 hb2 hblk
      go_wp2_with fail
      refine bodyPost_ret (v := .agg #[.int .i64 0, .slice none 0 0]) (by simp [results, Try.results20, go_sem, u0, u1]) rfl ?_
      have hN : entOf es num = ⟨0, []⟩ := by
        unfold entOf
        rw [List.find?_eq_none.2]
        · rfl
        · intro y hy
          obtain ⟨j, hj⟩ := List.getElem?_of_mem hy
          rw [HN.out j y (List.getElem?_eq_some_iff.1 hj).1 hj]
          simp
      rw [hN]
      exact ⟨none, 0, 0, rfl, ⟨by omega, by unfold maxLen; omega, by omega⟩, SS.nil, ((hw1b.trans (HB.out.mono (by omega))).setCell (p := ⟨w.heap.size, 0, none⟩) (Nat.le_refl _) _).setCell (p := ⟨w.heap.size, 1, none⟩) (Nat.le_refl _) _⟩

/-- 'Apart' of two entries whose spans read. -/
theorem apart_any (u v : Int) (p q : Option Addr) (m k m' k' : Nat) (xs ys : List Sp) (w : World) (hx : SS w (· < w.heap.size) p m xs) (hc : CapOk m k) (hy : SS w (· < w.heap.size) q m' ys) (hc' : CapOk m' k') :
    Calls Try.prog 19 #[.agg #[.int .i64 u, .slice p m k], .agg #[.int .i64 v, .slice q m' k']] w fun e w' => e = .returned (.bool (!(xs.any fun x => ys.any fun y => clashOf x y))) ∧ Below w.heap.size w w' := by
  obtain ⟨hc1, hc2, hc3⟩ := hc
  obtain ⟨hc1', hc2', hc3'⟩ := hc'
  obtain rfl := hx.1
  obtain rfl := hy.1
  have HX := mkHid hx
  have HY := mkHid hy
  clear hx hy
  obtain ⟨W0, hW0⟩ : ∃ W0, (w.alloc (.cells #[.int .i64 u, .slice p xs.length k] 42)).alloc (.cells #[.int .i64 v, .slice q ys.length k'] 42) = W0 := ⟨_, rfl⟩
  have hs0 : W0.heap.size = w.heap.size + 2 := by rw [← hW0]; simp
  have hg0 : W0.heap[w.heap.size]? = some (.cells #[.int .i64 u, .slice p xs.length k] 42 (0, 0)) := by rw [← hW0, Below.heap_alloc _ _ _ (by simp)]; exact heap_alloc_new w _
  have hg1 : W0.heap[w.heap.size + 1]? = some (.cells #[.int .i64 v, .slice q ys.length k'] 42 (0, 0)) := by rw [← hW0]; exact heap_alloc2_new _ _ _
  have hB0 : Below w.heap.size w W0 := by rw [← hW0]; exact ((Below.refl _ _).alloc (Nat.le_refl _) _).alloc (by simp) _
  go_enter Try.func19, Try.ntmps19
  go_wp2_with fail
  clear hW0
  go_loopw [5] (fun i wr => ∃ j : Nat, j ≤ xs.length ∧ i = .int .i64 j ∧ Hid (Below W0.heap.size W0 wr) ∧ Hid (∀ z, z ∈ xs.take j → ys.any (fun y => clashOf z y) = false)) (fun i _ => xs.length - (intOf i).toNat)
  case atStart => exact ⟨0, Nat.zero_le _, rfl, mkHid (Below.refl _ _), mkHid fun z hz => by simp at hz⟩
  case round =>
    obtain ⟨j, hj, rfl, HB, HN⟩ := hrel
    have hb0 := (HB.out.block _ (by omega)).trans hg0
    have z01 := cell_of_row wr w.heap.size 1 _ _ _ hb0
    simp at z01
    by_cases hlt : j < xs.length
    · obtain ⟨b, o, x, rfl, hbs, hxq, hok, h0, h1, h2, h3⟩ := HX.out.2 j hlt
      have HXJ := mkHid hxq
      have HOK := mkHid hok
      clear hb0
      go_wp2_with fail
      go_loopw [6] (fun i wr => ∃ l : Nat, l ≤ ys.length ∧ i = .int .i64 l ∧ Hid (Below W0.heap.size W0 wr) ∧ Hid (∀ y, y ∈ ys.take l → clashOf x y = false)) (fun i _ => ys.length - (intOf i).toNat)
      case atStart => exact ⟨0, Nat.zero_le _, rfl, HB, mkHid fun z hz => by simp at hz⟩
      case round =>
        clear z01 HB
        obtain ⟨l, hl, rfl, HB, HM⟩ := hrel
        have hb0 := (HB.out.block _ (by omega)).trans hg0
        have hb1 := (HB.out.block (w.heap.size + 1) (by omega)).trans hg1
        have z01 := cell_of_row _ w.heap.size 1 _ _ _ hb0
        have z11 := cell_of_row _ (w.heap.size + 1) 1 _ _ _ hb1
        simp at z01 z11
        by_cases hlt2 : l < ys.length
        · obtain ⟨b', o', y, rfl, hbs', hyq, hok', h0', h1', h2', h3'⟩ := HY.out.2 l hlt2
          have HYL := mkHid hyq
          have HOK' := mkHid hok'
          clear hb0 hb1
          have hk := fun (b : Nat) (hb : b < w.heap.size) => (HB.out.block b (by omega)).trans (hB0.block b hb)
          have c0 := (World.cell?_of_block (w := w) (a := ⟨b, o + j * 4, none⟩) (hk b hbs)).trans h0
          have c1 := (World.cell?_of_block (w := w) (a := ⟨b, o + j * 4 + 1, none⟩) (hk b hbs)).trans h1
          have c2 := (World.cell?_of_block (w := w) (a := ⟨b, o + j * 4 + 2, none⟩) (hk b hbs)).trans h2
          have c3 := (World.cell?_of_block (w := w) (a := ⟨b, o + j * 4 + 3, none⟩) (hk b hbs)).trans h3
          have d0 := (World.cell?_of_block (w := w) (a := ⟨b', o' + l * 4, none⟩) (hk b' hbs')).trans h0'
          have d1 := (World.cell?_of_block (w := w) (a := ⟨b', o' + l * 4 + 1, none⟩) (hk b' hbs')).trans h1'
          have d2 := (World.cell?_of_block (w := w) (a := ⟨b', o' + l * 4 + 2, none⟩) (hk b' hbs')).trans h2'
          have d3 := (World.cell?_of_block (w := w) (a := ⟨b', o' + l * 4 + 3, none⟩) (hk b' hbs')).trans h3'
          have hszr := HB.out.size
          have HPC := mkHid (show ∀ s : World, (∀ b, b < wr.heap.size → s.heap[b]? = wr.heap[b]?) → (s.cell? ⟨w.heap.size, 1, none⟩ = some (.slice (some ⟨b, o, none⟩) xs.length k) ∧ s.cell? ⟨w.heap.size + 1, 1, none⟩ = some (.slice (some ⟨b', o', none⟩) ys.length k') ∧ s.cell? ⟨b, o + j * 4, none⟩ = some (.int .i64 x.vol) ∧ s.cell? ⟨b, o + j * 4 + 1, none⟩ = some (.int .i64 x.frm) ∧ s.cell? ⟨b, o + j * 4 + 2, none⟩ = some (.int .i64 x.len) ∧ s.cell? ⟨b, o + j * 4 + 3, none⟩ = some (.bool x.wr) ∧ s.cell? ⟨b', o' + l * 4, none⟩ = some (.int .i64 y.vol) ∧ s.cell? ⟨b', o' + l * 4 + 1, none⟩ = some (.int .i64 y.frm) ∧ s.cell? ⟨b', o' + l * 4 + 2, none⟩ = some (.int .i64 y.len) ∧ s.cell? ⟨b', o' + l * 4 + 3, none⟩ = some (.bool y.wr)) from fun s hs =>
            ⟨(World.cell?_of_block (w := wr) (a := ⟨w.heap.size, 1, none⟩) (hs _ (by simp; omega))).trans z01, (World.cell?_of_block (w := wr) (a := ⟨w.heap.size + 1, 1, none⟩) (hs _ (by simp; omega))).trans z11,
              (World.cell?_of_block (w := wr) (a := ⟨b, o + j * 4, none⟩) (hs b (by omega))).trans c0, (World.cell?_of_block (w := wr) (a := ⟨b, o + j * 4 + 1, none⟩) (hs b (by omega))).trans c1, (World.cell?_of_block (w := wr) (a := ⟨b, o + j * 4 + 2, none⟩) (hs b (by omega))).trans c2, (World.cell?_of_block (w := wr) (a := ⟨b, o + j * 4 + 3, none⟩) (hs b (by omega))).trans c3,
              (World.cell?_of_block (w := wr) (a := ⟨b', o' + l * 4, none⟩) (hs b' (by omega))).trans d0, (World.cell?_of_block (w := wr) (a := ⟨b', o' + l * 4 + 1, none⟩) (hs b' (by omega))).trans d1, (World.cell?_of_block (w := wr) (a := ⟨b', o' + l * 4 + 2, none⟩) (hs b' (by omega))).trans d2, (World.cell?_of_block (w := wr) (a := ⟨b', o' + l * 4 + 3, none⟩) (hs b' (by omega))).trans d3⟩)
          have HC0 := mkHid (HPC.out _ fun _ _ => rfl)
          clear h0 h1 h2 h3 h0' h1' h2' h3' hk hg0 hg1 hxq hyq hok hok'
          go_wp2_with fail
          go_region_held3 (fun s => s.cell? ⟨w.heap.size, 1, none⟩ = some (.slice (some ⟨b, o, none⟩) xs.length k) ∧ s.cell? ⟨w.heap.size + 1, 1, none⟩ = some (.slice (some ⟨b', o', none⟩) ys.length k') ∧ s.cell? ⟨b, o + j * 4, none⟩ = some (.int .i64 x.vol) ∧ s.cell? ⟨b, o + j * 4 + 1, none⟩ = some (.int .i64 x.frm) ∧ s.cell? ⟨b, o + j * 4 + 2, none⟩ = some (.int .i64 x.len) ∧ s.cell? ⟨b, o + j * 4 + 3, none⟩ = some (.bool x.wr) ∧ s.cell? ⟨b', o' + l * 4, none⟩ = some (.int .i64 y.vol) ∧ s.cell? ⟨b', o' + l * 4 + 1, none⟩ = some (.int .i64 y.frm) ∧ s.cell? ⟨b', o' + l * 4 + 2, none⟩ = some (.int .i64 y.len) ∧ s.cell? ⟨b', o' + l * 4 + 3, none⟩ = some (.bool y.wr)) (first | exact HC0.out | assumption) (first
            | (go_at_call 10; refine (rclash_any x y _ HOK.out HOK'.out).mono ?_; rintro e w5 ⟨rfl, hb5⟩; have hpc := HPC.out w5 (fun b hb => hb5.block b hb); have HB5 := mkHid (HB.out.trans ((Below.mk hb5.os hb5.tape hb5.output hb5.size hb5.block : Below wr.heap.size wr w5).mono HB.out.size)); clear hb5))
          rename_i hheld
          clear hheld hpc HC0 HPC HB
          cases hcl : clashOf x y with
          | true =>
            clear z01 z11 c0 c1 c2 c3 d0 d1 d2 d3
            have HCL := mkHid hcl
            clear hcl
            go_wp2_with fail
            go_ret
            refine ⟨?_, hB0.trans (HB5.out.mono (by omega))⟩
            refine ret_bool ?_
            symm
            rw [Bool.not_eq_false']
            exact List.any_eq_true.2 ⟨x, List.mem_of_getElem? HXJ.out, List.any_eq_true.2 ⟨y, List.mem_of_getElem? HYL.out, HCL.out⟩⟩
          | false =>
            clear z01 z11 c0 c1 c2 c3 d0 d1 d2 d3
            have HCL := mkHid hcl
            clear hcl
            go_wp2_with fail
            go_roundw
            case rel => exact ⟨l + 1, by omega, by go_num, HB5, mkHid fun z hz => by
              rw [List.take_add_one, HYL.out] at hz
              rcases List.mem_append.1 hz with h | h
              · exact HM.out z h
              · obtain rfl := List.mem_singleton.1 h
                exact HCL.out⟩
            case measure => simp [intOf]; omega
        · obtain rfl : l = ys.length := by omega
          clear hb0 hb1 hg0 hg1
          have hnot : ys.any (fun y => clashOf x y) = false := by
            rw [List.any_eq_false]
            intro y hy
            rw [HM.out y (by rw [List.take_length]; exact hy)]
            decide
          go_wp2_with fail
          go_roundw
          case rel => exact ⟨j + 1, by omega, by go_num, HB, mkHid fun z hz => by
            rw [List.take_add_one, HXJ.out] at hz
            rcases List.mem_append.1 hz with h | h
            · exact HN.out z h
            · obtain rfl := List.mem_singleton.1 h
              exact hnot⟩
          case measure => simp [intOf]; omega
    · obtain rfl : j = xs.length := by omega
      go_wp2_with fail
      go_ret
      refine ⟨?_, hB0.trans (HB.out.mono (by omega))⟩
      refine ret_bool ?_
      symm
      rw [Bool.not_eq_true', List.any_eq_false]
      intro z hz
      rw [HN.out z (by rw [List.take_length]; exact hz)]
      decide
end Go.Proofs.Ytgabjgmimebelaa
