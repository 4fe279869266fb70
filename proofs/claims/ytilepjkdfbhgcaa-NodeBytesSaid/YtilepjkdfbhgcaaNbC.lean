/- The document's Bytes of a node by contract. -/
import Derived.Test.YtilepjkdfbhgcaaNbB
import Derived.Test.YtilepjkdfbhgcaaRefGetF
namespace Go.Proofs.Ytilepjkdfbhgcaa
open Go.RowKit Go.Shelf

theorem u8w (x : Int) (h0 : 0 ≤ x) (h1 : x < 256) : IntKind.u8.wrap x = x := by
  have h : IntKind.u8.wrap x = x % 256 := by kernel_rfl
  rw [h]
  omega
/-- The document's bytes under way. -/
structure DB (w wr : World) (lv : Int) (a a' : Option Addr) (n c c' : Nat) (O : Option Addr) (L C : Nat) (l : List Int) : Prop where
  row : wr.ownsRow w.heap.size 5 1 (.slice O L C) L (l.map u8)
  box : wr.heap[w.heap.size]? = some (.cells #[.int .i64 lv, .slice a n c, .slice a' n c'] 24 (0, 0))
  bel : Below w.heap.size w wr
section
variable {w wr w1 w3 : World} {lv : Int} {a a' : Option Addr} {n c c' : Nat} {O O' : Option Addr} {L L' C C' : Nat} {l l' : List Int}
theorem DB.off (h : DB w wr lv a a' n c c' O L C l) : (Value.slice O L C).ownBlock ≠ some w.heap.size := fun e => by
  rcases h.row.2 with ⟨h3, _⟩ | ⟨g', cap, cur, h3, _, hg', _⟩
  · rw [h3] at e; simp [Value.ownBlock] at e
  · rw [h3] at e
    have e1 : g' = w.heap.size := by simpa [Value.ownBlock] using e
    subst e1
    rw [h.box] at hg'
    simp at hg'
theorem DB.next (h : DB w wr lv a a' n c c' O L C l) (hb : Below wr.heap.size wr w1) : DB w w1 lv a a' n c c' O L C l :=
  ⟨own_below h.row hb, (hb.block _ (Array.getElem?_eq_some_iff.1 h.box).1).trans h.box, h.bel.trans (hb.mono h.bel.size)⟩
theorem DB.app (h : DB w wr lv a a' n c c' O L C l) (hg : wr.grownBy w3 (Value.slice O L C).ownBlock) (ho : w3.ownsRow w.heap.size 5 1 (.slice O' L' C') L' (l'.map u8)) : DB w w3 lv a a' n c c' O' L' C' l' :=
  ⟨ho, (hg.block _ (Array.getElem?_eq_some_iff.1 h.box).1 (fun e => h.off e.symm)).trans h.box, h.bel.grown hg h.bel.size fun k hk => (h.row.lt k hk).1⟩
theorem DB.facts (h : DB w wr lv a a' n c c' O L C l) : wr.cell? ⟨w.heap.size, 0, none⟩ = some (.int .i64 lv) ∧ wr.cell? ⟨w.heap.size, 1, none⟩ = some (.slice a n c) ∧ wr.cell? ⟨w.heap.size, 2, none⟩ = some (.slice a' n c') :=
  ⟨cell_of_row _ _ 0 _ _ _ h.box, cell_of_row _ _ 1 _ _ _ h.box, cell_of_row _ _ 2 _ _ _ h.box⟩
end

set_option maxRecDepth 20000 in
set_option maxHeartbeats 4000000 in
theorem dbytes_any (lv : Int) (a a' : Option Addr) (n m c c' : Nat) (ks vs : List Int) (w : World) (hk : IS w w.heap.size a n ks) (hv : IS w w.heap.size a' m vs) (hr : rightN lv ks vs = true) :
    Calls Try.prog 30 #[.agg #[.int .i64 lv, .slice a n c, .slice a' m c']] w (RetB w (frameOf 2 (nodeB lv (pairsOf ks vs)))) := by
  obtain ⟨hlv0, hlv1, hkv, hk1, hk7, _, hfit⟩ := rightN_ok hr
  have hkl := hk.len
  have hvl := hv.len
  obtain rfl : n = m := by omega
  obtain ⟨xs, hxs⟩ : ∃ xs, pairsOf ks vs = xs := ⟨_, rfl⟩
  have hxl : xs.length = n := by rw [← hxs]; unfold pairsOf; rw [List.length_zip]; omega
  have hn7 : n ≤ 7 := by omega
  rw [hxs] at hfit ⊢
  have hu1 := u8w lv hlv0 (by omega)
  have hu2 := u8w (n : Int) (by omega) (by omega)
  obtain ⟨W, hW⟩ : ∃ W, w.alloc (.cells #[.int .i64 lv, .slice a n c, .slice a' n c'] 24) = W := ⟨_, rfl⟩
  have hal : Below w.heap.size w W := by rw [← hW]; exact (Below.refl _ _).alloc (Nat.le_refl _) _
  have hsz : W.heap.size = w.heap.size + 1 := by rw [← hW]; simp
  have hbx : W.heap[w.heap.size]? = some (.cells #[.int .i64 lv, .slice a n c, .slice a' n c'] 24 (0, 0)) := by rw [← hW]; exact heap_alloc_new _ _
  have HD0 := mkHid (show DB w (W.alloc (.cells #[.int .u8 lv, .int .u8 (n : Int)] 5)) lv a a' n c c' (some ⟨W.heap.size, 0, none⟩) 2 2 (nb 1 lv ++ nb 1 (n : Int)) from by
    refine ⟨?_, (Below.heap_alloc _ _ _ (by omega)).trans hbx, hal.alloc hal.size _⟩
    rw [nb1_of hlv0 (by omega), nb1_of (by omega) (by omega)]
    exact ⟨rfl, .inr ⟨W.heap.size, 2, #[.int .u8 lv, .int .u8 (n : Int)], rfl, hal.size, heap_alloc_new W _, Nat.le_refl _, by unfold maxLen; omega, rfl, rfl⟩⟩)
  have y0 : W.cell? ⟨w.heap.size, 0, none⟩ = some (.int .i64 lv) := cell_of_row W _ 0 _ _ _ hbx
  have y1 : W.cell? ⟨w.heap.size, 1, none⟩ = some (.slice a n c) := cell_of_row W _ 1 _ _ _ hbx
  have HKS := mkHid hk
  have HVS := mkHid hv
  have HXS := mkHid hxs
  have HXL := mkHid hxl
  have HFIT := mkHid hfit
  have HKL := mkHid hkl
  have HVL := mkHid hvl
  clear hk hv hr hal hbx hxs hxl hfit hkv hkl hvl hk1 hk7
  go_enter Try.func30, Try.ntmps30
  go_wp2_with fail
  go_loopw [3, 4] (fun b i wr => ∃ (q : Nat) (O : Option Addr) (C : Nat), q ≤ n ∧ i = .int .i64 q ∧ b = .slice O (2 + 16 * q) C ∧ Hid (DB w wr lv a a' n c c' O (2 + 16 * q) C (nb 1 lv ++ nb 1 (n : Int) ++ (xs.take q).flatMap pairB))) (fun _ i _ => n - (intOf i).toNat)
  case atStart => exact ⟨0, _, _, Nat.zero_le _, rfl, by rw [← hsz], mkHid (by simpa using HD0.out)⟩
  case round =>
    clear HD0 hu1 hu2
    obtain ⟨q, O, C, hq, rfl, rfl, HD⟩ := hrel
    obtain ⟨c0, c1, c2⟩ := HD.out.facts
    by_cases hlt : q < n
    · obtain ⟨b1, o1, rfl, hb1, k0, hI1⟩ := (HKS.out.below HD.out.bel).at_ hlt
      obtain ⟨b2, o2, rfl, hb2, k1, hI2⟩ := (HVS.out.below HD.out.bel).at_ hlt
      have hx : xs[q]? = some (ks[q]?.getD 0, vs[q]?.getD 0) := by
        rw [← HXS.out]
        unfold pairsOf
        rw [List.getElem?_zip_eq_some]
        exact ⟨by rw [List.getElem?_eq_getElem (by rw [HKL.out]; exact hlt)]; rfl, by rw [List.getElem?_eq_getElem (by rw [HVL.out]; exact hlt)]; rfl⟩
      have hfx := HFIT.out _ (List.mem_of_getElem? hx)
      have hfx := of_decide_eq_true hfx
      have HT := mkHid (show (xs.take (q + 1)).flatMap pairB = (xs.take q).flatMap pairB ++ (nb 8 (ks[q]?.getD 0) ++ nb 8 (vs[q]?.getD 0)) by
        obtain ⟨hl, hx'⟩ := List.getElem?_eq_some_iff.1 hx
        rw [List.take_succ_eq_append_getElem hl, List.flatMap_append, hx']
        simp [pairB])
      have HK2 := mkHid (show ∀ Z : World, Below w.heap.size w Z → Z.cell? ⟨b2, o2 + q, none⟩ = some (.int .i64 (vs[q]?.getD 0)) from fun Z hZ => by
        obtain ⟨b3, o3, e3, _, k3, _⟩ := (HVS.out.below hZ).at_ hlt
        injection e3 with e3
        injection e3 with e4 e5
        subst e4
        subst e5
        exact k3)
      generalize ks[q]?.getD 0 = xk at *
      generalize vs[q]?.getD 0 = xv at *
      simp only at hfx
      clear hx hI1 hI2
      have hcap := own_cap HD.out.row
      go_wp2_with fail
      refine (number_any xk 8 wr ⟨by omega, by omega⟩ (by omega)).mono ?_
      rintro e w1 ⟨A1, n1, C1, rfl, ho1, hb1⟩
      obtain rfl : n1 = 8 := by have h := ho1.1; rw [List.length_map, nb_len] at h; omega
      have HD1 := mkHid (HD.out.next hb1)
      have HO1 := mkHid ho1
      clear ho1 hb1 c0 c1 c2 k0 k1
      go_wp2_with (at_builtin; refine wpList_app _ rfl (.tmp 20) (.tmp 26) _ rfl w.heap.size el_u8 O (2 + 16 * q) C _ rfl HD1.out.row w1.heap.size A1 8 C1 ((nb 8 xk).map u8) rfl (SL.of_own HO1.out) (u8_cells _) (by unfold maxLen; omega) (by omega) HD1.out.bel.size ?_; intro A2 C2 w2 ho2 hg2 hat2; have HD2 := mkHid (HD1.out.app (l' := (nb 1 lv ++ nb 1 (n : Int) ++ (xs.take q).flatMap pairB) ++ nb 8 xk) hg2 (by rw [List.map_append]; exact ho2)); obtain ⟨c0, c1, c2⟩ := HD2.out.facts; have kv := HK2.out w2 HD2.out.bel; clear ho2 hg2 hat2)
      refine (number_any xv 8 w2 ⟨by omega, by omega⟩ (by omega)).mono ?_
      rintro e w3 ⟨A3, n3, C3, rfl, ho3, hb3⟩
      obtain rfl : n3 = 8 := by have h := ho3.1; rw [List.length_map, nb_len] at h; omega
      have HD3 := mkHid (HD2.out.next hb3)
      have HO3 := mkHid ho3
      have hcap2 := own_cap HD2.out.row
      clear ho3 hb3 c0 c1 c2 kv
      go_wp2_with (at_builtin; refine wpList_app _ rfl (.tmp 28) (.tmp 34) _ rfl w.heap.size el_u8 A2 (2 + 16 * q + 8) C2 _ rfl HD3.out.row w3.heap.size A3 8 C3 ((nb 8 xv).map u8) rfl (SL.of_own HO3.out) (u8_cells _) (by unfold maxLen; omega) (by omega) HD3.out.bel.size ?_; intro A4 C4 w4 ho4 hg4 hat4; have HD4 := mkHid (HD3.out.app (l' := (nb 1 lv ++ nb 1 (n : Int) ++ (xs.take (q + 1)).flatMap pairB)) hg4 (by rw [HT.out, ← List.append_assoc, ← List.append_assoc, List.map_append]; exact ho4)); clear ho4 hg4 hat4)
      go_roundw
      case rel => exact ⟨q + 1, A4, C4, by omega, by go_num, by rw [show 2 + 16 * (q + 1) = 2 + 16 * q + 8 + 8 by omega], HD4⟩
      case measure => simp [intOf]; omega
    · obtain rfl : q = n := by omega
      have HBY := mkHid (show nb 1 lv ++ nb 1 (q : Int) ++ (xs.take q).flatMap pairB = nodeB lv xs from by
        rw [List.take_of_length_le (by rw [HXL.out]; exact Nat.le_refl _)]
        unfold nodeB
        rw [HXL.out, List.append_assoc])
      have hbs : BS wr wr.heap.size O (2 + 16 * q) (nodeB lv xs) := by
        rw [← HBY.out]
        exact ⟨SL.of_own HD.out.row, by rw [HBY.out]; exact nodeB_ok lv xs⟩
      have HBS := mkHid hbs
      clear hbs HBY
      go_wp2_with fail
      refine (rput_any 2 O (2 + 16 * q) C (nodeB lv xs) wr ⟨by omega, by omega⟩ HBS.out (by omega)).mono ?_
      rintro e w5 ⟨A5, n5, C5, rfl, ho5, hb5⟩
      have HO5 := mkHid ho5
      have HB5 := mkHid hb5
      clear ho5 hb5
      go_wp2_with fail
      go_ret
      exact ⟨A5, n5, C5, rfl, own_less HO5.out HD.out.bel.size, HD.out.bel.trans (HB5.out.mono HD.out.bel.size)⟩

end Go.Proofs.Ytilepjkdfbhgcaa
