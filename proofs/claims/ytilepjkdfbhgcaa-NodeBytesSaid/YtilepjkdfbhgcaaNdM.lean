/- Node.Drop by contract. -/
import Derived.Test.YtilepjkdfbhgcaaNdL
namespace Go.Proofs.Ytilepjkdfbhgcaa
open Go.RowKit Go.Shelf

/-- A node's pairs without a key. -/
def dropL (ks vs : List Int) (key : Int) : List (Int × Int) := (pairsOf ks vs).take (lowOf ks key) ++ (pairsOf ks vs).drop (lowOf ks key + 1)
/-- Drop's error and node. -/
def dropOf (lv : Int) (ks vs : List Int) (key : Int) : Int × Nd :=
  if rightN lv ks vs = false then (70, (0, [], [])) else if ks.contains key = false then (81, (0, [], [])) else (0, nodeOf lv (dropL ks vs key))
/-- A new node and an error are answered. -/
def RetNE (w : World) (r : Int × Nd) (e : Ending) (w' : World) : Prop := ∃ v, e = .returned (.tuple #[v, errV r.1]) ∧ NdIn w' v r.2.1 r.2.2.1 r.2.2.2 ∧ NdNew w.heap.size v ∧ Below w.heap.size w w'
theorem NdIn.zero {w : World} : NdIn w (.agg #[.int .i64 0, .slice none 0 0, .slice none 0 0]) 0 [] [] :=
  ⟨none, 0, 0, none, 0, 0, rfl, IS.nil, IS.nil, ⟨by omega, by unfold maxLen; omega, by omega⟩, ⟨by omega, by unfold maxLen; omega, by omega⟩⟩
theorem NdNew.zero (B : Nat) : NdNew B (.agg #[.int .i64 0, .slice none 0 0, .slice none 0 0]) := NdNew.mk' (fun ad h => by cases h) (fun ad h => by cases h)
theorem flat_del (xs : List (Int × Int)) (i : Nat) : (xs.flatMap enC).take (i * 2) ++ (xs.flatMap enC).drop ((i + 1) * 2) = (xs.take i ++ xs.drop (i + 1)).flatMap enC := by
  rw [flat_take, flat_drop, List.flatMap_append]
theorem But.below {r B : Nat} {w0 w w' : World} (h : But r w w') (hb : Below B w0 w) (hr : B ≤ r) : Below B w0 w' :=
  ⟨h.os.trans hb.os, h.tape.trans hb.tape, h.output.trans hb.output, by have := hb.size; have := h.size; omega, fun b hlt => (h.block b (by omega)).trans (hb.block b hlt)⟩
theorem NdIn.set3 {w : World} {lv : Int} {ks vs : List Int} {g k m C C' : Nat} {A A' : Option Addr} {x y z : Value} (h1 : IS w w.heap.size A k ks) (h2 : IS w w.heap.size A' m vs) (h3 : CapOk k C) (h4 : CapOk m C') (n1 : ∀ ad : Addr, A = some ad → g + 1 ≤ ad.block) (n2 : ∀ ad : Addr, A' = some ad → g + 1 ≤ ad.block) :
    NdIn (((w.setCell ⟨g, 0, none⟩ x).setCell ⟨g, 1, none⟩ y).setCell ⟨g, 2, none⟩ z) (.agg #[.int .i64 lv, .slice A k C, .slice A' m C']) lv ks vs := by
  refine ⟨_, _, _, _, _, _, rfl, ?_, ?_, h3, h4⟩
  · rw [setCell_size, setCell_size, setCell_size]
    exact IS.set_other (IS.set_other (IS.set_other h1 (fun ad h => by have := n1 ad h; show ad.block ≠ g; omega)) (fun ad h => by have := n1 ad h; show ad.block ≠ g; omega)) (fun ad h => by have := n1 ad h; show ad.block ≠ g; omega)
  · rw [setCell_size, setCell_size, setCell_size]
    exact IS.set_other (IS.set_other (IS.set_other h2 (fun ad h => by have := n2 ad h; show ad.block ≠ g; omega)) (fun ad h => by have := n2 ad h; show ad.block ≠ g; omega)) (fun ad h => by have := n2 ad h; show ad.block ≠ g; omega)

set_option maxRecDepth 20000 in
set_option maxHeartbeats 2000000 in
theorem drop_any (lv : Int) (a a' : Option Addr) (n m c c' : Nat) (ks vs : List Int) (key : Int) (w : World) (hk : IS w w.heap.size a n ks) (hv : IS w w.heap.size a' m vs) :
    Calls Try.prog 19 #[.agg #[.int .i64 lv, .slice a n c, .slice a' m c'], .int .i64 key] w (RetNE w (dropOf lv ks vs key)) := by
  have HLK := mkHid hk.len
  obtain ⟨W, hW⟩ : ∃ W, (w.alloc (.cells #[.int .i64 lv, .slice a n c, .slice a' m c'] 32)).alloc (.cells #[.int .i64 0, .slice none 0 0, .slice none 0 0] 32) = W := ⟨_, rfl⟩
  have HAL := mkHid (show Below w.heap.size w W from by rw [← hW]; exact ((Below.refl _ _).alloc (Nat.le_refl _) _).alloc (by simp) _)
  have HSZ := mkHid (show W.heap.size = w.heap.size + 1 + 1 by rw [← hW]; simp)
  have hbx : W.heap[w.heap.size]? = some (.cells #[.int .i64 lv, .slice a n c, .slice a' m c'] 32) := by rw [← hW]; exact (Below.heap_alloc _ _ _ (by simp)).trans (heap_alloc_new _ _)
  have hrx : W.heap[w.heap.size + 1]? = some (.cells #[.int .i64 0, .slice none 0 0, .slice none 0 0] 32) := by rw [← hW]; have := heap_alloc_new (w.alloc (.cells #[.int .i64 lv, .slice a n c, .slice a' m c'] 32)) (.cells #[.int .i64 0, .slice none 0 0, .slice none 0 0] 32); simpa using this
  have HKS := mkHid ((hk.below HAL.out).more HAL.out.size)
  have HVS := mkHid ((hv.below HAL.out).more HAL.out.size)
  have HLV := mkHid hv.len
  have HBX := mkHid hbx
  have HRX := mkHid hrx
  have HK := mkHid (show ∀ Z, Below W.heap.size W Z → (Z.cell? ⟨w.heap.size, 0, none⟩ = some (.int .i64 lv) ∧ Z.cell? ⟨w.heap.size, 1, none⟩ = some (.slice a n c) ∧ Z.cell? ⟨w.heap.size, 2, none⟩ = some (.slice a' m c')) from fun Z hZ =>
    have h := (hZ.block _ (by rw [HSZ.out]; omega)).trans HBX.out
    ⟨cell_of_row Z w.heap.size 0 _ _ _ h, cell_of_row Z w.heap.size 1 _ _ _ h, cell_of_row Z w.heap.size 2 _ _ _ h⟩)
  have HKR := mkHid (show ∀ Z, Below W.heap.size W Z → Z.heap[w.heap.size + 1]? = some (.cells #[.int .i64 0, .slice none 0 0, .slice none 0 0] 32) from fun Z hZ => (hZ.block _ (by rw [HSZ.out]; omega)).trans HRX.out)
  have HKZ := mkHid (show ∀ Z, Below W.heap.size W Z → (Z.cell? ⟨w.heap.size + 1, 0, none⟩ = some (.int .i64 0) ∧ Z.cell? ⟨w.heap.size + 1, 1, none⟩ = some (.slice none 0 0) ∧ Z.cell? ⟨w.heap.size + 1, 2, none⟩ = some (.slice none 0 0) ∧ Z.frozen? ⟨w.heap.size + 1, 0, none⟩ = false ∧ Z.frozen? ⟨w.heap.size + 1, 1, none⟩ = false ∧ Z.frozen? ⟨w.heap.size + 1, 2, none⟩ = false) from fun Z hZ =>
    have h := HKR.out Z hZ
    ⟨cell_of_row Z (w.heap.size + 1) 0 _ _ _ h, cell_of_row Z (w.heap.size + 1) 1 _ _ _ h, cell_of_row Z (w.heap.size + 1) 2 _ _ _ h, frozen_of_row Z (w.heap.size + 1) 0 _ _ h, frozen_of_row Z (w.heap.size + 1) 1 _ _ h, frozen_of_row Z (w.heap.size + 1) 2 _ _ h⟩)
  have HSET := mkHid (show ∀ (Z : World) (x y z : Value), Below w.heap.size w Z → Below w.heap.size w (((Z.setCell ⟨w.heap.size + 1, 0, none⟩ x).setCell ⟨w.heap.size + 1, 1, none⟩ y).setCell ⟨w.heap.size + 1, 2, none⟩ z) from fun Z x y z hZ =>
    ((hZ.setCell (p := ⟨w.heap.size + 1, 0, none⟩) (by show w.heap.size ≤ w.heap.size + 1; omega) _).setCell (p := ⟨w.heap.size + 1, 1, none⟩) (by show w.heap.size ≤ w.heap.size + 1; omega) _).setCell (p := ⟨w.heap.size + 1, 2, none⟩) (by show w.heap.size ≤ w.heap.size + 1; omega) _)
  clear hk hv hbx hrx
  obtain ⟨k0, k1, k2⟩ := HK.out W (Below.refl _ _)
  go_enter Try.func19, Try.ntmps19
  go_wp2_with fail
  refine (ncheck_any lv a a' n m c c' ks vs W HKS.out HVS.out).mono ?_
  rintro e w2 ⟨rfl, hb2⟩
  have HB2 := mkHid hb2
  clear hb2 k0 k1 k2 hW
  cases hr : rightN lv ks vs with
  | false =>
    have HV := mkHid (show dropOf lv ks vs key = (70, (0, [], [])) from if_pos hr)
    clear hr
    rw [nodeE_f]
    obtain ⟨y0, y1, y2, z0, z1, z2⟩ := HKZ.out w2 HB2.out
    go_wp2_with fail
    refine bodyPost_ret (v := .tuple #[.agg #[.int .i64 0, .slice none 0 0, .slice none 0 0], codeV 70]) (by simp [results, Try.results19, go_sem, y0, y1, y2]) rfl ?_
    rw [HV.out]
    exact ⟨_, rfl, NdIn.zero, NdNew.zero _, HSET.out w2 _ _ _ (HAL.out.trans (HB2.out.mono HAL.out.size))⟩
  | true =>
    rw [nodeE_t]
    have HR := mkHid hr
    have hok := rightN_ok hr
    obtain ⟨_, _, hlen, h1n, hn7, _, _⟩ := hok
    rw [HLK.out] at h1n hn7
    rw [HLK.out, HLV.out] at hlen
    subst hlen
    clear hr
    obtain ⟨k0, k1, k2⟩ := HK.out w2 HB2.out
    go_wp2_with fail
    have hsr := (rightN_ok HR.out).2.2.2.2.2.1
    refine (find_any lv a a' n n c c' ks key w2 ((HKS.out.below HB2.out).more HB2.out.size) (by omega) (hsr.imp (fun h => by omega))).mono ?_
    rintro e w3 ⟨rfl, hb3⟩
    have HB3 := mkHid (below_next HB2.out hb3)
    clear hb3 k0 k1 k2
    have hlow := low_le ks key
    rw [HLK.out] at hlow
    have hll := low_lt hsr (x := key)
    rw [HLK.out] at hll
    have HSR := mkHid hsr
    clear hsr
    cases hcx : ks.contains key with
    | false =>
      have HV := mkHid (show dropOf lv ks vs key = (81, (0, [], [])) by unfold dropOf; rw [if_neg (by rw [HR.out]; decide), if_pos hcx])
      have hfo : findOf ks key = ((lowOf ks key : Int) - 1, false) := if_neg (by rw [hcx]; decide)
      rw [hfo]
      clear hll hcx hfo
      generalize lowOf ks key = L at *
      obtain ⟨y0, y1, y2, z0, z1, z2⟩ := HKZ.out w3 HB3.out
      go_wp2_with fail
      refine bodyPost_ret (v := .tuple #[.agg #[.int .i64 0, .slice none 0 0, .slice none 0 0], codeV 81]) (by simp [results, Try.results19, go_sem, y0, y1, y2]) rfl ?_
      rw [HV.out]
      exact ⟨_, rfl, NdIn.zero, NdNew.zero _, HSET.out w3 _ _ _ (HAL.out.trans (HB3.out.mono HAL.out.size))⟩
    | true =>
      have HV := mkHid (show dropOf lv ks vs key = (0, nodeOf lv (dropL ks vs key)) by unfold dropOf; rw [if_neg (by rw [HR.out]; decide), if_neg (by rw [hcx]; decide)])
      have hfo : findOf ks key = ((lowOf ks key : Int), true) := if_pos hcx
      rw [hfo]
      have HL := mkHid (show dropL ks vs key = (pairsOf ks vs).take (lowOf ks key) ++ (pairsOf ks vs).drop (lowOf ks key + 1) from rfl)
      have hlt := hll hcx
      have hlz : (pairsOf ks vs).length = n := by rw [pairs_len (by rw [HLK.out, HLV.out]), HLK.out]
      clear hll hcx hfo
      generalize lowOf ks key = L at *
      obtain ⟨m, rfl⟩ : ∃ m, n = L + 1 + m := ⟨n - (L + 1), by omega⟩
      have HLD := mkHid (show (dropL ks vs key).length = L + m by rw [HL.out, List.length_append, List.length_take, List.length_drop, hlz]; omega)
      have HFL := mkHid (show ((pairsOf ks vs).flatMap enC).take (L * 2) ++ ((pairsOf ks vs).flatMap enC).drop ((L + 1) * 2) = (dropL ks vs key).flatMap enC by rw [flat_del, HL.out])
      have HOK := mkHid (show ∀ x ∈ dropL ks vs key, EnOk x from fun x hx => fits_ok ((rightN_ok HR.out).2.2.2.2.2.2 x (by
        rw [HL.out] at hx
        rcases List.mem_append.1 hx with h | h
        · exact List.mem_of_mem_take h
        · exact List.mem_of_mem_drop h)))
      have HLZ := mkHid hlz
      have e8 : IntKind.i64.wrap ((L : Int) + 1) = (L : Int) + 1 := IntWalk.i64_in _ (by omega)
      have HPR := mkHid (show ∀ Z, Below W.heap.size W Z → Calls Try.prog 37 #[.agg #[.int .i64 lv, .slice a (L + 1 + m) c, .slice a' (L + 1 + m) c']] Z (fun e w' => ∃ g C, e = .returned (.slice (some ⟨g, 0, none⟩) (L + 1 + m) C) ∧ W.heap.size ≤ g ∧ w'.ownsRow 0 52 2 (.slice (some ⟨g, 0, none⟩) (L + 1 + m) C) (L + 1 + m) ((pairsOf ks vs).flatMap enC) ∧ Below Z.heap.size Z w') from fun Z hZ => (pairs_any lv a a' (L + 1 + m) c c' ks vs Z ((HKS.out.below hZ).more hZ.size) ((HVS.out.below hZ).more hZ.size) (by omega)).mono fun e w' ⟨A, C, h1, h2, h3⟩ => by
          rw [HLZ.out] at h1 h2
          obtain ⟨g, cur, rfl, hB, _⟩ := own_block h2 (by omega)
          exact ⟨g, C, h1, Nat.le_trans hZ.size hB, own_weaken h2 (Nat.zero_le _), h3⟩)
      clear hlz
      obtain ⟨k0, k1, k2⟩ := HK.out w3 HB3.out
      go_wp2_with fail
      have HBY := mkHid HB3.out
      go_region_held3 (fun Z => Z.cell? ⟨w.heap.size, 0, none⟩ = some (.int .i64 lv) ∧ Z.cell? ⟨w.heap.size, 1, none⟩ = some (.slice a (L + 1 + m) c) ∧ Z.cell? ⟨w.heap.size, 2, none⟩ = some (.slice a' (L + 1 + m) c')) (first | exact hky | exact HK.out _ (by first | exact HBY.out | exact HBY.out.drew | exact (Below.refl _ _).drew | exact Below.refl _ _) | (refine ⟨?_, ?_, ?_⟩ <;> simp [go_sem, HK.out _ HBY.out])) (first
        | (go_at_call 37; (with_reducible refine (HPR.out _ (by first | exact HBY.out | exact HBY.out.drew | exact (Below.refl _ _).drew | exact Below.refl _ _)).mono ?_); rintro e wy ⟨g, C, rfl, hBg, hoy, hby⟩; have HBY := mkHid (below_next (show Below W.heap.size W _ from (by first | exact HBY.out | exact HBY.out.drew | exact (Below.refl _ _).drew | exact Below.refl _ _)) hby); have hky := HK.out _ HBY.out; have HOY := mkHid hoy; have HBG := mkHid hBg; clear hby hoy hBg)
        | (go_at_call 43; refine (deleteP_any g L m C _ _ HOY.out (enC_one _) (by omega)).mono ?_; rintro e wz ⟨rfl, hoz, hbz⟩; have HBY := mkHid (hbz.below HBY.out HBG.out); have hky := HK.out _ HBY.out; rw [HFL.out] at hoz; have HES := mkHid (show ES wz wz.heap.size (some ⟨g, 0, none⟩) (L + m) (dropL ks vs key) from ES.of_own hoz HOK.out); have hszz := HBY.out.size; clear hoz hbz)
        | (go_at_call 42; refine (nof_any lv a a' _ _ c c' (some ⟨g, 0, none⟩) (L + m) C (dropL ks vs key) _ HES.out (by omega)).mono ?_; rintro e wv ⟨_, rfl, ⟨E, k3, G, E', m3, G', rfl, j1, j2, k4, k5⟩, hnew, hby⟩; have HBY := mkHid (below_next (show Below W.heap.size W _ from (by first | exact HBY.out | exact HBY.out.drew | exact (Below.refl _ _).drew | exact Below.refl _ _)) hby); have hky := HK.out _ HBY.out; obtain ⟨y0, y1, y2, z0, z1, z2⟩ := HKZ.out _ HBY.out; obtain ⟨hn1, hn2⟩ := hnew _ _ _ _ _ _ _ rfl; have HN1 := mkHid hn1; have HN2 := mkHid hn2; have HJ1 := mkHid j1; have HJ2 := mkHid j2; have HZS := mkHid (show W.heap.size ≤ wz.heap.size from hszz); clear hby j1 j2 hn1 hn2 hnew))
      have HS2 := mkHid (show w.heap.size + 1 + 1 ≤ wz.heap.size by have := HSZ.out; have := HZS.out; omega)
      go_wp2_with fail
      refine bodyPost_ret (v := .tuple #[.agg #[.int .i64 lv, .slice E k3 G, .slice E' m3 G'], .nilIface]) (by simp [results, Try.results19, go_sem, y0, y1, y2]) rfl ?_
      rw [HV.out]
      exact ⟨_, rfl, NdIn.set3 HJ1.out HJ2.out k4 k5 (fun ad h => by have := HN1.out ad h; have := HS2.out; omega) (fun ad h => by have := HN2.out ad h; have := HS2.out; omega), NdNew.mk' (fun ad h => by have := HN1.out ad h; have := HS2.out; omega) (fun ad h => by have := HN2.out ad h; have := HS2.out; omega), HSET.out wv _ _ _ (HAL.out.trans (HBY.out.mono HAL.out.size))⟩

end Go.Proofs.Ytilepjkdfbhgcaa
