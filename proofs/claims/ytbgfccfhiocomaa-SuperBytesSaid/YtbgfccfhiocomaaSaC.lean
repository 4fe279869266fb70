/- A superblock's sector: Super.Bytes, portageref06.Bytes. -/
import Derived.Test.YtbgfccfhiocomaaNbBQ
namespace Go.Proofs.Ytbgfccfhiocomaa
open Go.RowKit Go.Shelf

theorem own_less {w : World} {B B' : Nat} {e : TypeId} {s n : Nat} {v : Value} {xs : List Value} (h : w.ownsRow B e s v n xs) (hB : B' ≤ B) : w.ownsRow B' e s v n xs := by
  refine ⟨h.1, ?_⟩
  rcases h.2 with h0 | ⟨g, cap, cur, h1, h2, h3⟩
  · exact .inl h0
  · exact .inr ⟨g, cap, cur, h1, by omega, h3⟩
/-- A superblock's payload. -/
def superB (g r : Int) (xs : List (Int × Int)) : List Int := nb 8 g ++ nb 8 r ++ rosBytes xs
theorem rosBytes_ok (xs : List (Int × Int)) : okBytes (rosBytes xs) := by
  refine (nb_ok _ 1).append fun y hy => ?_
  obtain ⟨x, _, h⟩ := List.mem_flatMap.1 hy
  exact ((nb_ok _ 1).append (nb_ok _ 2)) y h
theorem superB_len (g r : Int) (xs : List (Int × Int)) : (superB g r xs).length = 17 + 3 * xs.length := by
  unfold superB
  rw [List.length_append, List.length_append, nb_len, nb_len, rosBytes_len]
  omega
theorem superB_ok (g r : Int) (xs : List (Int × Int)) : okBytes (superB g r xs) := ((nb_ok _ 8).append (nb_ok _ 8)).append (rosBytes_ok xs)
theorem rightL_8 {xs : List (Int × Int)} (h : rightL xs = true) : xs.length ≤ 8 := (rightL_ok h).1
theorem super_frame_ok {g r : Int} {xs : List (Int × Int)} (h : rightS g r xs = true) : okBytes (frameOf 1 (superB g r xs)) := by
  have := rightL_8 (rightS_ok h).2.1
  exact frameOf_ok (by omega) (superB_ok _ _ _) (by rw [superB_len]; omega)
theorem fits_8 {x : Int} (h0 : 0 ≤ x) (h1 : x ≤ 2305843009213693952) : fits 8 x = true := by
  unfold fits
  first
  | (rw [if_pos (by decide)]; exact decide_eq_true (by omega))
  | (rw [if_neg (by decide)]; exact decide_eq_true ⟨h0, by rw [show (256 : Int) ^ 8 = 18446744073709551616 from rfl]; omega⟩)


set_option maxRecDepth 20000 in
set_option maxHeartbeats 1000000 in
theorem sbytes_no (g r : Int) (a : Option Addr) (n c : Nat) (xs : List (Int × Int)) (w : World) (hs : ES w w.heap.size a n xs) (hc : CapOk n c) (hr : rightS g r xs = false) :
    Calls Try.prog 10 #[.agg #[.int .i64 g, .int .i64 r, .slice a n c]] w fun e w' => e = .returned (.tuple #[.slice none 0 0, codeV 14]) ∧ Below w.heap.size w w' := by
  obtain ⟨W, hW⟩ : ∃ W, w.alloc (.cells #[.int .i64 g, .int .i64 r, .slice a n c] 35) = W := ⟨_, rfl⟩
  have HAL := mkHid (show Below w.heap.size w W by rw [← hW]; exact (Below.refl _ _).alloc (Nat.le_refl _) _)
  have HES := mkHid ((hs.below HAL.out).more HAL.out.size)
  have hQ : W.heap[w.heap.size]? = some (.cells #[.int .i64 g, .int .i64 r, .slice a n c] 35) := by rw [← hW]; exact heap_alloc_new _ _
  have HK := mkHid (show ∀ Z, Below W.heap.size W Z → (Z.cell? ⟨w.heap.size, 0, none⟩ = some (.int .i64 g) ∧ Z.cell? ⟨w.heap.size, 1, none⟩ = some (.int .i64 r) ∧ Z.cell? ⟨w.heap.size, 2, none⟩ = some (.slice a n c)) from fun Z hZ =>
    have h := (hZ.block _ (Array.getElem?_eq_some_iff.1 hQ).1).trans hQ
    ⟨cell_of_row Z w.heap.size 0 _ _ _ h, cell_of_row Z w.heap.size 1 _ _ _ h, cell_of_row Z w.heap.size 2 _ _ _ h⟩)
  obtain ⟨k0, k1, k2⟩ := HK.out W (Below.refl _ _)
  have HC := mkHid hc
  clear hs hQ hc
  go_enter Try.func10, Try.ntmps10
  go_wp2_with fail
  refine (scheck_any g r a n c xs W HES.out HC.out).mono ?_
  rintro e w1 ⟨rfl, hb1⟩
  rw [hr, show superE false = codeV 14 from rfl]
  have HB1 := mkHid (HAL.out.trans (hb1.mono HAL.out.size))
  clear hb1 hr
  go_wp2_with fail
  go_ret2
  exact ⟨rfl, HB1.out⟩

set_option maxRecDepth 20000 in
set_option maxHeartbeats 2000000 in
theorem sbytes_yes (g r : Int) (a : Option Addr) (n c : Nat) (xs : List (Int × Int)) (w : World) (hs : ES w w.heap.size a n xs) (hc : CapOk n c) (hr : rightS g r xs = true) :
    Calls Try.prog 10 #[.agg #[.int .i64 g, .int .i64 r, .slice a n c]] w fun e w' => ∃ A C, e = .returned (.tuple #[.slice A 128 C, .nilIface]) ∧ w'.ownsRow w.heap.size 5 1 (.slice A 128 C) 128 ((frameOf 1 (superB g r xs)).map u8) ∧ Below w.heap.size w w' := by
  obtain ⟨⟨hg0, hg1, hr0, hr1⟩, hrl, _⟩ := rightS_ok hr
  have HR := mkHid hr
  have HRL := mkHid hrl
  have HL := mkHid hs.len
  have hn8 : n ≤ 8 := by have := rightL_8 hrl; rw [hs.len] at this; exact this
  clear hr hrl
  obtain ⟨W, hW⟩ : ∃ W, w.alloc (.cells #[.int .i64 g, .int .i64 r, .slice a n c] 35) = W := ⟨_, rfl⟩
  have HAL := mkHid (show Below w.heap.size w W by rw [← hW]; exact (Below.refl _ _).alloc (Nat.le_refl _) _)
  have HES := mkHid ((hs.below HAL.out).more HAL.out.size)
  have hQ : W.heap[w.heap.size]? = some (.cells #[.int .i64 g, .int .i64 r, .slice a n c] 35) := by rw [← hW]; exact heap_alloc_new _ _
  have HK := mkHid (show ∀ Z, Below W.heap.size W Z → (Z.cell? ⟨w.heap.size, 0, none⟩ = some (.int .i64 g) ∧ Z.cell? ⟨w.heap.size, 1, none⟩ = some (.int .i64 r) ∧ Z.cell? ⟨w.heap.size, 2, none⟩ = some (.slice a n c)) from fun Z hZ =>
    have h := (hZ.block _ (Array.getElem?_eq_some_iff.1 hQ).1).trans hQ
    ⟨cell_of_row Z w.heap.size 0 _ _ _ h, cell_of_row Z w.heap.size 1 _ _ _ h, cell_of_row Z w.heap.size 2 _ _ _ h⟩)
  obtain ⟨k0, k1, k2⟩ := HK.out W (Below.refl _ _)
  have HC := mkHid hc
  clear hs hQ hc
  go_enter Try.func10, Try.ntmps10
  go_wp2_with fail
  refine (scheck_any g r a n c xs W HES.out HC.out).mono ?_
  rintro e w1 ⟨rfl, hb1⟩
  rw [HR.out, show superE true = .nilIface from rfl]
  clear hW k0 k1 k2
  have HB1 := mkHid hb1
  have HK1 := mkHid (fun Z (hZ : Below w1.heap.size w1 Z) => HK.out Z (HB1.out.trans (hZ.mono HB1.out.size)))
  have hk1 := HK1.out w1 (Below.refl _ _)
  clear hb1
  go_wp2_with fail
  go_region_held3 (fun Z => Z.cell? ⟨w.heap.size, 0, none⟩ = some (.int .i64 g) ∧ Z.cell? ⟨w.heap.size, 1, none⟩ = some (.int .i64 r) ∧ Z.cell? ⟨w.heap.size, 2, none⟩ = some (.slice a n c)) (first | exact hk4 | exact hk3 | exact hk2 | exact HK1.out _ (by first | exact (Below.refl _ _).drew | exact (Below.refl _ _).drew.alloc (Nat.le_refl _) _ | exact ((Below.refl _ _).alloc (Nat.le_refl _) _).drew | exact HB2.out.alloc HB2.out.size _ | exact HB2.out)) (first
    | (go_at_call 32; refine (newPacker_at _).mono ?_; rintro e w2 ⟨g2, rfl, hp2, hg2, hb2⟩; have HB2 := mkHid (below_next (show Below w1.heap.size w1 _ by first | exact (Below.refl _ _).drew | exact (Below.refl _ _).drew.alloc (Nat.le_refl _) _ | exact ((Below.refl _ _).alloc (Nat.le_refl _) _).drew) hb2); have hk2 := HK1.out w2 HB2.out; have HP2 := mkHid hp2; have hgw : w1.heap.size ≤ g2 := Nat.le_trans (show w1.heap.size ≤ _ by simp [drew_heap]) hg2; have hgl := hp2.lt; (first | (have HN := mkHid ((hb2.block w1.heap.size (by simp [drew_heap])).trans (heap_alloc_new _ _))) | skip); clear hp2 hb2 hg2)
    | (go_at_call 33; refine (pLongL_own g2 g2 none 0 0 [] false _ 2 2 [g, r] (0, 0) _ (by first | exact HP2.out | exact HP2.out.alloc _) (by first | exact heap_alloc_new _ _ | exact HN.out) rfl (by intro y hy; simp at hy; unfold I64; omega) (by omega)).mono ?_; rintro e w3 ⟨rfl, A3, C3, hp3, hpb3⟩; have HB3 := mkHid (show Below w1.heap.size w1 w3 by first | exact HB2.out.trans (hpb3.below.mono hgw) | exact (HB2.out.alloc HB2.out.size _).trans (hpb3.below.mono hgw)); have hk3 := HK1.out w3 HB3.out; have HP3 := mkHid (show PK w3 g2 g2 A3 16 C3 (nb 8 g ++ nb 8 r) false from by
      have h := hp3
      rw [List.nil_append, packs_two] at h
      have hf : (false || !([g, r] : List Int).all (fits 8)) = false := by simp [fits_8 (show 0 ≤ g by omega) hg1, fits_8 hr0 hr1]
      rw [hf] at h
      exact h); clear hp3 hpb3)
    | (go_at_call 34; refine (bytes_ok_any g2 g2 A3 16 C3 (nb 8 g ++ nb 8 r) w3 HP3.out (by omega)).mono ?_; rintro e w4 ⟨A4, n4, C4, rfl, ho4, hb4⟩; have HB4 := mkHid (below_next HB3.out hb4); have hk4 := HK1.out w4 HB4.out; have hn4 : n4 = 16 := (by have h := ho4.1; rw [List.length_map, List.length_append, nb_len, nb_len] at h; omega); have HO4 := mkHid (own_less ho4 (show w1.heap.size ≤ w3.heap.size from HB3.out.size)); clear ho4 hb4))
  all_goals
    subst hn4
    obtain ⟨k0, k1, k2⟩ := HK1.out w4 HB4.out
    go_wp2_with fail
    refine (bytes_yes a n c xs w4 ((HES.out.below (HB1.out.trans (HB4.out.mono HB1.out.size))).more (HB1.out.trans (HB4.out.mono HB1.out.size)).size) HC.out HRL.out).mono ?_
    rintro e w5 ⟨A5, n5, C5, rfl, hx5, hc5, hb5⟩
    have HB5 := mkHid (below_next HB4.out hb5)
    have HO5 := mkHid (own_below HO4.out hb5)
    have HX5 := mkHid hx5
    have hn5 : n5 = 1 + 3 * n := by rw [← hx5.len, rosBytes_len, HL.out]
    subst hn5
    have hcap := own_cap HO5.out
    rw [show errV 0 = .nilIface from rfl]
    clear hb5 hx5 hc5 k0 k1 k2
    go_wp2_with (at_builtin; refine wpList_app _ rfl (.tmp 29) (.tmp 30) _ rfl w1.heap.size el_u8 A4 16 C4 _ rfl HO5.out w5.heap.size A5 (1 + 3 * n) C5 ((rosBytes xs).map u8) rfl HX5.out.1 (u8_cells _) (by unfold maxLen; omega) (by omega) HB5.out.size ?_; intro A6 C6 w6 ho6 hg6 hat6; have HO6 := mkHid ho6; have HB6 := mkHid (HB5.out.grown hg6 HB5.out.size (fun k hk => (HO5.out.lt k hk).1)); clear ho6 hg6 hat6)
    have HX6 := mkHid (show BS w6 w6.heap.size A6 (16 + (1 + 3 * n)) (superB g r xs) from ⟨by have h := SL.of_own HO6.out; rw [← List.map_append] at h; exact h, superB_ok g r xs⟩)
    refine (put_ok 1 A6 (16 + (1 + 3 * n)) C6 (superB g r xs) w6 HX6.out (by omega) ⟨by omega, by omega⟩).mono ?_
    rintro e w7 ⟨A7, C7, rfl, ho7, hb7⟩
    have HO7 := mkHid ho7
    have HB7 := mkHid (below_next HB6.out hb7)
    clear ho7 hb7
    go_wp2_with fail
    go_ret2
    have hs1 := HAL.out.size
    have hs2 := HB1.out.size
    have hs3 := HB6.out.size
    exact ⟨A7, C7, rfl, own_less HO7.out (by omega), HAL.out.trans ((HB1.out.trans (HB7.out.mono HB1.out.size)).mono HAL.out.size)⟩


end Go.Proofs.Ytbgfccfhiocomaa
