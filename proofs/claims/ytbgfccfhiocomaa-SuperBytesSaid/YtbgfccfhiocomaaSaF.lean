/- super.Parse by contract. -/
import Derived.Test.YtbgfccfhiocomaaSaE
namespace Go.Proofs.Ytbgfccfhiocomaa
open Go.RowKit Go.Shelf

/-- A superblock and an error are answered. -/
def RetSP (w : World) (l : List Int) (e : Ending) (w' : World) : Prop :=
  ∃ A n C, e = .returned (.tuple #[.agg #[.int .i64 (parsS l).2.1, .int .i64 (parsS l).2.2.1, .slice A n C], errV (parsS l).1]) ∧ ES w' w'.heap.size A n (parsS l).2.2.2 ∧ CapOk n C ∧ (∀ ad : Addr, A = some ad → w.heap.size ≤ ad.block) ∧ Below w.heap.size w w'
theorem RetSP.no {w w' : World} {l : List Int} (h : parsS l = (14, 0, 0, [])) (hb : Below w.heap.size w w') : RetSP w l (.returned (.tuple #[.agg #[.int .i64 0, .int .i64 0, .slice none 0 0], codeV 14])) w' :=
  ⟨none, 0, 0, by rw [h]; rfl, by rw [h]; exact ES.nil, ⟨by omega, by unfold maxLen; omega, by omega⟩, (fun ad h => by cases h), hb⟩
theorem errV_0 : errV 0 = .nilIface := rfl
theorem errV_14 : errV 14 = codeV 14 := rfl
theorem setCell_size (w : World) (p : Addr) (v : Value) : (w.setCell p v).heap.size = w.heap.size := by simp [World.setCell]
theorem takeOf_len (size : Nat) (bs : List Int) (bad : Bool) : (takeOf size bs bad).2.1.length ≤ bs.length := by
  unfold takeOf
  split
  · exact Nat.le_refl _
  · split <;> simp only [List.length_drop] <;> omega
theorem tk_ok {p : List Int} (ok : okBytes p) : okBytes (tk2 p).2.1 ∧ (tk2 p).2.1.length ≤ p.length :=
  ⟨(takeOf_ok (takeOf_ok ok 8 false).2.2 8 _).2.2, Nat.le_trans (takeOf_len _ _ _) (takeOf_len _ _ _)⟩
theorem parsS_no1 {l : List Int} (h : (getOf 1 l).1 ≠ 0) : parsS l = (14, 0, 0, []) := if_neg fun e => h e.1
theorem parsS_no2 {l p : List Int} (h : getOf 1 l = (0, p)) (h2 : okSD p = false) : parsS l = (14, 0, 0, []) := if_neg fun e => by rw [h] at e; rw [h2] at e; exact absurd e.2 (by decide)
theorem parsS_yes {l p : List Int} (h : getOf 1 l = (0, p)) (h2 : okSD p = true) : parsS l = (0, supG p, supR p, supL p) := by
  unfold parsS
  rw [h, if_pos ⟨rfl, h2⟩]
theorem ES.set_old {w : World} {B : Nat} {A : Option Addr} {n : Nat} {xs : List (Int × Int)} {g j : Nat} {v : Value} (h : ES w B A n xs) (hA : ∀ ad : Addr, A = some ad → g < ad.block) : ES (w.setCell ⟨g, j, none⟩ v) B A n xs := by
  refine ⟨⟨h.1.1, fun i hi => ?_⟩, h.2⟩
  obtain ⟨b, o, ha, hb, hc⟩ := h.1.2 i hi
  refine ⟨b, o, ha, hb, ?_⟩
  have hne := hA _ ha
  have hg : (w.setCell ⟨g, j, none⟩ v).heap[b]? = w.heap[b]? := heap_setCell_other _ _ _ _ (by have hne : g < b := hne; simp; omega)
  exact (World.cell?_of_block (w := w) hg).trans hc

set_option maxRecDepth 20000 in
set_option maxHeartbeats 4000000 in
theorem sparse_any (a : Option Addr) (n c : Nat) (l : List Int) (w : World) (hx : BS w w.heap.size a n l) (hn : CapOk n c) :
    Calls Try.prog 18 #[.slice a n c] w (RetSP w l) := by
  obtain ⟨W, hW⟩ : ∃ W, w.alloc (.cells #[.int .i64 0, .int .i64 0, .slice none 0 0] 35) = W := ⟨_, rfl⟩
  have hal : Below w.heap.size w W := by rw [← hW]; exact (Below.refl _ _).alloc (Nat.le_refl _) _
  have hsz : W.heap.size = w.heap.size + 1 := by rw [← hW]; simp
  have hrs : W.heap[w.heap.size]? = some (.cells #[.int .i64 0, .int .i64 0, .slice none 0 0] 35 (0, 0)) := by rw [← hW]; exact heap_alloc_new _ _
  have HX := mkHid ((hx.below hal).more hal.size)
  have HX0 := mkHid hx
  have HAL := mkHid hal
  have HCR := mkHid (show ∀ Z : World, Z.heap[w.heap.size]? = some (.cells #[.int .i64 0, .int .i64 0, .slice none 0 0] 35 (0, 0)) → (Z.cell? ⟨w.heap.size, 0, none⟩ = some (.int .i64 0) ∧ Z.cell? ⟨w.heap.size, 1, none⟩ = some (.int .i64 0) ∧ Z.cell? ⟨w.heap.size, 2, none⟩ = some (.slice none 0 0)) ∧ Z.frozen? ⟨w.heap.size, 0, none⟩ = false ∧ Z.frozen? ⟨w.heap.size, 1, none⟩ = false ∧ Z.frozen? ⟨w.heap.size, 2, none⟩ = false from fun Z h => ⟨⟨cell_of_row Z _ 0 _ _ _ h, cell_of_row Z _ 1 _ _ _ h, cell_of_row Z _ 2 _ _ _ h⟩, frozen_of_row Z _ 0 _ _ h, frozen_of_row Z _ 1 _ _ h, frozen_of_row Z _ 2 _ _ h⟩)
  have HRS := mkHid hrs
  have HOK := mkHid hx.2
  have HN := mkHid hn
  have HWS := mkHid hsz
  have HBAD := mkHid (show ∀ Z : World, parsS l = (14, 0, 0, []) → Below w.heap.size w Z → RetSP w l (.returned (.tuple #[.agg #[.int .i64 0, .int .i64 0, .slice none 0 0], codeV 14])) Z from fun Z h hb => RetSP.no h hb)
  clear hx hal hrs hsz
  by_cases hg0 : (getOf 1 l).1 = 0
  case neg =>
    have HG := mkHid (get_err 1 a n c l W HX.out hn hg0)
    have HP := mkHid (parsS_no1 hg0)
    clear hn hg0
    go_enter Try.func18, Try.ntmps18
    go_wp2_with fail
    refine HG.out.mono ?_
    rintro e w1 ⟨rfl, hb1⟩
    clear hW
    have hr1 := (hb1.block _ (by rw [HWS.out]; omega)).trans HRS.out
    obtain ⟨⟨c0, c1, c2⟩, f0, f1, f2⟩ := HCR.out w1 hr1
    have HB1 := mkHid (HAL.out.trans (hb1.mono HAL.out.size))
    clear hb1 hr1
    go_wp2_with fail
    refine bodyPost_ret (v := .tuple #[.agg #[.int .i64 0, .int .i64 0, .slice none 0 0], codeV 14]) (by simp [results, Try.results18, go_sem, c0, c1, c2]) rfl ?_
    exact HBAD.out _ HP.out (by first | exact HB1.out | exact ((HB1.out.setCell (p := ⟨w.heap.size, 0, none⟩) (Nat.le_refl _) _).setCell (p := ⟨w.heap.size, 1, none⟩) (Nat.le_refl _) _).setCell (p := ⟨w.heap.size, 2, none⟩) (Nat.le_refl _) _)
  obtain ⟨p, hp⟩ : ∃ p, getOf 1 l = (0, p) := ⟨(getOf 1 l).2, Prod.ext hg0 rfl⟩
  obtain ⟨hlf, hpl, hpok⟩ := frame_of_get HOK.out hp
  have hgk := get_ok 1 a n c l W HX.out hn hg0
  rw [hp] at hgk
  have HG := mkHid hgk
  have HGP := mkHid hp
  have HLF := mkHid hlf
  have HPOK := mkHid hpok
  have HPL := mkHid hpl
  have HSM := mkHid (sup_same hpok)
  clear hn hg0 hgk hp hlf hpok
  go_enter Try.func18, Try.ntmps18
  go_wp2_with fail
  refine HG.out.mono ?_
  rintro e w1 ⟨A1, n1, C1, rfl, ho1, hb1⟩
  clear hW
  have hbs1 : BS w1 w1.heap.size A1 n1 p := ⟨SL.of_own ho1, HPOK.out⟩
  have hn1 : n1 ≤ 122 := by rw [← hbs1.len]; exact hpl
  have HBS1 := mkHid hbs1
  have HR1 := mkHid ((hb1.block _ (by rw [HWS.out]; omega)).trans HRS.out)
  have HB1 := mkHid (HAL.out.trans (hb1.mono HAL.out.size))
  have hs1 : w.heap.size + 1 ≤ w1.heap.size := by have := hb1.size; have := HWS.out; omega
  clear ho1 hb1 hbs1 hpl
  go_wp2_with fail
  refine (newUnpacker_any A1 n1 C1 p w1 HBS1.out (by omega)).mono ?_
  rintro e w2 ⟨g, rfl, hg, ⟨au, nu, cu, hu⟩, hb2⟩
  have HU2 := mkHid hu
  have hgl := hu.lt
  have HR2 := mkHid ((hb2.block _ (by omega)).trans HR1.out)
  have HB2 := mkHid (HB1.out.trans (hb2.mono HB1.out.size))
  clear hu hb2
  go_wp2_with fail
  refine (uLong_any g au nu cu p false w2 HU2.out).mono ?_
  rintro e w3 ⟨rfl, ⟨a3, n3, c3, hu3⟩, hg3⟩
  rw [show takeOf 8 p false = tk1 p from rfl] at hu3 ⊢
  have hs3 : w2.heap.size ≤ w3.heap.size := hg3.size
  have HR3 := mkHid ((hg3.block _ (by omega) (fun e => by injection e with e; omega)).trans HR2.out)
  have HB3 := mkHid (HB2.out.grown hg3 HB2.out.size (fun k hk => by injection hk with hk; omega))
  have HU3 := mkHid hu3
  clear hu3 hg3
  go_wp2_with fail
  refine (uLong_any g a3 n3 c3 (tk1 p).2.1 (tk1 p).2.2 w3 HU3.out).mono ?_
  rintro e w4 ⟨rfl, ⟨a4, n4, c4, hu4⟩, hg4⟩
  rw [show takeOf 8 (tk1 p).2.1 (tk1 p).2.2 = tk2 p from rfl] at hu4 ⊢
  have hs4 : w3.heap.size ≤ w4.heap.size := hg4.size
  have HR4 := mkHid ((hg4.block _ (by omega) (fun e => by injection e with e; omega)).trans HR3.out)
  have HB4 := mkHid (HB3.out.grown hg4 HB3.out.size (fun k hk => by injection hk with hk; omega))
  have HTK := mkHid (tk_ok HPOK.out)
  have HOP := mkHid (show okSP p = (!(tk2 p).2.2 && (goodB (tk2 p).2.1 && (rightS (tk1 p).1 (tk2 p).1 (enAll (tk2 p).2.1) && decide (superB (tk1 p).1 (tk2 p).1 (enAll (tk2 p).2.1) = p)))) from rfl)
  obtain ⟨G, hG⟩ : ∃ G, (tk1 p).1 = G := ⟨_, rfl⟩
  obtain ⟨s2, hs2⟩ : ∃ s, tk2 p = s := ⟨_, rfl⟩
  rw [hG, hs2] at HOP HSM
  rw [hs2] at hu4 HTK
  rw [hG, hs2]
  obtain ⟨R, q, bad⟩ := s2
  simp only at hu4 HOP HSM HTK ⊢
  have HU4 := mkHid hu4
  clear hu4 hg4 hG hs2
  go_wp2_with fail
  obtain ⟨W5, hW5⟩ : ∃ W5, w4.alloc (.cells #[.int .i64 G, .int .i64 R, .slice none 0 0] 35) = W5 := ⟨_, rfl⟩
  have hs5 : W5.heap.size = w4.heap.size + 1 := by rw [← hW5]; simp
  have hal5 : Below w4.heap.size w4 W5 := by rw [← hW5]; exact (Below.refl _ _).alloc (Nat.le_refl _) _
  have hX5 : W5.heap[w4.heap.size]? = some (.cells #[.int .i64 G, .int .i64 R, .slice none 0 0] 35 (0, 0)) := by rw [← hW5]; exact heap_alloc_new _ _
  have HX5 := mkHid hX5
  have HU5 := mkHid (HU4.out.below hal5 (Nat.le_refl _))
  have HR5 := mkHid ((hal5.block _ (by omega)).trans HR4.out)
  have HB5 := mkHid (HB4.out.trans (hal5.mono HB4.out.size))
  rw [hW5]
  clear hal5 hX5 hW5
  -- Rest
  cases bad with
  | true =>
    have HP := mkHid (parsS_no2 HGP.out (show okSD p = false by rw [← HSM.out.1, HOP.out]; rfl))
    refine (rest_bad g a4 n4 c4 q W5 HU5.out).mono ?_
    rintro e wz ⟨rfl, hwz⟩
    subst hwz
    go_wp2_with fail
    refine (parse_any none 0 0 [] W5 BS.nil (by omega)).mono ?_
    rintro e w6 ⟨A6, C6, rfl, _, _, _, hb6⟩
    rw [show parseOf [] = (14, 0, []) from rfl]
    simp only [List.length_nil]
    have HX6 := mkHid ((hb6.block _ (by omega)).trans HX5.out)
    have x0 := cell_of_row w6 w4.heap.size 0 _ _ _ HX6.out
    have x1 := cell_of_row w6 w4.heap.size 1 _ _ _ HX6.out
    have x2 := cell_of_row w6 w4.heap.size 2 _ _ _ HX6.out
    have z2 := frozen_of_row w6 w4.heap.size 2 _ _ HX6.out
    simp at x0 x1 x2
    have HR6 := mkHid ((heap_setCell_other w6 ⟨w4.heap.size, 2, none⟩ w.heap.size (.slice A6 0 C6) (by simp; omega)).trans ((hb6.block _ (by omega)).trans HR5.out))
    have HB6 := mkHid ((HB5.out.trans (hb6.mono HB5.out.size)).setCell (p := ⟨w4.heap.size, 2, none⟩) (by simp; omega) (.slice A6 0 C6))
    obtain ⟨⟨c0, c1, c2⟩, f0, f1, f2⟩ := HCR.out _ HR6.out
    clear hb6
    rw [errV_14]
    go_wp2_with fail
    refine bodyPost_ret (v := .tuple #[.agg #[.int .i64 0, .int .i64 0, .slice none 0 0], codeV 14]) (by simp [results, Try.results18, go_sem, c0, c1, c2]) rfl ?_
    exact HBAD.out _ HP.out (by first | exact HB6.out | exact ((HB6.out.setCell (p := ⟨w.heap.size, 0, none⟩) (Nat.le_refl _) _).setCell (p := ⟨w.heap.size, 1, none⟩) (Nat.le_refl _) _).setCell (p := ⟨w.heap.size, 2, none⟩) (Nat.le_refl _) _)
  | false =>
    refine (rest_any g a4 n4 c4 q W5 HU5.out).mono ?_
    rintro e w6 ⟨⟨A6, n6, C6, rfl, ho6⟩, ⟨a7, n7, c7, hu6⟩, hg6⟩
    have hs6 : W5.heap.size ≤ w6.heap.size := hg6.size
    have HU6 := mkHid hu6
    have hbs6 : BS w6 w6.heap.size A6 n6 q := ⟨SL.of_own ho6, HTK.out.1⟩
    have HBS6 := mkHid hbs6
    have hn6 : n6 ≤ 122 := by have h := hbs6.len; have h2 := HTK.out.2; have h3 := HPL.out; omega
    have HR6 := mkHid ((hg6.block _ (by omega) (fun e => by injection e with e; omega)).trans HR5.out)
    have HX6 := mkHid ((hg6.block _ (by omega) (fun e => by injection e with e; omega)).trans HX5.out)
    have HB6 := mkHid (HB5.out.grown hg6 HB5.out.size (fun k hk => by injection hk with hk; omega))
    clear hu6 ho6 hbs6 hg6
    go_wp2_with fail
    refine (parse_any A6 n6 C6 q w6 HBS6.out (by omega)).mono ?_
    rintro e w7 ⟨A7, C7, rfl, hes7, hc7, hnew7, hb7⟩
    have hs7 := hb7.size
    have HX7 := mkHid ((hb7.block _ (by omega)).trans HX6.out)
    have HU7 := mkHid (HU6.out.below hb7 (Nat.le_refl _))
    have x0 := cell_of_row w7 w4.heap.size 0 _ _ _ HX7.out
    have x1 := cell_of_row w7 w4.heap.size 1 _ _ _ HX7.out
    have x2 := cell_of_row w7 w4.heap.size 2 _ _ _ HX7.out
    have z2 := frozen_of_row w7 w4.heap.size 2 _ _ HX7.out
    simp at x0 x1 x2
    have HR7 := mkHid ((hb7.block _ (by omega)).trans HR6.out)
    have HB7 := mkHid (HB6.out.trans (hb7.mono HB6.out.size))
    have hcase : parseOf q = (14, 0, []) ∨ (goodB q = true ∧ parseOf q = (0, 1 + 3 * hdOf q, enAll q)) := by
      unfold parseOf
      cases hgb : goodB q with
      | true => exact .inr ⟨rfl, if_pos rfl⟩
      | false => exact .inl (if_neg (by decide))
    rcases hcase with hpa | ⟨hgb, hpa⟩
    · have hgb : goodB q = false := by
        cases hgb : goodB q with
        | false => rfl
        | true => unfold parseOf at hpa; rw [if_pos hgb] at hpa; cases hpa
      have HP := mkHid (parsS_no2 HGP.out (show okSD p = false by rw [← HSM.out.1, HOP.out, hgb]; rfl))
      rw [hpa]
      simp only [List.length_nil]
      have HR8 := mkHid ((heap_setCell_other w7 ⟨w4.heap.size, 2, none⟩ w.heap.size (.slice A7 0 C7) (by simp; omega)).trans HR7.out)
      have HB8 := mkHid (HB7.out.setCell (p := ⟨w4.heap.size, 2, none⟩) (by simp; omega) (.slice A7 0 C7))
      obtain ⟨⟨c0, c1, c2⟩, f0, f1, f2⟩ := HCR.out _ HR8.out
      clear hb7 hgb hpa hes7 hc7 hnew7
      rw [errV_14]
      go_wp2_with fail
      refine bodyPost_ret (v := .tuple #[.agg #[.int .i64 0, .int .i64 0, .slice none 0 0], codeV 14]) (by simp [results, Try.results18, go_sem, c0, c1, c2]) rfl ?_
      exact HBAD.out _ HP.out (by first | exact HB8.out | exact ((HB8.out.setCell (p := ⟨w.heap.size, 0, none⟩) (Nat.le_refl _) _).setCell (p := ⟨w.heap.size, 1, none⟩) (Nat.le_refl _) _).setCell (p := ⟨w.heap.size, 2, none⟩) (Nat.le_refl _) _)
    · rw [hpa] at hes7 hc7 ⊢
      simp only at hes7 hc7 ⊢
      obtain ⟨m, hm⟩ : ∃ m, (enAll q).length = m := ⟨_, rfl⟩
      rw [hm] at hes7 hc7 ⊢
      obtain ⟨xs, hxs⟩ : ∃ xs, enAll q = xs := ⟨_, rfl⟩
      rw [hxs] at hes7 HOP HSM
      have HXM := mkHid (show xs.length = m by rw [← hxs, hm])
      rw [hgb] at HOP
      simp only [Bool.not_false, Bool.true_and] at HOP
      have HES8 := mkHid (show ES (w7.setCell ⟨w4.heap.size, 2, none⟩ (.slice A7 m C7)) (w7.setCell ⟨w4.heap.size, 2, none⟩ (.slice A7 m C7)).heap.size A7 m xs by rw [setCell_size]; exact hes7.set_old (fun ad had => by have := hnew7 ad had; omega))
      have HC8 := mkHid hc7
      have HNW := mkHid (show ∀ ad : Addr, A7 = some ad → w6.heap.size ≤ ad.block from hnew7)
      have HR8 := mkHid ((heap_setCell_other w7 ⟨w4.heap.size, 2, none⟩ w.heap.size (.slice A7 m C7) (by simp; omega)).trans HR7.out)
      have HX8 := mkHid (show (w7.setCell ⟨w4.heap.size, 2, none⟩ (.slice A7 m C7)).heap[w4.heap.size]? = some (.cells #[.int .i64 G, .int .i64 R, .slice A7 m C7] 35 (0, 0)) from heap_setCell_same _ _ 2 _ _ _ HX7.out)
      have HB8 := mkHid (HB7.out.setCell (p := ⟨w4.heap.size, 2, none⟩) (by simp; omega) (.slice A7 m C7))
      have HU8 := mkHid (HU7.out.keep (fun b hb => heap_setCell_other w7 ⟨w4.heap.size, 2, none⟩ b (.slice A7 m C7) (by simp; omega)) (Nat.le_of_eq (setCell_size _ _ _).symm))
      have hs8 : (w7.setCell ⟨w4.heap.size, 2, none⟩ (.slice A7 m C7)).heap.size = w7.heap.size := setCell_size _ _ _
      clear hb7 hgb hpa hes7 hc7 hnew7 hm hxs
      rw [errV_0]
      go_wp2_with fail
      obtain ⟨w8, hw8⟩ : ∃ w8, w7.setCell ⟨w4.heap.size, 2, none⟩ (.slice A7 m C7) = w8 := ⟨_, rfl⟩
      rw [hw8] at HES8 HR8 HX8 HB8 HU8 hs8 ⊢
      clear hw8 x0 x1 x2 z2
      refine (done_any g a7 n7 c7 [] false w8 HU8.out).mono ?_
      rintro e wz ⟨rfl, hwz⟩
      subst hwz
      rw [show (if doneOf [] false = true then Value.nilIface else codeV 14) = .nilIface from rfl]
      have x0 := cell_of_row w8 w4.heap.size 0 _ _ _ HX8.out
      have x1 := cell_of_row w8 w4.heap.size 1 _ _ _ HX8.out
      have x2 := cell_of_row w8 w4.heap.size 2 _ _ _ HX8.out
      simp at x0 x1 x2
      cases hr : rightS G R xs with
      | false =>
        have HP := mkHid (parsS_no2 HGP.out (show okSD p = false by rw [← HSM.out.1, HOP.out, hr]; rfl))
        have HNB := mkHid (sbytes_no G R A7 m C7 xs w8 HES8.out HC8.out hr)
        clear hr
        go_wp2_with fail
        refine HNB.out.mono ?_
        rintro e w9 ⟨rfl, hb9⟩
        have hr9 := (hb9.block _ (by omega)).trans HR8.out
        obtain ⟨⟨c0, c1, c2⟩, f0, f1, f2⟩ := HCR.out w9 hr9
        have HB9 := mkHid (HB8.out.trans (hb9.mono HB8.out.size))
        clear hb9 hr9 x0 x1 x2
        go_wp2_with fail
        refine bodyPost_ret (v := .tuple #[.agg #[.int .i64 0, .int .i64 0, .slice none 0 0], codeV 14]) (by simp [results, Try.results18, go_sem, c0, c1, c2]) rfl ?_
        exact HBAD.out _ HP.out (by first | exact HB9.out | exact ((HB9.out.setCell (p := ⟨w.heap.size, 0, none⟩) (Nat.le_refl _) _).setCell (p := ⟨w.heap.size, 1, none⟩) (Nat.le_refl _) _).setCell (p := ⟨w.heap.size, 2, none⟩) (Nat.le_refl _) _)
      | true =>
        have HNB := mkHid (sbytes_yes G R A7 m C7 xs w8 HES8.out HC8.out hr)
        have HRT := mkHid hr
        rw [hr, Bool.true_and] at HOP
        have hm8 : m ≤ 8 := by have := rightL_8 (rightS_ok hr).2.1; have := HXM.out; omega
        clear hr
        go_wp2_with fail
        refine HNB.out.mono ?_
        rintro e w9 ⟨A9, C9, rfl, ho9, hb9⟩
        have HR9 := mkHid ((hb9.block _ (by omega)).trans HR8.out)
        have HX9 := mkHid ((hb9.block _ (by omega)).trans HX8.out)
        have HB9 := mkHid (HB8.out.trans (hb9.mono HB8.out.size))
        have HES9 := mkHid ((HES8.out.below hb9).more hb9.size)
        have HBS9 := mkHid (show BS w9 w9.heap.size A9 128 (frameOf 1 (superB G R xs)) from ⟨SL.of_own ho9, super_frame_ok HRT.out⟩)
        have HXL := mkHid (HX0.out.below HB9.out)
        have HED := mkHid (show decide (frameOf 1 (superB G R xs) = l) = decide (superB G R xs = p) from by
          rw [decide_eq_decide]
          constructor
          · intro h
            rw [HLF.out] at h
            exact frame_inj (by rw [superB_len, HXM.out]; omega) HPL.out h
          · intro h
            rw [h]
            exact HLF.out.symm)
        clear ho9 hb9 x0 x1 x2
        go_wp2_with fail
        refine (equal_any A9 a 128 n C9 c _ _ _ _ w9 HBS9.out HXL.out).mono ?_
        rintro e wz ⟨rfl, rfl⟩
        rw [HED.out]
        obtain ⟨⟨c0, c1, c2⟩, f0, f1, f2⟩ := HCR.out w9 HR9.out
        by_cases hb : superB G R xs = p
        · have hok : okSD p = true := by rw [← HSM.out.1, HOP.out, decide_eq_true hb]
          obtain ⟨e1, e2, e3⟩ := HSM.out.2 hok
          have HP := mkHid (parsS_yes HGP.out hok)
          rw [← e1, ← e2, ← e3] at HP
          have x0 := cell_of_row w9 w4.heap.size 0 _ _ _ HX9.out
          have x1 := cell_of_row w9 w4.heap.size 1 _ _ _ HX9.out
          have x2 := cell_of_row w9 w4.heap.size 2 _ _ _ HX9.out
          simp at x0 x1 x2
          rw [decide_eq_true hb]
          clear hb hok e1 e2 e3
          go_wp2_with fail
          refine bodyPost_ret (v := .tuple #[.agg #[.int .i64 G, .int .i64 R, .slice A7 m C7], .nilIface]) (by simp [results, Try.results18, go_sem, c0, c1, c2]) rfl ?_
          refine ⟨A7, m, C7, by rw [HP.out]; rfl, ?_, HC8.out, (fun ad had => by have := HNW.out ad had; omega), ((HB9.out.setCell (p := ⟨w.heap.size, 0, none⟩) (Nat.le_refl _) _).setCell (p := ⟨w.heap.size, 1, none⟩) (Nat.le_refl _) _).setCell (p := ⟨w.heap.size, 2, none⟩) (Nat.le_refl _) _⟩
          rw [HP.out]
          simp only [setCell_size]
          have hk : ∀ ad : Addr, A7 = some ad → w.heap.size < ad.block := fun ad had => by have := HNW.out ad had; omega
          exact ((HES9.out.set_old hk).set_old hk).set_old hk
        · have HP := mkHid (parsS_no2 HGP.out (show okSD p = false by rw [← HSM.out.1, HOP.out, decide_eq_false hb]))
          rw [decide_eq_false hb]
          clear hb
          go_wp2_with fail
          refine bodyPost_ret (v := .tuple #[.agg #[.int .i64 0, .int .i64 0, .slice none 0 0], codeV 14]) (by simp [results, Try.results18, go_sem, c0, c1, c2]) rfl ?_
          exact HBAD.out _ HP.out (by first | exact HB9.out | exact ((HB9.out.setCell (p := ⟨w.heap.size, 0, none⟩) (Nat.le_refl _) _).setCell (p := ⟨w.heap.size, 1, none⟩) (Nat.le_refl _) _).setCell (p := ⟨w.heap.size, 2, none⟩) (Nat.le_refl _) _)

end Go.Proofs.Ytbgfccfhiocomaa
