/- portageref06.Parse by contract. -/
import Derived.Test.YtbgfccfhiocomaaSaF
namespace Go.Proofs.Ytbgfccfhiocomaa
open Go.RowKit Go.Shelf

/-- What the document's Parse answers. -/
def RetDS (w : World) (l : List Int) (e : Ending) (w' : World) : Prop :=
  ∃ A n C, e = .returned (.tuple #[.agg #[.int .i64 (parsS l).2.1, .int .i64 (parsS l).2.2.1, .slice A n C], .bool (decide ((parsS l).1 = 0))]) ∧ ES w' w'.heap.size A n (parsS l).2.2.2 ∧ CapOk n C ∧ (∀ ad : Addr, A = some ad → w.heap.size ≤ ad.block) ∧ Below w.heap.size w w'
theorem RetDS.no {w w' : World} {l : List Int} (h : parsS l = (14, 0, 0, [])) (hb : Below w.heap.size w w') : RetDS w l (.returned (.tuple #[.agg #[.int .i64 0, .int .i64 0, .slice none 0 0], .bool false])) w' :=
  ⟨none, 0, 0, by rw [h]; rfl, by rw [h]; exact ES.nil, ⟨by omega, by unfold maxLen; omega, by omega⟩, (fun ad h => by cases h), hb⟩

set_option maxRecDepth 20000 in
set_option maxHeartbeats 4000000 in
theorem rsparse_any (a : Option Addr) (n c : Nat) (l : List Int) (w : World) (hx : BS w w.heap.size a n l) (hn : CapOk n c) :
    Calls Try.prog 17 #[.slice a n c] w (RetDS w l) := by
  obtain ⟨W, hW⟩ : ∃ W, w.alloc (.cells #[.int .i64 0, .int .i64 0, .slice none 0 0] 24) = W := ⟨_, rfl⟩
  have hal : Below w.heap.size w W := by rw [← hW]; exact (Below.refl _ _).alloc (Nat.le_refl _) _
  have hsz : W.heap.size = w.heap.size + 1 := by rw [← hW]; simp
  have hrs : W.heap[w.heap.size]? = some (.cells #[.int .i64 0, .int .i64 0, .slice none 0 0] 24 (0, 0)) := by rw [← hW]; exact heap_alloc_new _ _
  have HAL := mkHid hal
  have HCR := mkHid (show ∀ Z : World, Z.heap[w.heap.size]? = some (.cells #[.int .i64 0, .int .i64 0, .slice none 0 0] 24 (0, 0)) → (Z.cell? ⟨w.heap.size, 0, none⟩ = some (.int .i64 0) ∧ Z.cell? ⟨w.heap.size, 1, none⟩ = some (.int .i64 0) ∧ Z.cell? ⟨w.heap.size, 2, none⟩ = some (.slice none 0 0)) ∧ Z.frozen? ⟨w.heap.size, 0, none⟩ = false ∧ Z.frozen? ⟨w.heap.size, 1, none⟩ = false ∧ Z.frozen? ⟨w.heap.size, 2, none⟩ = false from fun Z h => ⟨⟨cell_of_row Z _ 0 _ _ _ h, cell_of_row Z _ 1 _ _ _ h, cell_of_row Z _ 2 _ _ _ h⟩, frozen_of_row Z _ 0 _ _ h, frozen_of_row Z _ 1 _ _ h, frozen_of_row Z _ 2 _ _ h⟩)
  have HRS := mkHid hrs
  have HOK := mkHid hx.2
  have HWS := mkHid hsz
  have HBAD := mkHid (show ∀ Z : World, parsS l = (14, 0, 0, []) → Below w.heap.size w Z → RetDS w l (.returned (.tuple #[.agg #[.int .i64 0, .int .i64 0, .slice none 0 0], .bool false])) Z from fun Z h hb => RetDS.no h hb)
  obtain ⟨E, hE⟩ : ∃ E, (getOf 1 l).1 = E := ⟨_, rfl⟩
  obtain ⟨p, hp⟩ : ∃ p, (getOf 1 l).2 = p := ⟨_, rfl⟩
  have hgk := rget_any 1 a n c l W ((hx.below hal).more hal.size) hn
  rw [hE, hp] at hgk
  have HG := mkHid hgk
  have HGP := mkHid (show getOf 1 l = (E, p) from Prod.ext hE hp)
  clear hx hal hrs hsz hn hE hp hgk
  go_enter Try.func17, Try.ntmps17
  go_wp2_with fail
  refine HG.out.mono ?_
  rintro e w1 ⟨A1, n1, C1, rfl, ho1, hb1⟩
  clear hW
  have hcap := own_cap ho1
  have hr1 := (hb1.block _ (by rw [HWS.out]; omega)).trans HRS.out
  obtain ⟨⟨c0, c1, c2⟩, f0, f1, f2⟩ := HCR.out w1 hr1
  have HR1 := mkHid hr1
  have HB1 := mkHid (HAL.out.trans (hb1.mono HAL.out.size))
  have hs1 : w.heap.size + 1 ≤ w1.heap.size := by have := hb1.size; have := HWS.out; omega
  have HO1 := mkHid ho1
  have HPN := mkHid (show p.length = n1 by have h := ho1.1; rw [List.length_map] at h; omega)
  clear hb1 hr1 ho1
  by_cases hE0 : E = 0
  case neg =>
    have HP := mkHid (parsS_no1 (l := l) (by rw [HGP.out]; exact hE0))
    have hEb : (E != 0) = true := by simpa using hE0
    clear hE0
    go_wp2_with fail
    refine bodyPost_ret (v := .tuple #[.agg #[.int .i64 0, .int .i64 0, .slice none 0 0], .bool false]) (by simp [results, Try.results17, go_sem, c0, c1, c2]) rfl ?_
    exact HBAD.out _ HP.out (by first | exact HB1.out | exact ((HB1.out.setCell (p := ⟨w.heap.size, 0, none⟩) (Nat.le_refl _) _).setCell (p := ⟨w.heap.size, 1, none⟩) (Nat.le_refl _) _).setCell (p := ⟨w.heap.size, 2, none⟩) (Nat.le_refl _) _)
  subst hE0
  obtain ⟨hlf, hpl, hpok⟩ := frame_of_get HOK.out HGP.out
  have HPOK := mkHid hpok
  have HBS1 := mkHid (show BS w1 w1.heap.size A1 n1 p from ⟨SL.of_own HO1.out, hpok⟩)
  have hn122 : n1 ≤ 122 := by rw [← HPN.out]; exact hpl
  clear hlf hpok hpl
  by_cases h17 : n1 < 17
  · have HP := mkHid (parsS_no2 HGP.out (show okSD p = false by unfold okSD; rw [decide_eq_false (by rw [HPN.out]; omega)]; rfl))
    go_wp2_with fail
    refine bodyPost_ret (v := .tuple #[.agg #[.int .i64 0, .int .i64 0, .slice none 0 0], .bool false]) (by simp [results, Try.results17, go_sem, c0, c1, c2]) rfl ?_
    exact HBAD.out _ HP.out (by first | exact HB1.out | exact ((HB1.out.setCell (p := ⟨w.heap.size, 0, none⟩) (Nat.le_refl _) _).setCell (p := ⟨w.heap.size, 1, none⟩) (Nat.le_refl _) _).setCell (p := ⟨w.heap.size, 2, none⟩) (Nat.le_refl _) _)
  have g17 : 17 ≤ n1 := by omega
  have HOD := mkHid (show okSD p = ((readOf 8 p).2 && ((readOf 8 (p.drop 8)).2 && (goodB (p.drop 16) && (decide (16 + (1 + 3 * hdOf (p.drop 16)) = (n1 : Int)) && rightS (supG p) (supR p) (supL p))))) by unfold okSD; rw [decide_eq_true (show 17 ≤ p.length by rw [HPN.out]; exact g17), Bool.true_and, HPN.out])
  clear h17
  obtain ⟨gb, ob, rfl, hgb, _⟩ := HBS1.out.at_ (j := 0) (by omega)
  have HX8 := mkHid (show BS w1 w1.heap.size (some ⟨gb, ob + 8, none⟩) (n1 - 8) (p.drop 8) by have h := HBS1.out.cut 8 n1 (by omega) (Nat.le_refl _); rwa [List.take_of_length_le (by rw [HPN.out]; exact Nat.le_refl _)] at h)
  have HX16 := mkHid (show BS w1 w1.heap.size (some ⟨gb, ob + 16, none⟩) (n1 - 16) (p.drop 16) by have h := HBS1.out.cut 16 n1 (by omega) (Nat.le_refl _); rwa [List.take_of_length_le (by rw [HPN.out]; exact Nat.le_refl _)] at h)
  clear hgb
  go_wp2_with fail
  refine (rread_any 8 (.inr (.inr (.inr rfl))) (some ⟨gb, ob, none⟩) n1 C1 p w1 HBS1.out (by omega)).mono ?_
  rintro e wz ⟨rfl, hwz⟩
  subst hwz
  rw [show (readOf 8 p).1 = supG p from rfl]
  obtain ⟨b1, hb1⟩ : ∃ b, (readOf 8 p).2 = b := ⟨_, rfl⟩
  obtain ⟨G, hG⟩ : ∃ G, supG p = G := ⟨_, rfl⟩
  rw [hb1, hG] at HOD
  rw [hb1, hG]
  have HGG := mkHid hG
  clear hb1 hG
  go_wp2_with fail
  refine (rread_any 8 (.inr (.inr (.inr rfl))) (some ⟨gb, ob + 8, none⟩) (n1 - 8) (C1 - 8) (p.drop 8) w1 HX8.out (by omega)).mono ?_
  rintro e wz ⟨rfl, hwz⟩
  subst hwz
  rw [show (readOf 8 (p.drop 8)).1 = supR p from rfl]
  obtain ⟨b2, hb2⟩ : ∃ b, (readOf 8 (p.drop 8)).2 = b := ⟨_, rfl⟩
  obtain ⟨R, hR⟩ : ∃ R, supR p = R := ⟨_, rfl⟩
  rw [hb2, hR] at HOD
  rw [hb2, hR]
  have HRR := mkHid hR
  clear hb2 hR
  go_wp2_with fail
  refine (rparse_any (some ⟨gb, ob + 16, none⟩) (n1 - 16) (C1 - 16) (p.drop 16) w1 HX16.out (by omega) ⟨by omega, by omega⟩).mono ?_
  rintro e w2 ⟨A2, C2, rfl, hes2, hc2, hnew2, hb2⟩
  obtain ⟨q, hq⟩ : ∃ q, p.drop 16 = q := ⟨_, rfl⟩
  have HSL := mkHid (show supL p = enAll q by unfold supL; rw [hq])
  have hqok : okBytes q := by rw [← hq]; exact HPOK.out.drop 16
  rw [hq] at hes2 hc2 HOD
  rw [hq]
  have hs2 := hb2.size
  have HR2 := mkHid ((hb2.block _ (by omega)).trans HR1.out)
  have HB2 := mkHid (HB1.out.trans (hb2.mono HB1.out.size))
  clear hb2 c0 c1 c2 f0 f1 f2 hq
  have hpc : ∃ (N : Int) (ys : List (Int × Int)), (parseOf q).2 = (N, ys) ∧ ((N = 0 ∧ ys = [] ∧ goodB q = false) ∨ (N = 1 + 3 * hdOf q ∧ 1 ≤ N ∧ N ≤ 25 ∧ ys = enAll q ∧ goodB q = true)) := by
    unfold parseOf
    cases hgb : goodB q with
    | true =>
      refine ⟨1 + 3 * hdOf q, enAll q, rfl, .inr ⟨rfl, ?_, ?_, rfl, rfl⟩⟩
      · have := (hd_ok hqok).1; omega
      · unfold goodB at hgb
        rw [Bool.and_eq_true, decide_eq_true_eq] at hgb
        omega
    | false => exact ⟨0, [], rfl, .inl ⟨rfl, rfl, rfl⟩⟩
  obtain ⟨N, ys, hpq, hpc⟩ := hpc
  rw [hpq] at hes2 hc2
  rw [hpq]
  simp only at hes2 hc2 ⊢
  obtain ⟨m, hm⟩ : ∃ m, ys.length = m := ⟨_, rfl⟩
  rw [hm] at hes2 hc2 ⊢
  have HPC := mkHid hpc
  obtain ⟨W3, hW3⟩ : ∃ W3, w2.alloc (.cells #[.int .i64 G, .int .i64 R, .slice A2 m C2] 24) = W3 := ⟨_, rfl⟩
  have hal3 : Below w2.heap.size w2 W3 := by rw [← hW3]; exact (Below.refl _ _).alloc (Nat.le_refl _) _
  have hs3 : W3.heap.size = w2.heap.size + 1 := by rw [← hW3]; simp
  have hX3 : W3.heap[w2.heap.size]? = some (.cells #[.int .i64 G, .int .i64 R, .slice A2 m C2] 24 (0, 0)) := by rw [← hW3]; exact heap_alloc_new _ _
  have HX3 := mkHid hX3
  have x0 := cell_of_row W3 w2.heap.size 0 _ _ _ hX3
  have x1 := cell_of_row W3 w2.heap.size 1 _ _ _ hX3
  have x2 := cell_of_row W3 w2.heap.size 2 _ _ _ hX3
  simp at x0 x1 x2
  have HR3 := mkHid ((hal3.block _ (by omega)).trans HR2.out)
  obtain ⟨⟨c0, c1, c2⟩, f0, f1, f2⟩ := HCR.out W3 HR3.out
  have HB3 := mkHid (HB2.out.trans (hal3.mono HB2.out.size))
  have HES3 := mkHid ((hes2.below hal3).more hal3.size)
  have HC3 := mkHid hc2
  have HNW := mkHid (show ∀ ad : Addr, A2 = some ad → w1.heap.size ≤ ad.block from hnew2)
  clear hes2 hc2 hnew2 hX3 hal3 hpq hm hpc hqok
  cases b1 with
  | false =>
    have HP := mkHid (parsS_no2 HGP.out (show okSD p = false by rw [HOD.out]; rfl))
    go_wp2_with fail
    refine bodyPost_ret (v := .tuple #[.agg #[.int .i64 0, .int .i64 0, .slice none 0 0], .bool false]) (by simp [results, Try.results17, go_sem, c0, c1, c2]) rfl ?_
    exact HBAD.out _ HP.out (by first | exact HB3.out | exact ((HB3.out.setCell (p := ⟨w.heap.size, 0, none⟩) (Nat.le_refl _) _).setCell (p := ⟨w.heap.size, 1, none⟩) (Nat.le_refl _) _).setCell (p := ⟨w.heap.size, 2, none⟩) (Nat.le_refl _) _)
  | true =>
    cases b2 with
    | false =>
      have HP := mkHid (parsS_no2 HGP.out (show okSD p = false by rw [HOD.out]; rfl))
      go_wp2_with fail
      refine bodyPost_ret (v := .tuple #[.agg #[.int .i64 0, .int .i64 0, .slice none 0 0], .bool false]) (by simp [results, Try.results17, go_sem, c0, c1, c2]) rfl ?_
      exact HBAD.out _ HP.out (by first | exact HB3.out | exact ((HB3.out.setCell (p := ⟨w.heap.size, 0, none⟩) (Nat.le_refl _) _).setCell (p := ⟨w.heap.size, 1, none⟩) (Nat.le_refl _) _).setCell (p := ⟨w.heap.size, 2, none⟩) (Nat.le_refl _) _)
    | true =>
      rcases HPC.out with ⟨hN, hys, hgb⟩ | ⟨hN, hN1, hN25, hys, hgb⟩
      · have HP := mkHid (parsS_no2 HGP.out (show okSD p = false by rw [HOD.out, hgb]; rfl))
        subst hN
        clear hys hgb
        go_wp2_with fail
        refine bodyPost_ret (v := .tuple #[.agg #[.int .i64 0, .int .i64 0, .slice none 0 0], .bool false]) (by simp [results, Try.results17, go_sem, c0, c1, c2]) rfl ?_
        exact HBAD.out _ HP.out (by first | exact HB3.out | exact ((HB3.out.setCell (p := ⟨w.heap.size, 0, none⟩) (Nat.le_refl _) _).setCell (p := ⟨w.heap.size, 1, none⟩) (Nat.le_refl _) _).setCell (p := ⟨w.heap.size, 2, none⟩) (Nat.le_refl _) _)
      · rw [hgb] at HOD
        have hN0 : (N == 0) = false := beq_eq_false_iff_ne.2 (by omega)
        have HNN := mkHid hN
        have HYS := mkHid hys
        clear hN hys hgb
        by_cases hlen : 16 + N = (n1 : Int)
        case neg =>
          have HP := mkHid (parsS_no2 HGP.out (show okSD p = false by rw [HOD.out, ← HNN.out, decide_eq_false hlen]; rfl))
          have hlb : (16 + N != (n1 : Int)) = true := by simpa using hlen
          go_wp2_with fail
          refine bodyPost_ret (v := .tuple #[.agg #[.int .i64 0, .int .i64 0, .slice none 0 0], .bool false]) (by simp [results, Try.results17, go_sem, c0, c1, c2]) rfl ?_
          exact HBAD.out _ HP.out (by first | exact HB3.out | exact ((HB3.out.setCell (p := ⟨w.heap.size, 0, none⟩) (Nat.le_refl _) _).setCell (p := ⟨w.heap.size, 1, none⟩) (Nat.le_refl _) _).setCell (p := ⟨w.heap.size, 2, none⟩) (Nat.le_refl _) _)
        have hlb : (16 + N != (n1 : Int)) = false := by simpa using hlen
        have HLN := mkHid hlen
        clear hlen
        go_wp2_with fail
        refine (sright_any G R A2 m C2 ys W3 HES3.out HC3.out).mono ?_
        rintro e w4 ⟨rfl, hb4⟩
        have HR4 := mkHid ((hb4.block _ (by omega)).trans HR3.out)
        have HX4 := mkHid ((hb4.block _ (by omega)).trans HX3.out)
        have HB4 := mkHid (HB3.out.trans (hb4.mono HB3.out.size))
        have HES4 := mkHid ((HES3.out.below hb4).more hb4.size)
        clear hb4 x0 x1 x2 c0 c1 c2 f0 f1 f2 hW3
        obtain ⟨⟨c0, c1, c2⟩, f0, f1, f2⟩ := HCR.out w4 HR4.out
        have x0 := cell_of_row w4 w2.heap.size 0 _ _ _ HX4.out
        have x1 := cell_of_row w4 w2.heap.size 1 _ _ _ HX4.out
        have x2 := cell_of_row w4 w2.heap.size 2 _ _ _ HX4.out
        simp at x0 x1 x2
        have HOE := mkHid (show okSD p = rightS G R ys by rw [HOD.out, ← HNN.out, decide_eq_true HLN.out, HSL.out, ← HYS.out]; rfl)
        cases hr : rightS G R ys with
        | false =>
          have HP := mkHid (parsS_no2 HGP.out (HOE.out.trans hr))
          clear hr
          go_wp2_with fail
          refine bodyPost_ret (v := .tuple #[.agg #[.int .i64 0, .int .i64 0, .slice none 0 0], .bool false]) (by simp [results, Try.results17, go_sem, c0, c1, c2]) rfl ?_
          exact HBAD.out _ HP.out (by first | exact HB4.out | exact ((HB4.out.setCell (p := ⟨w.heap.size, 0, none⟩) (Nat.le_refl _) _).setCell (p := ⟨w.heap.size, 1, none⟩) (Nat.le_refl _) _).setCell (p := ⟨w.heap.size, 2, none⟩) (Nat.le_refl _) _)
        | true =>
          have HP := mkHid (parsS_yes HGP.out (HOE.out.trans hr))
          rw [HGG.out, HRR.out, HSL.out, ← HYS.out] at HP
          clear hr
          go_wp2_with fail
          refine bodyPost_ret (v := .tuple #[.agg #[.int .i64 G, .int .i64 R, .slice A2 m C2], .bool true]) (by simp [results, Try.results17, go_sem, c0, c1, c2]) rfl ?_
          refine ⟨A2, m, C2, by rw [HP.out]; rfl, ?_, HC3.out, (fun ad had => by have := HNW.out ad had; omega), ((HB4.out.setCell (p := ⟨w.heap.size, 0, none⟩) (Nat.le_refl _) _).setCell (p := ⟨w.heap.size, 1, none⟩) (Nat.le_refl _) _).setCell (p := ⟨w.heap.size, 2, none⟩) (Nat.le_refl _) _⟩
          rw [HP.out]
          simp only [setCell_size]
          have hk : ∀ ad : Addr, A2 = some ad → w.heap.size < ad.block := fun ad had => by have := HNW.out ad had; omega
          exact ((HES4.out.set_old hk).set_old hk).set_old hk

end Go.Proofs.Ytbgfccfhiocomaa
