/- roster.Parse by contract. -/
import Derived.Test.YtbgfccfhiocomaaRosUR
namespace Go.Proofs.Ytbgfccfhiocomaa
open Go.RowKit Go.Shelf

/-- The state within Parse's loop. -/
structure PS (w wr : World) (g q7 B : Nat) (k : Nat) (A : Option Addr) (C : Nat) (s : List Int × Bool) : Prop where
  uk : ∃ a n c, UK wr g a n c (rdN k s).2.1 (rdN k s).2.2
  row : wr.ownsRow B 74 2 (.slice A k C) k ((rdN k s).1.flatMap enC)
  var : wr.heap[q7]? = some (.cells #[.slice A k C] 33 (0, 0))
  res : wr.heap[w.heap.size]? = some (.cells #[.slice none 0 0] 33 (0, 0))
  bel : Below w.heap.size w wr
theorem PS.next {w wr y1 y2 y3 : World} {g q7 B k C C' : Nat} {A A' : Option Addr} {s : List Int × Bool} (h : PS w wr g q7 B k A C s) (hgw : w.heap.size < g) (hgq : g < q7) (hqB : q7 < B) (_hB : B ≤ wr.heap.size)
    (h1 : wr.grownBy y1 (some g)) (h2 : y1.grownBy y2 (some g)) (hu : ∃ a n c, UK y2 g a n c (rdN (k + 1) s).2.1 (rdN (k + 1) s).2.2) (e : Obj)
    (h3 : (y2.alloc e).grownBy y3 (Value.slice A k C).ownBlock) (ho : y3.ownsRow B 74 2 (.slice A' (k + 1) C') (k + 1) ((rdN (k + 1) s).1.flatMap enC)) :
    PS w (y3.setCell ⟨q7, 0, none⟩ (.slice A' (k + 1) C')) g q7 B (k + 1) A' C' s := by
  have s1 := h1.size
  have s2 := h2.size
  have s3 : y2.heap.size + 1 ≤ y3.heap.size := by have := h3.size; simpa using this
  have hrow : ∀ r, (Value.slice A k C).ownBlock = some r → B ≤ r := fun r hr => (h.row.lt r hr).1
  have k12 : ∀ b, b < wr.heap.size → b ≠ g → y2.heap[b]? = wr.heap[b]? := fun b hb hne => (h2.block b (by omega) (fun e => hne (by injection e))).trans (h1.block b hb (fun e => hne (by injection e)))
  have k3 : ∀ b, b < B → b < y2.heap.size → y3.heap[b]? = y2.heap[b]? := fun b hb hb2 => (h3.block b (by simp; omega) (fun e => by have := hrow b e.symm; omega)).trans (Below.heap_alloc _ _ _ hb2)
  have hq := (Array.getElem?_eq_some_iff.1 h.var).1
  have hr := (Array.getElem?_eq_some_iff.1 h.res).1
  obtain ⟨a, n, c, hu⟩ := hu
  refine ⟨⟨a, n, c, hu.keep (fun b hb => (heap_setCell_other _ _ _ _ (by simp; omega)).trans (k3 b (by omega) (by omega))) (by simp [World.setCell]; omega)⟩, own_set_other ho hqB, ?_, ?_, ?_⟩
  · exact heap_setCell_same _ _ _ _ _ _ ((k3 q7 hqB (by omega)).trans ((k12 q7 hq (by omega)).trans h.var))
  · exact (heap_setCell_other _ _ _ _ (by simp; omega)).trans ((k3 _ (by omega) (by omega)).trans ((k12 _ hr (by omega)).trans h.res))
  · refine (Below.mk ?_ ?_ ?_ (by have := h.bel.size; omega) fun b hb => ?_ : Below w.heap.size w y3).setCell (p := ⟨q7, 0, none⟩) (by show w.heap.size ≤ q7; omega) _
    · exact (h3.os.trans (h2.os.trans h1.os)).trans h.bel.os
    · exact (h3.tape.trans (h2.tape.trans h1.tape)).trans h.bel.tape
    · exact (h3.output.trans (h2.output.trans h1.output)).trans h.bel.output
    · have hw := h.bel.size
      exact (k3 b (by omega) (by omega)).trans ((k12 b (by omega) (by omega)).trans (h.bel.block b hb))

/-- A row that lies above the one block that turns. -/
theorem own_keep2 {wr y1 y2 : World} {B g : Nat} {e : TypeId} {s n : Nat} {v : Value} {xs : List Value} (h : wr.ownsRow B e s v n xs) (h1 : wr.grownBy y1 (some g)) (h2 : y1.grownBy y2 (some g)) (hg : g < B) : y2.ownsRow B e s v n xs := by
  refine ⟨h.1, ?_⟩
  rcases h.2 with h0 | ⟨r, cap, cur, q1, q2, q3, q4⟩
  · exact .inl h0
  · have hr := (Array.getElem?_eq_some_iff.1 q3).1
    have := h1.size
    exact .inr ⟨r, cap, cur, q1, q2, ((h2.block r (by omega) (fun e => by injection e with e; omega)).trans (h1.block r hr (fun e => by injection e with e; omega))).trans q3, q4⟩

/-- As RetA; the row is new. -/
def RetAN (w : World) (code i : Int) (ys : List (Int × Int)) (e : Ending) (w' : World) : Prop :=
  ∃ A c, e = .returned (.tuple #[.agg #[.slice A ys.length c], .int .i64 i, errV code]) ∧ ES w' w'.heap.size A ys.length ys ∧ CapOk ys.length c ∧ (∀ ad : Addr, A = some ad → w.heap.size ≤ ad.block) ∧ Below w.heap.size w w'
theorem own_new {w : World} {base B : Nat} {e : TypeId} {k n c : Nat} {A : Option Addr} {xs : List Value} (h : w.ownsRow base e k (.slice A n c) n xs) (hB : B ≤ base) : ∀ ad : Addr, A = some ad → B ≤ ad.block := fun ad had => by
  obtain ⟨A', c', he, _, h2⟩ := own_form _ h
  cases he
  rcases h2 with h0 | ⟨g, h1, h3, _⟩
  · rw [h0] at had; cases had
  · rw [h1] at had
    cases had
    show B ≤ g
    omega
set_option maxRecDepth 20000 in
set_option maxHeartbeats 4000000 in
theorem parse_any (a : Option Addr) (n c : Nat) (l : List Int) (w : World) (hx : BS w w.heap.size a n l) (hn : n ≤ 1000000) :
    Calls Try.prog 48 #[.slice a n c] w (RetAN w (parseOf l).1 (parseOf l).2.1 (parseOf l).2.2) := by
  have hal : Below w.heap.size w (w.alloc (.cells #[.slice none 0 0] 33)) := (Below.refl _ _).alloc (Nat.le_refl _) _
  have HNU := mkHid (newUnpacker_any a n c l _ ((hx.below hal).more hal.size) (by omega))
  have ok := hx.2
  obtain ⟨hh1, hh2⟩ := hd_take ok
  have HL := mkHid hx.len
  have HOKL := mkHid ok
  have hhd := hd_ok ok
  obtain ⟨hd0, hd1⟩ := hhd
  have HH1 := mkHid hh1
  have HH2 := mkHid hh2
  have HAL := mkHid hal
  clear hx ok hh1 hh2 hal
  go_enter Try.func48, Try.ntmps48
  go_wp2_with fail
  refine HNU.out.mono ?_
  rintro e w1 ⟨g, rfl, hg, ⟨au, nu, cu, hu⟩, hb1⟩
  have HU := mkHid hu
  have hgw : w.heap.size < g := by simp at hg; omega
  have hg1 := hu.lt
  have HB1 := mkHid hb1
  clear hu hb1 HNU hg
  go_wp2_with fail
  refine (uByte_any g au nu cu l false w1 HU.out).mono ?_
  rintro e w2 ⟨rfl, ⟨a2, n2, c2, hu2⟩, hg2⟩
  rw [HH1.out]
  obtain ⟨s1, hs1⟩ : ∃ s, (takeOf 1 l false).2 = s := ⟨_, rfl⟩
  have HS1 := mkHid (show okBytes s1.1 by rw [← hs1]; exact (takeOf_ok HOKL.out 1 false).2.2)
  have HSE := mkHid hs1
  rw [hs1] at hu2
  have hg12 : w1.heap.size ≤ w2.heap.size := hg2.size
  have HPS := mkHid (show PS w (w2.alloc (.cells #[.slice none 0 0] 33)) g w2.heap.size (w2.heap.size + 1) 0 none 0 s1 from by
    have hb1 := HB1.out
    have hr1 := (hb1.block w.heap.size (by simp)).trans (heap_alloc_new _ _)
    have hw1 := HAL.out.trans (hb1.mono HAL.out.size)
    refine ⟨⟨a2, n2, c2, hu2.keep (fun b hb => Below.heap_alloc _ _ _ (by omega)) (by simp)⟩, World.ownsRow_nil _ _ _ _, heap_alloc_new _ _, ?_, ?_⟩
    · exact (Below.heap_alloc _ _ _ (by omega)).trans ((hg2.block _ (by omega) (fun e => by injection e with e; omega)).trans hr1)
    · exact (hw1.grown hg2 hw1.size (fun k hk => by injection hk with hk; omega)).alloc (by have := hw1.size; omega) _)
  clear hs1 hu2 hg2
  generalize hN : hdOf l = N at *
  have HN := mkHid hN
  clear hN
  by_cases hN8 : N ≤ 8
  · obtain ⟨M, rfl⟩ := Int.eq_ofNat_of_zero_le hd0
    have hM : M ≤ 8 := by omega
    go_wp2_with fail
    go_loopw [14] (fun i wr => ∃ (k : Nat) (A : Option Addr) (C : Nat), k ≤ M ∧ i = .int .i64 k ∧ Hid (PS w wr g w2.heap.size (w2.heap.size + 1) k A C s1) ∧ w2.heap.size + 1 ≤ wr.heap.size) (fun i _ => M - (intOf i).toNat)
    case atStart => exact ⟨0, none, 0, Nat.zero_le _, rfl, HPS, by simp⟩
    case round =>
      clear HPS
      obtain ⟨k, A, C, hk, rfl, HPS, hsr⟩ := hrel
      have c7 := cell_of_row wr w2.heap.size 0 _ _ _ HPS.out.var
      simp at c7
      by_cases hlt : k < M
      · obtain ⟨ar, nr, cr, hur⟩ := HPS.out.uk
        have HUR := mkHid hur
        have HOK := mkHid ((rdN_ok k s1 HS1.out).2)
        have hgr := hur.lt
        have HQ7 := mkHid HPS.out.var
        have HOW := mkHid HPS.out.row
        have HSTEP := mkHid (show rdN (k + 1) s1 = ((rdN k s1).1 ++ [(rdStep (rdN k s1).2).1], (rdStep (rdN k s1).2).2) from rfl)
        have HST := mkHid (show ∀ s : List Int × Bool, rdStep s = (((takeOf 1 s.1 s.2).1, (takeOf 2 (takeOf 1 s.1 s.2).2.1 (takeOf 1 s.1 s.2).2.2).1), (takeOf 2 (takeOf 1 s.1 s.2).2.1 (takeOf 1 s.1 s.2).2.2).2) from fun _ => rfl)
        clear hur
        go_wp2_with fail
        go_region_law (first
          | ((try go_simp); go_at_call 82; refine (uByte_any g ar nr cr _ _ _ (by exact HUR.out.keep (fun _ _ => rfl) (Nat.le_refl _))).mono ?_; rintro e y1 ⟨rfl, ⟨ab, nb', cb, hu1⟩, hg1⟩; have hq1 := (hg1.block w2.heap.size (show w2.heap.size < wr.heap.size by omega) (fun e => by injection e with e; omega)).trans HQ7.out; have c71 := cell_of_row y1 w2.heap.size 0 _ _ _ hq1; simp at c71; have HQ71 := mkHid hq1; have HU1 := mkHid hu1; have HG1 := mkHid (show wr.grownBy y1 (some g) from ⟨hg1.os, hg1.tape, hg1.output, hg1.size, hg1.block⟩); have hs1 : wr.heap.size ≤ y1.heap.size := hg1.size; clear hq1 hu1 hg1)
          | ((try go_simp); go_at_call 83; refine (uShort_any g ab nb' cb _ _ y1 HU1.out).mono ?_; rintro e y2 ⟨rfl, ⟨as_, ns, cs, hu2⟩, hg2⟩; have hq2 := (hg2.block w2.heap.size (by omega) (fun e => by injection e with e; omega)).trans HQ71.out; have c72 := cell_of_row y2 w2.heap.size 0 _ _ _ hq2; simp at c72; have HQ72 := mkHid hq2; have HU2 := mkHid hu2; have HG2 := mkHid hg2; have hs2 : y1.heap.size ≤ y2.heap.size := hg2.size; have hq2y : w2.heap.size < y2.heap.size := (by omega); clear hq2 hu2 hg2)
          | (refine step_app _ rfl (.tmp 17) (.tmp 23) _ rfl (w2.heap.size + 1) el_en A k C _ rfl ((own_keep2 HOW.out HG1.out HG2.out (by omega)).alloc _) (y2.heap.size + 1) (some ⟨y2.heap.size, 0, none⟩) 1 1 (enC (rdStep (rdN k s1).2).1) rfl (SL.of_block (heap_alloc_new y2 _) rfl (by omega)) (by have := enC_one [(rdStep (rdN k s1).2).1]; simpa using this) (by unfold maxLen; omega) (by omega) (by simp; omega) ?_; intro A' C' y3 ho3 hg3 _; have hq3 := (hg3.block w2.heap.size (by simp; omega) (fun e => by have := (HOW.out.lt _ e.symm).1; omega)).trans ((Below.heap_alloc _ _ _ hq2y).trans HQ72.out); have c73 := cell_of_row y3 w2.heap.size 0 _ _ _ hq3; have z73 := frozen_of_row y3 w2.heap.size 0 _ _ hq3; simp at c73; have HO3 := mkHid ho3; have HG3 := mkHid hg3; clear ho3 hg3 hq3))
        all_goals
          go_wp2_with fail
          go_roundw
          case measure => simp [intOf]; omega
          case rel =>
            have h3 := HO3.out
            refine ⟨k + 1, A', C', by omega, by go_num, mkHid (HPS.out.next hgw (by omega) (by omega) hsr HG1.out HG2.out ⟨as_, ns, cs, HU2.out⟩ _ HG3.out ?_), ?_⟩
            · rw [HSTEP.out, List.flatMap_append]
              simpa using h3
            · have := HG3.out.size
              simp [World.setCell] at this ⊢
              omega
      · obtain rfl : k = M := by omega
        clear c7
        have c2 := cell_of_row wr w.heap.size 0 _ _ _ HPS.out.res
        have z2 := frozen_of_row wr w.heap.size 0 _ _ HPS.out.res
        have c7 := cell_of_row wr w2.heap.size 0 _ _ _ HPS.out.var
        simp at c2 c7
        have HBX := mkHid HPS.out.bel
        by_cases hsh : n < 1 + 3 * k
        · have HP := mkHid (show parseOf l = (14, 0, []) by unfold parseOf goodB; rw [HN.out, decide_eq_false (by rw [HL.out]; omega)]; rfl)
          go_wp2_with fail
          refine bodyPost_ret (v := .tuple #[.agg #[.slice none 0 0], .int .i64 0, codeV 14]) (by simp [results, Try.results48, go_sem, c2]) rfl ?_
          rw [HP.out]
          exact ⟨none, 0, by rw [errV_of (by omega)]; rfl, ES.nil, ⟨by simp, by unfold maxLen; omega, by simp⟩, (fun ad h => by cases h), HBX.out.setCell (p := ⟨w.heap.size, 0, none⟩) (Nat.le_refl _) _⟩
        · have hes : ES wr wr.heap.size A k (rdN k s1).1 := ⟨SL.of_own HPS.out.row, (rdN_ok k s1 HS1.out).1⟩
          have hse := HSE.out
          rw [HH2.out (by rw [HL.out]; omega)] at hse
          have hgood := rdN_good HOKL.out k (by rw [HL.out]; omega)
          rw [hse] at hgood
          have hall : (rdN k s1).1 = enAll l := by rw [hgood]; unfold enAll; rw [HN.out, Int.toNat_natCast]
          rw [hall] at hes
          have HES := mkHid hes
          have HCAP := mkHid (show CapOk k C from ⟨(own_cap HPS.out.row).1, (own_cap HPS.out.row).2, by omega⟩)
          have hlen : (enAll l).length = k := by rw [enAll_len, HN.out, Int.toNat_natCast]
          have HLEN := mkHid hlen
          have HNEW := mkHid (own_new HPS.out.row (show w.heap.size ≤ w2.heap.size + 1 by omega))
          clear hes hse hgood hall hlen
          cases hr : rightL (enAll l) with
          | false =>
            have HP := mkHid (show parseOf l = (14, 0, []) by unfold parseOf goodB; rw [hr, Bool.and_false]; rfl)
            have HR := mkHid hr
            clear hr
            go_wp2_with fail
            refine (check_no A k C _ wr HES.out HCAP.out HR.out).mono ?_
            rintro e w5 ⟨rfl, hb5⟩
            have r5 := (hb5.block _ (by have := HPS.out.bel.size; omega)).trans HPS.out.res
            have HBX := mkHid (HBX.out.trans (hb5.mono HBX.out.size))
            clear c2 z2 c7
            have c2 := cell_of_row w5 w.heap.size 0 _ _ _ r5
            have z2 := frozen_of_row w5 w.heap.size 0 _ _ r5
            simp at c2
            clear hb5 r5
            go_wp2_with fail
            refine bodyPost_ret (v := .tuple #[.agg #[.slice none 0 0], .int .i64 0, codeV 14]) (by simp [results, Try.results48, go_sem, c2]) rfl ?_
            rw [HP.out]
            exact ⟨none, 0, by rw [errV_of (by omega)]; rfl, ES.nil, ⟨by simp, by unfold maxLen; omega, by simp⟩, (fun ad h => by cases h), HBX.out.setCell (p := ⟨w.heap.size, 0, none⟩) (Nat.le_refl _) _⟩
          | true =>
            have HP := mkHid (show parseOf l = (0, 1 + 3 * (k : Int), enAll l) by unfold parseOf goodB; rw [hr, Bool.and_true, HN.out, decide_eq_true (by rw [HL.out]; omega), if_pos rfl])
            have HR := mkHid hr
            clear hr
            go_wp2_with fail
            refine (check_ok A k C _ wr HES.out HCAP.out HR.out).mono ?_
            rintro e w5 ⟨rfl, hb5⟩
            have r5 := (hb5.block _ (by have := HPS.out.bel.size; omega)).trans HPS.out.res
            have HR5 := mkHid r5
            have HBX := mkHid (HBX.out.trans (hb5.mono HBX.out.size))
            have HES5 := mkHid (HES.out.next hb5)
            have v5 := (hb5.block _ (by omega)).trans HPS.out.var
            clear c2 z2 c7
            have c2 := cell_of_row w5 w.heap.size 0 _ _ _ r5
            have z2 := frozen_of_row w5 w.heap.size 0 _ _ r5
            have c7 := cell_of_row w5 w2.heap.size 0 _ _ _ v5
            simp at c2 c7
            clear hb5 r5 v5
            go_wp2_with fail
            refine bodyPost_ret (v := .tuple #[.agg #[.slice A k C], .int .i64 (1 + 3 * (k : Int)), .nilIface]) (by simp [results, Try.results48, go_sem, c2]) rfl ?_
            rw [HP.out]
            refine ⟨A, C, by simp only [HLEN.out]; rfl, ?_, by simp only [HLEN.out]; exact HCAP.out, HNEW.out, HBX.out.setCell (p := ⟨w.heap.size, 0, none⟩) (Nat.le_refl _) _⟩
            simp only [HLEN.out]
            rw [show (w5.setCell ⟨w.heap.size, 0, none⟩ (.slice A k C)).heap.size = w5.heap.size by simp [World.setCell]]
            exact HES5.out.set_slice HR5.out
  · by_cases h9 : N = 9
    · subst h9
      go_wp2_with fail
      go_loopw [14] (fun i wr => ∃ (k : Nat) (A : Option Addr) (C : Nat), k ≤ 9 ∧ i = .int .i64 k ∧ Hid (PS w wr g w2.heap.size (w2.heap.size + 1) k A C s1) ∧ w2.heap.size + 1 ≤ wr.heap.size) (fun i _ => 9 - (intOf i).toNat)
      case atStart => exact ⟨0, none, 0, Nat.zero_le _, rfl, HPS, by simp⟩
      case round =>
        clear HPS
        obtain ⟨k, A, C, hk, rfl, HPS, hsr⟩ := hrel
        have c7 := cell_of_row wr w2.heap.size 0 _ _ _ HPS.out.var
        simp at c7
        by_cases hlt : k < 9
        · obtain ⟨ar, nr, cr, hur⟩ := HPS.out.uk
          have HUR := mkHid hur
          have HOK := mkHid ((rdN_ok k s1 HS1.out).2)
          have hgr := hur.lt
          have HQ7 := mkHid HPS.out.var
          have HOW := mkHid HPS.out.row
          have HSTEP := mkHid (show rdN (k + 1) s1 = ((rdN k s1).1 ++ [(rdStep (rdN k s1).2).1], (rdStep (rdN k s1).2).2) from rfl)
          have HST := mkHid (show ∀ s : List Int × Bool, rdStep s = (((takeOf 1 s.1 s.2).1, (takeOf 2 (takeOf 1 s.1 s.2).2.1 (takeOf 1 s.1 s.2).2.2).1), (takeOf 2 (takeOf 1 s.1 s.2).2.1 (takeOf 1 s.1 s.2).2.2).2) from fun _ => rfl)
          clear hur
          go_wp2_with fail
          go_region_law (first
            | ((try go_simp); go_at_call 82; refine (uByte_any g ar nr cr _ _ _ (by exact HUR.out.keep (fun _ _ => rfl) (Nat.le_refl _))).mono ?_; rintro e y1 ⟨rfl, ⟨ab, nb', cb, hu1⟩, hg1⟩; have hq1 := (hg1.block w2.heap.size (show w2.heap.size < wr.heap.size by omega) (fun e => by injection e with e; omega)).trans HQ7.out; have c71 := cell_of_row y1 w2.heap.size 0 _ _ _ hq1; simp at c71; have HQ71 := mkHid hq1; have HU1 := mkHid hu1; have HG1 := mkHid (show wr.grownBy y1 (some g) from ⟨hg1.os, hg1.tape, hg1.output, hg1.size, hg1.block⟩); have hs1 : wr.heap.size ≤ y1.heap.size := hg1.size; clear hq1 hu1 hg1)
            | ((try go_simp); go_at_call 83; refine (uShort_any g ab nb' cb _ _ y1 HU1.out).mono ?_; rintro e y2 ⟨rfl, ⟨as_, ns, cs, hu2⟩, hg2⟩; have hq2 := (hg2.block w2.heap.size (by omega) (fun e => by injection e with e; omega)).trans HQ71.out; have c72 := cell_of_row y2 w2.heap.size 0 _ _ _ hq2; simp at c72; have HQ72 := mkHid hq2; have HU2 := mkHid hu2; have HG2 := mkHid hg2; have hs2 : y1.heap.size ≤ y2.heap.size := hg2.size; have hq2y : w2.heap.size < y2.heap.size := (by omega); clear hq2 hu2 hg2)
            | (refine step_app _ rfl (.tmp 17) (.tmp 23) _ rfl (w2.heap.size + 1) el_en A k C _ rfl ((own_keep2 HOW.out HG1.out HG2.out (by omega)).alloc _) (y2.heap.size + 1) (some ⟨y2.heap.size, 0, none⟩) 1 1 (enC (rdStep (rdN k s1).2).1) rfl (SL.of_block (heap_alloc_new y2 _) rfl (by omega)) (by have := enC_one [(rdStep (rdN k s1).2).1]; simpa using this) (by unfold maxLen; omega) (by omega) (by simp; omega) ?_; intro A' C' y3 ho3 hg3 _; have hq3 := (hg3.block w2.heap.size (by simp; omega) (fun e => by have := (HOW.out.lt _ e.symm).1; omega)).trans ((Below.heap_alloc _ _ _ hq2y).trans HQ72.out); have c73 := cell_of_row y3 w2.heap.size 0 _ _ _ hq3; have z73 := frozen_of_row y3 w2.heap.size 0 _ _ hq3; simp at c73; have HO3 := mkHid ho3; have HG3 := mkHid hg3; clear ho3 hg3 hq3))
          all_goals
            go_wp2_with fail
            go_roundw
            case measure => simp [intOf]; omega
            case rel =>
              have h3 := HO3.out
              refine ⟨k + 1, A', C', by omega, by go_num, mkHid (HPS.out.next hgw (by omega) (by omega) hsr HG1.out HG2.out ⟨as_, ns, cs, HU2.out⟩ _ HG3.out ?_), ?_⟩
              · rw [HSTEP.out, List.flatMap_append]
                simpa using h3
              · have := HG3.out.size
                simp [World.setCell] at this ⊢
                omega
        · obtain rfl : k = 9 := by omega
          clear c7
          have c2 := cell_of_row wr w.heap.size 0 _ _ _ HPS.out.res
          have z2 := frozen_of_row wr w.heap.size 0 _ _ HPS.out.res
          have c7 := cell_of_row wr w2.heap.size 0 _ _ _ HPS.out.var
          simp at c2 c7
          have HBX := mkHid HPS.out.bel
          have HP := mkHid (show parseOf l = (14, 0, []) by unfold parseOf goodB; rw [HN.out, decide_eq_false (by omega)]; rfl)
          go_wp2_with fail
          refine bodyPost_ret (v := .tuple #[.agg #[.slice none 0 0], .int .i64 0, codeV 14]) (by simp [results, Try.results48, go_sem, c2]) rfl ?_
          rw [HP.out]
          exact ⟨none, 0, by rw [errV_of (by omega)]; rfl, ES.nil, ⟨by simp, by unfold maxLen; omega, by simp⟩, (fun ad h => by cases h), HBX.out.setCell (p := ⟨w.heap.size, 0, none⟩) (Nat.le_refl _) _⟩
    · have hN9 : 10 ≤ N := by omega
      clear h9
      go_wp2_with fail
      go_loopw [14] (fun i wr => ∃ (k : Nat) (A : Option Addr) (C : Nat), k ≤ 9 ∧ i = .int .i64 k ∧ Hid (PS w wr g w2.heap.size (w2.heap.size + 1) k A C s1) ∧ w2.heap.size + 1 ≤ wr.heap.size) (fun i _ => 9 - (intOf i).toNat)
      case atStart => exact ⟨0, none, 0, Nat.zero_le _, rfl, HPS, by simp⟩
      case round =>
        clear HPS
        obtain ⟨k, A, C, hk, rfl, HPS, hsr⟩ := hrel
        have c7 := cell_of_row wr w2.heap.size 0 _ _ _ HPS.out.var
        simp at c7
        by_cases hlt : k < 9
        · obtain ⟨ar, nr, cr, hur⟩ := HPS.out.uk
          have HUR := mkHid hur
          have HOK := mkHid ((rdN_ok k s1 HS1.out).2)
          have hgr := hur.lt
          have HQ7 := mkHid HPS.out.var
          have HOW := mkHid HPS.out.row
          have HSTEP := mkHid (show rdN (k + 1) s1 = ((rdN k s1).1 ++ [(rdStep (rdN k s1).2).1], (rdStep (rdN k s1).2).2) from rfl)
          have HST := mkHid (show ∀ s : List Int × Bool, rdStep s = (((takeOf 1 s.1 s.2).1, (takeOf 2 (takeOf 1 s.1 s.2).2.1 (takeOf 1 s.1 s.2).2.2).1), (takeOf 2 (takeOf 1 s.1 s.2).2.1 (takeOf 1 s.1 s.2).2.2).2) from fun _ => rfl)
          clear hur
          go_wp2_with fail
          go_region_law (first
            | ((try go_simp); go_at_call 82; refine (uByte_any g ar nr cr _ _ _ (by exact HUR.out.keep (fun _ _ => rfl) (Nat.le_refl _))).mono ?_; rintro e y1 ⟨rfl, ⟨ab, nb', cb, hu1⟩, hg1⟩; have hq1 := (hg1.block w2.heap.size (show w2.heap.size < wr.heap.size by omega) (fun e => by injection e with e; omega)).trans HQ7.out; have c71 := cell_of_row y1 w2.heap.size 0 _ _ _ hq1; simp at c71; have HQ71 := mkHid hq1; have HU1 := mkHid hu1; have HG1 := mkHid (show wr.grownBy y1 (some g) from ⟨hg1.os, hg1.tape, hg1.output, hg1.size, hg1.block⟩); have hs1 : wr.heap.size ≤ y1.heap.size := hg1.size; clear hq1 hu1 hg1)
            | ((try go_simp); go_at_call 83; refine (uShort_any g ab nb' cb _ _ y1 HU1.out).mono ?_; rintro e y2 ⟨rfl, ⟨as_, ns, cs, hu2⟩, hg2⟩; have hq2 := (hg2.block w2.heap.size (by omega) (fun e => by injection e with e; omega)).trans HQ71.out; have c72 := cell_of_row y2 w2.heap.size 0 _ _ _ hq2; simp at c72; have HQ72 := mkHid hq2; have HU2 := mkHid hu2; have HG2 := mkHid hg2; have hs2 : y1.heap.size ≤ y2.heap.size := hg2.size; have hq2y : w2.heap.size < y2.heap.size := (by omega); clear hq2 hu2 hg2)
            | (refine step_app _ rfl (.tmp 17) (.tmp 23) _ rfl (w2.heap.size + 1) el_en A k C _ rfl ((own_keep2 HOW.out HG1.out HG2.out (by omega)).alloc _) (y2.heap.size + 1) (some ⟨y2.heap.size, 0, none⟩) 1 1 (enC (rdStep (rdN k s1).2).1) rfl (SL.of_block (heap_alloc_new y2 _) rfl (by omega)) (by have := enC_one [(rdStep (rdN k s1).2).1]; simpa using this) (by unfold maxLen; omega) (by omega) (by simp; omega) ?_; intro A' C' y3 ho3 hg3 _; have hq3 := (hg3.block w2.heap.size (by simp; omega) (fun e => by have := (HOW.out.lt _ e.symm).1; omega)).trans ((Below.heap_alloc _ _ _ hq2y).trans HQ72.out); have c73 := cell_of_row y3 w2.heap.size 0 _ _ _ hq3; have z73 := frozen_of_row y3 w2.heap.size 0 _ _ hq3; simp at c73; have HO3 := mkHid ho3; have HG3 := mkHid hg3; clear ho3 hg3 hq3))
          all_goals
            go_wp2_with fail
            go_roundw
            case measure => simp [intOf]; omega
            case rel =>
              have h3 := HO3.out
              refine ⟨k + 1, A', C', by omega, by go_num, mkHid (HPS.out.next hgw (by omega) (by omega) hsr HG1.out HG2.out ⟨as_, ns, cs, HU2.out⟩ _ HG3.out ?_), ?_⟩
              · rw [HSTEP.out, List.flatMap_append]
                simpa using h3
              · have := HG3.out.size
                simp [World.setCell] at this ⊢
                omega
        · obtain rfl : k = 9 := by omega
          clear c7
          have c2 := cell_of_row wr w.heap.size 0 _ _ _ HPS.out.res
          have z2 := frozen_of_row wr w.heap.size 0 _ _ HPS.out.res
          have c7 := cell_of_row wr w2.heap.size 0 _ _ _ HPS.out.var
          simp at c2 c7
          have HBX := mkHid HPS.out.bel
          have HP := mkHid (show parseOf l = (14, 0, []) by unfold parseOf goodB; rw [HN.out, decide_eq_false (by omega)]; rfl)
          go_wp2_with fail
          refine bodyPost_ret (v := .tuple #[.agg #[.slice none 0 0], .int .i64 0, codeV 14]) (by simp [results, Try.results48, go_sem, c2]) rfl ?_
          rw [HP.out]
          exact ⟨none, 0, by rw [errV_of (by omega)]; rfl, ES.nil, ⟨by simp, by unfold maxLen; omega, by simp⟩, (fun ad h => by cases h), HBX.out.setCell (p := ⟨w.heap.size, 0, none⟩) (Nat.le_refl _) _⟩

end Go.Proofs.Ytbgfccfhiocomaa
