/- The document's Parse of a node by contract. -/
import Derived.Test.YtilepjkdfbhgcaaNbD
namespace Go.Proofs.Ytilepjkdfbhgcaa
open Go.RowKit Go.Shelf

theorem set_alloc_nw (w : World) (p : Addr) (v : Value) (o : Obj) : ((w.setCell p v).alloc o).heap[w.heap.size]? = some o := by
  have h := heap_alloc_new (w.setCell p v) o
  rwa [setCell_size] at h
/-- What the document's Parse answers. -/
def RetDP (w : World) (l : List Int) (e : Ending) (w' : World) : Prop :=
  ∃ x A n C A' m C', e = .returned (.tuple #[.agg #[.int .i64 x, .slice A n C, .slice A' m C'], .bool (decide ((parsN l).1 = 0))]) ∧ ((parsN l).1 = 0 → NdIn w' (.agg #[.int .i64 x, .slice A n C, .slice A' m C']) (parsN l).2.1 (keysOf (parsN l).2.2) (valsOf (parsN l).2.2)) ∧ Below w.heap.size w w'
theorem RetDP.no {w w' : World} {l : List Int} {x : Int} {A A' : Option Addr} {n C m C' : Nat} (h : parsN l = (70, 0, [])) (hb : Below w.heap.size w w') : RetDP w l (.returned (.tuple #[.agg #[.int .i64 x, .slice A n C, .slice A' m C'], .bool false])) w' :=
  ⟨x, A, n, C, A', m, C', by rw [h]; rfl, (fun e => by rw [h] at e; cases e), hb⟩

set_option maxRecDepth 20000 in
set_option maxHeartbeats 4000000 in
theorem dparse_any (a : Option Addr) (n c : Nat) (l : List Int) (w : World) (hx : BS w w.heap.size a n l) (hn : CapOk n c) :
    Calls Try.prog 33 #[.slice a n c] w (RetDP w l) := by
  obtain ⟨W, hW⟩ : ∃ W, w.alloc (.cells #[.int .i64 0, .slice none 0 0, .slice none 0 0] 24) = W := ⟨_, rfl⟩
  have hal : Below w.heap.size w W := by rw [← hW]; exact (Below.refl _ _).alloc (Nat.le_refl _) _
  have hsz : W.heap.size = w.heap.size + 1 := by rw [← hW]; simp
  have hrs : W.heap[w.heap.size]? = some (.cells #[.int .i64 0, .slice none 0 0, .slice none 0 0] 24 (0, 0)) := by rw [← hW]; exact heap_alloc_new _ _
  have HG := mkHid (rget_any 2 a n c l W ((hx.below hal).more hal.size) hn)
  have HAL := mkHid hal
  have HCR := mkHid (show ∀ Z : World, Z.heap[w.heap.size]? = some (.cells #[.int .i64 0, .slice none 0 0, .slice none 0 0] 24 (0, 0)) → (Z.cell? ⟨w.heap.size, 0, none⟩ = some (.int .i64 0) ∧ Z.cell? ⟨w.heap.size, 1, none⟩ = some (.slice none 0 0) ∧ Z.cell? ⟨w.heap.size, 2, none⟩ = some (.slice none 0 0)) ∧ Z.frozen? ⟨w.heap.size, 0, none⟩ = false ∧ Z.frozen? ⟨w.heap.size, 1, none⟩ = false ∧ Z.frozen? ⟨w.heap.size, 2, none⟩ = false from fun Z h => ⟨⟨cell_of_row Z _ 0 _ _ _ h, cell_of_row Z _ 1 _ _ _ h, cell_of_row Z _ 2 _ _ _ h⟩, frozen_of_row Z _ 0 _ _ h, frozen_of_row Z _ 1 _ _ h, frozen_of_row Z _ 2 _ _ h⟩)
  have HRS := mkHid hrs
  have HOK := mkHid hx.2
  have HWS := mkHid hsz
  have HEND := mkHid (show ∀ Z : World, Below w.heap.size w Z → parsN l = (70, 0, []) → ∀ W', (W' = Z ∨ W' = ((Z.setCell ⟨w.heap.size, 0, none⟩ (.int .i64 0)).setCell ⟨w.heap.size, 1, none⟩ (.slice none 0 0)).setCell ⟨w.heap.size, 2, none⟩ (.slice none 0 0)) → ∀ (x : Int) (A : Option Addr) (n C : Nat) (A' : Option Addr) (m C' : Nat), RetDP w l (.returned (.tuple #[.agg #[.int .i64 x, .slice A n C, .slice A' m C'], .bool false])) W' from fun Z hZ hp W' hW x A n C A' m C' => by
    rcases hW with rfl | rfl
    · exact RetDP.no hp hZ
    · exact RetDP.no hp (((hZ.setCell (p := ⟨w.heap.size, 0, none⟩) (Nat.le_refl _) _).setCell (p := ⟨w.heap.size, 1, none⟩) (Nat.le_refl _) _).setCell (p := ⟨w.heap.size, 2, none⟩) (Nat.le_refl _) _))
  obtain ⟨E, hE⟩ : ∃ E, (getOf 2 l).1 = E := ⟨_, rfl⟩
  obtain ⟨p, hp⟩ : ∃ p, (getOf 2 l).2 = p := ⟨_, rfl⟩
  have HPAR := mkHid (show parsN l = if E = 0 ∧ okD p = true then (0, rawD p) else (70, 0, []) from by unfold parsN; rw [hE, hp])
  rw [hE, hp] at HG
  have HGP := mkHid (show getOf 2 l = (E, p) from Prod.ext hE hp)
  clear hx hal hrs hsz hn hE hp
  go_enter Try.func33, Try.ntmps33
  go_wp2_with fail
  refine HG.out.mono ?_
  rintro e w1 ⟨A1, n1, C1, rfl, ho1, hb1⟩
  clear hW
  have hcap := own_cap ho1
  have hr1 := (hb1.block _ (by rw [HWS.out]; omega)).trans HRS.out
  obtain ⟨⟨c0, c1, c2⟩, f0, f1, f2⟩ := HCR.out w1 hr1
  have HR1 := mkHid hr1
  have HB1 := mkHid (HAL.out.trans (hb1.mono HAL.out.size))
  have hs1 : w.heap.size + 1 ≤ w1.heap.size := by have := hb1.size; have := HWS.out; omega
  have HO1 := mkHid ho1
  have hn1 : p.length = n1 := by have h := ho1.1; rw [List.length_map] at h; omega
  clear hb1 hr1 ho1
  by_cases hE0 : E = 0
  case neg =>
    have HP := mkHid (show parsN l = (70, 0, []) by rw [HPAR.out, if_neg fun e => hE0 e.1])
    have hEb : (E != 0) = true := by simpa using hE0
    clear hE0 hn1
    go_wp2_with fail
    refine bodyPost_ret (v := .tuple #[.agg #[.int .i64 0, .slice none 0 0, .slice none 0 0], .bool false]) (by simp [results, Try.results33, go_sem, c0, c1, c2]) rfl ?_
    exact HEND.out w1 HB1.out HP.out _ (by first | exact .inl rfl | exact .inr rfl) _ _ _ _ _ _ _
  subst hE0
  obtain ⟨hlf, hpl, hpok⟩ := frame_of_get HOK.out HGP.out
  have HPOK := mkHid hpok
  have HBS1 := mkHid (show BS w1 w1.heap.size A1 n1 p from ⟨SL.of_own HO1.out, hpok⟩)
  clear hlf hpok
  by_cases h2 : n1 < 2
  · have HP := mkHid (show parsN l = (70, 0, []) by
      rw [HPAR.out, if_neg]
      rintro ⟨_, h⟩
      unfold okD fitD at h
      rw [Bool.and_eq_true, Bool.and_eq_true] at h
      have := of_decide_eq_true h.1.1
      omega)
    clear hn1
    go_wp2_with fail
    refine bodyPost_ret (v := .tuple #[.agg #[.int .i64 0, .slice none 0 0, .slice none 0 0], .bool false]) (by simp [results, Try.results33, go_sem, c0, c1, c2]) rfl ?_
    exact HEND.out w1 HB1.out HP.out _ (by first | exact .inl rfl | exact .inr rfl) _ _ _ _ _ _ _
  obtain ⟨gb, ob, rfl, hgb, k1, k1a, k1b⟩ := HBS1.out.at_ (j := 1) (by omega)
  obtain ⟨gb', ob', e', _, k0, k0a, k0b⟩ := HBS1.out.at_ (j := 0) (by omega)
  injection e' with e'
  injection e' with e1 e2
  subst e1
  subst e2
  rw [Nat.add_zero] at k0
  have hcn : p[1]?.getD 0 = (cntOf p : Int) := by unfold cntOf; omega
  rw [hcn] at k1 k1a k1b
  have HP0 := mkHid (show (rawD p).1 = p[0]?.getD 0 from rfl)
  obtain ⟨lv, hlv⟩ : ∃ lv, p[0]?.getD 0 = lv := ⟨_, rfl⟩
  rw [hlv] at k0 k0a k0b HP0
  obtain ⟨M, hM⟩ : ∃ M, cntOf p = M := ⟨_, rfl⟩
  rw [hM] at k1 k1a k1b
  have HM := mkHid hM
  have hM255 : M < 256 := by omega
  clear hcn hlv hM k1a k1b
  by_cases hlen : n1 = 2 + 16 * M
  case neg =>
    have HP := mkHid (show parsN l = (70, 0, []) by
      rw [HPAR.out, if_neg]
      rintro ⟨_, h⟩
      unfold okD fitD at h
      rw [Bool.and_eq_true, Bool.and_eq_true] at h
      have := of_decide_eq_true h.1.1
      have := HM.out
      omega)
    have hlb : ((n1 : Int) != 2 + 16 * (M : Int)) = true := by simp; omega
    clear hn1 hlen
    go_wp2_with fail
    refine bodyPost_ret (v := .tuple #[.agg #[.int .i64 0, .slice none 0 0, .slice none 0 0], .bool false]) (by simp [results, Try.results33, go_sem, c0, c1, c2]) rfl ?_
    exact HEND.out w1 HB1.out HP.out _ (by first | exact .inl rfl | exact .inr rfl) _ _ _ _ _ _ _
  subst hlen
  have HPL := mkHid hn1
  clear hn1 c0 c1 c2 f0 f1 f2
  have hlb : (((2 + 16 * M : Nat) : Int) != 2 + 16 * (M : Int)) = false := by simp
  go_wp2_with fail
  obtain ⟨W2, hW2⟩ : ∃ W2, w1.alloc (.cells #[.int .i64 lv, .slice none 0 0, .slice none 0 0] 24) = W2 := ⟨_, rfl⟩
  rw [hW2]
  obtain ⟨X, hX⟩ : ∃ X, w1.heap.size = X := ⟨_, rfl⟩
  have hal2 : Below w1.heap.size w1 W2 := by rw [← hW2]; exact (Below.refl _ _).alloc (Nat.le_refl _) _
  have hX2 : W2.heap[X]? = some (.cells #[.int .i64 lv, .slice none 0 0, .slice none 0 0] 24 (0, 0)) := by rw [← hW2, ← hX]; exact heap_alloc_new _ _
  rw [hX]
  have hwX : w.heap.size < X := by omega
  have HO2 := mkHid (show OUT 24 w (X + 1) X lv none 0 0 none 0 0 [] [] W2 from ⟨World.ownsRow_nil _ _ _ _, World.ownsRow_nil _ _ _ _, (fun g hg => by cases hg), hX2, HB1.out.trans (hal2.mono HB1.out.size), by omega, Nat.lt_succ_self _⟩)
  have HLT := mkHid (show ∀ b, b < X → W2.heap[b]? = w1.heap[b]? from fun b hb => hal2.block b (by omega))
  have hgX : gb < X := by omega
  have HXE := mkHid hX
  clear hal2 hX2 hW2 hX hgb k0 k1 hlb hpl
  go_wp2_with fail
  go_loopw [7] (fun i wr => ∃ (q : Nat) (A : Option Addr) (C : Nat) (A' : Option Addr) (C' : Nat), q ≤ M ∧ i = .int .i64 q ∧ Hid (OUT 24 w (X + 1) X lv A q C A' q C' (keysOf ((List.range q).map (pairAt p))) (valsOf ((List.range q).map (pairAt p))) wr) ∧ Hid (∀ b, b < X → wr.heap[b]? = w1.heap[b]?) ∧ Hid (∀ i, i < q → pairIs p i = true)) (fun i _ => M - (intOf i).toNat)
  case atStart => exact ⟨0, none, 0, none, 0, Nat.zero_le _, rfl, HO2, HLT, mkHid fun i hi => absurd hi (Nat.not_lt_zero _)⟩
  case round =>
    clear HO2 HLT
    obtain ⟨q, A, C, A', C', hq, rfl, HO, HLT, HAL'⟩ := hrel
    have hbw : BS wr X (some ⟨gb, ob, none⟩) (2 + 16 * M) p := by have := HBS1.out; rw [HXE.out] at this; exact this.keep HLT.out
    obtain ⟨gb', ob', e', _, k1, _, _⟩ := hbw.at_ (j := 1) (by omega)
    injection e' with e'
    injection e' with e1 e2
    subst e1
    subst e2
    have hcn : p[1]?.getD 0 = (M : Int) := by have := HPOK.out.get 1; have := HM.out; unfold cntOf at this; omega
    rw [hcn] at k1
    have x0 := HO.out.c0
    have x1 := HO.out.c1
    have x2 := HO.out.c2
    have HBW := mkHid hbw
    clear hbw hcn
    by_cases hlt : q < M
    · have hne8 : ¬ C1 = 2 + 16 * q := by omega
      have hne10 : ¬ C1 = 10 + 16 * q := by omega
      go_wp2_with fail
      have HDR := mkHid (show ∀ lo, lo ≤ 2 + 16 * M → BS wr wr.heap.size (some ⟨gb, ob + lo, none⟩) (2 + 16 * M - lo) (p.drop lo) from fun lo hlo => by
        have h := HBW.out.cut lo (2 + 16 * M) hlo (Nat.le_refl _)
        rw [List.take_of_length_le (by rw [HPL.out]; exact Nat.le_refl _)] at h
        exact h.more (by have := HO.out.lt; omega))
      refine (rread_any 8 (.inr (.inr (.inr rfl))) (some ⟨gb, ob + (2 + 16 * q), none⟩) (2 + 16 * M - (2 + 16 * q)) (C1 - (2 + 16 * q)) (p.drop (2 + 16 * q)) wr (HDR.out _ (by omega)) (by omega)).mono ?_
      rintro e y ⟨rfl, rfl⟩
      go_wp2_with fail
      refine (rread_any 8 (.inr (.inr (.inr rfl))) (some ⟨gb, ob + (10 + 16 * q), none⟩) (2 + 16 * M - (10 + 16 * q)) (C1 - (10 + 16 * q)) (p.drop (10 + 16 * q)) wr (HDR.out _ (by omega)) (by omega)).mono ?_
      rintro e y ⟨rfl, rfl⟩
      have HXS := mkHid (show (List.range (q + 1)).map (pairAt p) = (List.range q).map (pairAt p) ++ [((readOf 8 (p.drop (2 + 16 * q))).1, (readOf 8 (p.drop (10 + 16 * q))).1)] from by
        rw [List.range_succ, List.map_append]
        rfl)
      have HPI := mkHid (show pairIs p q = ((readOf 8 (p.drop (2 + 16 * q))).2 && (readOf 8 (p.drop (10 + 16 * q))).2) from rfl)
      obtain ⟨K1, hK1⟩ : ∃ t, readOf 8 (p.drop (2 + 16 * q)) = t := ⟨_, rfl⟩
      obtain ⟨K2, hK2⟩ : ∃ t, readOf 8 (p.drop (10 + 16 * q)) = t := ⟨_, rfl⟩
      rw [hK1] at HXS HPI ⊢
      rw [hK2] at HXS HPI ⊢
      obtain ⟨xk, b1⟩ := K1
      obtain ⟨xv, b2⟩ := K2
      simp only at HXS HPI ⊢
      clear hK1 hK2 HDR
      have hbad : pairIs p q = false → parsN l = (70, 0, []) := fun h => by
        rw [HPAR.out, if_neg]
        rintro ⟨_, h'⟩
        unfold okD fitD at h'
        rw [Bool.and_eq_true, Bool.and_eq_true] at h'
        have := List.all_eq_true.1 h'.1.2 q (List.mem_range.2 (by rw [HM.out]; exact hlt))
        rw [h] at this
        cases this
      have HBAD := mkHid hbad
      clear hbad
      have HRW := mkHid ((HLT.out _ hwX).trans HR1.out)
      cases b1 with
      | false =>
        obtain ⟨⟨c0, c1, c2⟩, f0, f1, f2⟩ := HCR.out wr HRW.out
        have HP := mkHid (HBAD.out (by rw [HPI.out]; rfl))
        go_wp2_with fail
        refine bodyPost_ret (v := .tuple #[.agg #[.int .i64 0, .slice none 0 0, .slice none 0 0], .bool false]) (by simp [results, Try.results33, go_sem, c0, c1, c2]) rfl ?_
        exact HEND.out wr HO.out.be HP.out _ (by first | exact .inl rfl | exact .inr rfl) _ _ _ _ _ _ _
      | true =>
      cases b2 with
      | false =>
        obtain ⟨⟨c0, c1, c2⟩, f0, f1, f2⟩ := HCR.out wr HRW.out
        have HP := mkHid (HBAD.out (by rw [HPI.out]; rfl))
        go_wp2_with fail
        refine bodyPost_ret (v := .tuple #[.agg #[.int .i64 0, .slice none 0 0, .slice none 0 0], .bool false]) (by simp [results, Try.results33, go_sem, c0, c1, c2]) rfl ?_
        exact HEND.out wr HO.out.be HP.out _ (by first | exact .inl rfl | exact .inr rfl) _ _ _ _ _ _ _
      | true =>
      have HOr := mkHid HO.out.rebase
      go_wp2_with (first
        | (refine list_key 75 77 rfl rfl HOr.out (below_al (Below.refl _ _) _) (by omega) (heap_alloc_new _ _) (by omega) rfl rfl ?_; intro A3 C3 w3 ho c1 c2 f1 f2)
        | (refine list_val 81 83 rfl rfl ho.out (below_al (Below.refl _ _) _) (by omega) (set_alloc_nw w3 ⟨X, 1, none⟩ _ _) (by omega) rfl rfl ?_; intro A4 C4 w4 hp c3 c4 f3 f4))
      obtain ⟨U, hU⟩ : ∃ U, w4.setCell ⟨X, 2, none⟩ (.slice A4 (q + 1) C4) = U := ⟨_, rfl⟩
      rw [hU] at hp ⊢
      obtain ⟨hk1, hk2⟩ := HO.out.back hp.out
      have HO4 := mkHid hk1
      have HL4 := mkHid (show ∀ b, b < X → U.heap[b]? = w1.heap[b]? from fun b hb => (hk2 b hb).trans (HLT.out b hb))
      clear hU c1 c2 f1 f2 c3 c4 f3 f4 ho hp hk1 hk2
      go_wp2_with fail
      go_roundw
      case measure => simp [intOf]; omega
      case rel =>
        refine ⟨q + 1, A3, C3, A4, C4, by omega, by go_num, mkHid ?_, HL4, mkHid fun i hi => ?_⟩
        · have h := HO4.out
          rw [HXS.out]
          have e1 : keysOf ((List.range q).map (pairAt p) ++ [(xk, xv)]) = keysOf ((List.range q).map (pairAt p)) ++ [xk] := by simp [keysOf]
          have e2 : valsOf ((List.range q).map (pairAt p) ++ [(xk, xv)]) = valsOf ((List.range q).map (pairAt p)) ++ [xv] := by simp [valsOf]
          rw [e1, e2]
          exact h
        · rcases Nat.lt_or_ge i q with h | h
          · exact HAL'.out i h
          · obtain rfl : i = q := by omega
            rw [HPI.out]
            rfl
    · obtain rfl : q = M := by omega
      have hraw : rawD p = (lv, (List.range q).map (pairAt p)) := by
        refine Prod.ext HP0.out ?_
        show (List.range (cntOf p)).map (pairAt p) = _
        rw [HM.out]
      have hfit : fitD p = true := by
        unfold fitD
        rw [HM.out, HPL.out, Bool.and_eq_true]
        exact ⟨decide_eq_true ⟨by omega, rfl⟩, List.all_eq_true.2 fun i hi => HAL'.out i (List.mem_range.1 hi)⟩
      have hpar : parsN l = if rightN lv (keysOf ((List.range q).map (pairAt p))) (valsOf ((List.range q).map (pairAt p))) = true then (0, rawD p) else (70, 0, []) := by
        rw [HPAR.out]
        unfold okD rightX
        rw [hfit, hraw, Bool.true_and]
        by_cases h : rightN lv (keysOf ((List.range q).map (pairAt p))) (valsOf ((List.range q).map (pairAt p))) = true
        · rw [if_pos ⟨trivial, h⟩, if_pos h]
        · rw [if_neg (fun e => h e.2), if_neg h]
      rw [hraw] at hpar
      have HPA := mkHid hpar
      have hok := (show ∀ i, I64 (pairAt p i).1 ∧ I64 (pairAt p i).2 from fun i => by
        have rd : ∀ s : List Int, okBytes s → I64 (readOf 8 s).1 := fun s hs => by
          have h1 := (take_read 8 (.inr (.inr (.inr rfl))) s hs).1
          have h2 := takeOf_ok hs 8 false
          rw [h1] at h2
          exact ⟨by omega, by omega⟩
        exact ⟨rd _ (HPOK.out.drop _), rd _ (HPOK.out.drop _)⟩)
      obtain ⟨xs, hxs⟩ : ∃ t, (List.range q).map (pairAt p) = t := ⟨_, rfl⟩
      have hIK : ∀ x ∈ keysOf xs, I64 x := fun x hx => by
        rw [← hxs] at hx
        obtain ⟨y, hy, rfl⟩ := List.mem_map.1 hx
        obtain ⟨i, _, rfl⟩ := List.mem_map.1 hy
        exact (hok i).1
      have hIV : ∀ x ∈ valsOf xs, I64 x := fun x hx => by
        rw [← hxs] at hx
        obtain ⟨y, hy, rfl⟩ := List.mem_map.1 hx
        obtain ⟨i, _, rfl⟩ := List.mem_map.1 hy
        exact (hok i).2
      rw [hxs] at HPA HO
      have HIK := mkHid (HO.out.isk hIK)
      have HIV := mkHid (HO.out.isv hIV)
      have hcapk := own_cap HO.out.kr
      have hcapv := own_cap HO.out.vr
      have HCK := mkHid (show CapOk q C from ⟨hcapk.1, hcapk.2, by omega⟩)
      have HCV := mkHid (show CapOk q C' from ⟨hcapv.1, hcapv.2, by omega⟩)
      have HROW := mkHid (And.intro (show ∀ ad : Addr, A = some ad → w.heap.size + 1 ≤ ad.block from fun ad had => by have := own_from HO.out.kr ad had; omega) (show ∀ ad : Addr, A' = some ad → w.heap.size + 1 ≤ ad.block from fun ad had => by have := own_from HO.out.vr ad had; omega))
      have HXX := mkHid (show ∀ Z : World, Z.heap[X]? = wr.heap[X]? → Z.cell? ⟨X, 0, none⟩ = some (.int .i64 lv) ∧ Z.cell? ⟨X, 1, none⟩ = some (.slice A q C) ∧ Z.cell? ⟨X, 2, none⟩ = some (.slice A' q C') from fun Z hZ => ⟨cell_of_row Z X 0 _ _ _ (hZ.trans HO.out.bl), cell_of_row Z X 1 _ _ _ (hZ.trans HO.out.bl), cell_of_row Z X 2 _ _ _ (hZ.trans HO.out.bl)⟩)
      have HRW := mkHid ((HLT.out _ hwX).trans HR1.out)
      have HBE := mkHid HO.out.be
      have HXL := mkHid HO.out.lt
      have HDR := mkHid (show ∀ Z : World, Z.heap = wr.heap → Calls Try.prog 11 #[.agg #[.int .i64 lv, .slice A q C, .slice A' q C']] Z fun e w' => e = .returned (.bool (rightN lv (keysOf xs) (valsOf xs))) ∧ Below Z.heap.size Z w' from fun Z hZ => dright_any lv A A' q q C C' (keysOf xs) (valsOf xs) Z ((HIK.out.keep (w' := Z) fun b _ => by rw [hZ]).more (by rw [hZ]; exact Nat.le_refl _)) ((HIV.out.keep (w' := Z) fun b _ => by rw [hZ]).more (by rw [hZ]; exact Nat.le_refl _)))
      obtain ⟨RB, hRB⟩ : ∃ b, rightN lv (keysOf xs) (valsOf xs) = b := ⟨_, rfl⟩
      rw [hRB] at HDR HPA
      clear hpar hraw hfit hok hxs hIK hIV hcapk hcapv hRB HO
      have gx := HXX.out wr rfl
      go_wp2_with fail
      go_region_held3 (fun Z => Z.cell? ⟨X, 0, none⟩ = some (.int .i64 lv) ∧ Z.cell? ⟨X, 1, none⟩ = some (.slice A q C) ∧ Z.cell? ⟨X, 2, none⟩ = some (.slice A' q C')) (first | exact gx7 | exact gx | exact HXX.out _ (((heap_setCell_other _ _ _ _ hne).trans ((heap_setCell_other _ _ _ _ hne).trans (heap_setCell_other _ _ _ _ hne))).trans hx7)) (
        (go_at_call 11; refine (HDR.out _ (by rfl)).mono ?_; rintro e w7 ⟨rfl, hb7⟩; have hb7 : Below wr.heap.size wr w7 := Below.mk hb7.os hb7.tape hb7.output hb7.size hb7.block; have hx7 := hb7.block X HXL.out; have gx7 := HXX.out w7 hx7; have hne : X ≠ w.heap.size := (by omega); have hr7 := (hb7.block _ (Array.getElem?_eq_some_iff.1 HRW.out).1).trans HRW.out; have HB7 := mkHid hb7; have HR7 := mkHid hr7; obtain ⟨⟨r0, r1, r2⟩, z0, z1, z2⟩ := HCR.out w7 hr7; clear hb7 hr7))
      all_goals
        have HIK7 := mkHid ((HIK.out.below HB7.out).more HB7.out.size)
        have HIV7 := mkHid ((HIV.out.below HB7.out).more HB7.out.size)
        have HBW := mkHid (HBE.out.trans (HB7.out.mono HBE.out.size))
        have HDEC := mkHid (show decide ((parsN l).1 = 0) = RB from by rw [HPA.out]; cases RB <;> rfl)
        have HYES := mkHid (show (parsN l).1 = 0 → parsN l = (0, lv, xs) from fun h0 => by
          rw [HPA.out] at h0 ⊢
          cases RB with
          | true => rfl
          | false => cases h0)
        clear hx7 gx7 gx hne
        go_wp2_with fail
        refine bodyPost_ret (v := .tuple #[.agg #[.int .i64 lv, .slice A q C, .slice A' q C'], .bool RB]) (by simp [results, Try.results33, go_sem, r0, r1, r2]) rfl ?_
        have hk : ∀ ad : Addr, A = some ad → ∀ j : Nat, ad.block ≠ (⟨w.heap.size, j, none⟩ : Addr).block := fun ad had j e => by have := HROW.out.1 ad had; rw [e] at this; simp only at this; omega
        have hv : ∀ ad : Addr, A' = some ad → ∀ j : Nat, ad.block ≠ (⟨w.heap.size, j, none⟩ : Addr).block := fun ad had j e => by have := HROW.out.2 ad had; rw [e] at this; simp only at this; omega
        refine ⟨_, _, _, _, _, _, _, by rw [HDEC.out], fun h0 => ?_, ((HBW.out.setCell (p := ⟨w.heap.size, 0, none⟩) (Nat.le_refl _) _).setCell (p := ⟨w.heap.size, 1, none⟩) (Nat.le_refl _) _).setCell (p := ⟨w.heap.size, 2, none⟩) (Nat.le_refl _) _⟩
        rw [HYES.out h0]
        refine ⟨A, q, C, A', q, C', rfl, ?_, ?_, HCK.out, HCV.out⟩
        · simp only [setCell_size]
          exact ((HIK7.out.set_other fun ad had => hk ad had 0).set_other fun ad had => hk ad had 1).set_other fun ad had => hk ad had 2
        · simp only [setCell_size]
          exact ((HIV7.out.set_other fun ad had => hv ad had 0).set_other fun ad had => hv ad had 1).set_other fun ad had => hv ad had 2

end Go.Proofs.Ytilepjkdfbhgcaa
