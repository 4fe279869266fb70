/- Node.Change by contract. -/
import Derived.Test.YtilepjkdfbhgcaaNdAD
namespace Go.Proofs.Ytilepjkdfbhgcaa
open Go.RowKit Go.Shelf

/-- slices.Replace of one pair by at most two, whichever. -/
theorem repP_any (A : Option Addr) (i r c m cv : Nat) (xs qs : List (Int × Int)) (av : Option Addr) (B : Nat) (w0 w : World) (hb : Below B w0 w) (hBw : B ≤ w.heap.size) (ho : w.ownsRow B 52 2 (.slice A (i + 1 + r) c) (i + 1 + r) (xs.flatMap enC))
    (hv : w.ownsRow 0 52 2 (.slice av m cv) m (qs.flatMap enC)) (hav : ∀ b o, av = some ⟨b, o, none⟩ → 0 < m → b < B) (hm : m ≤ 2) (hn : i + 1 + r ≤ 200) :
    Calls Try.prog 45 #[.slice A (i + 1 + r) c, .int .i64 i, .int .i64 ((i : Int) + 1), .slice av m cv] w (RetR B w0 (i + m + r) ((xs.take i ++ (qs ++ xs.drop (i + 1))).flatMap enC)) := by
  have hcap := own_cap ho
  have hX1 := enC_one xs
  have hV1 := enC_one qs
  have hl : (xs.flatMap enC).length = (i + 1 + r) * 2 := ho.1
  have hvl : (qs.flatMap enC).length = m * 2 := hv.1
  rw [List.flatMap_append, List.flatMap_append, ← flat_take, ← flat_drop]
  generalize xs.flatMap enC = X at *
  generalize qs.flatMap enC = V at *
  obtain ⟨g, L, rfl, hBg, _, hg, _, _, hL, hX⟩ := own_open ho (by omega)
  rcases Nat.eq_zero_or_pos r with hr | hr
  · subst hr
    rw [List.drop_of_length_le (by omega), List.append_nil]
    rcases Nat.eq_zero_or_pos m with hm0 | hm0
    · subst hm0
      obtain rfl : V = [] := List.eq_nil_of_length_eq_zero (by omega)
      rw [List.append_nil]
      exact rep_end0 g i c X L av cv B w0 w hb hBg hg hL hX hcap.2 (by omega) hcap.1
    · obtain ⟨q, Lq, rfl, _⟩ := own_open hv hm0
      have hsq : SL w (q + 1) 2 (some ⟨q, 0, none⟩) m V := ⟨hvl, fun j hj => by
        obtain ⟨b, o, e, _, h⟩ := (SL.of_own hv).2 j hj
        injection e with e
        injection e with e1 e2
        subst e1 e2
        exact ⟨_, _, rfl, Nat.lt_succ_self _, h⟩⟩
      exact rep_end (some ⟨g, 0, none⟩) i c m X V q cv B w0 w hb hBw ho hsq hV1 hm0 hm (by omega)
  · by_cases hm1 : m ≤ 1
    · exact rep_mid g i r m c X V L av cv B w.heap.size w0 w hb hBg hg hL hX hcap.2 (SL.of_own hv) hV1 hX1 hm1 hr hn hcap.1
    · obtain rfl : m = 2 := by omega
      obtain ⟨q, Lq, rfl, _, hqw, hqg, hq1, _, hLq, _⟩ := own_open hv (by omega)
      have hsq : SL w (q + 1) 2 (some ⟨q, 0, none⟩) 2 V := ⟨hvl, fun j hj => by
        obtain ⟨b, o, e, _, h⟩ := (SL.of_own hv).2 j hj
        injection e with e
        injection e with e1 e2
        subst e1 e2
        exact ⟨_, _, rfl, Nat.lt_succ_self _, h⟩⟩
      have hqB := hav q 0 rfl (by omega)
      by_cases hc : i + 2 + r ≤ c
      · exact rep_shift g i r c q X V L cv B Lq _ w0 w hb hBg hg hL hX hcap.2 hsq hqg (by omega) (by omega) hV1 hX1 hr hn hc
      · have hLX : L = X := by rw [← hX, List.take_of_length_le (by omega)]
        subst hLX
        exact rep_grow g i r c q V L cv B w0 w hb hBw hg hL hsq hqw hV1 hX1 hr hn (by omega)

/-- What Change makes of a node's pairs. -/
def changeL (ks vs : List Int) (p : Nat) (qs : List (Int × Int)) : List (Int × Int) := (pairsOf ks vs).take p ++ (qs ++ (pairsOf ks vs).drop (p + 1))
/-- Change's error and nodes. -/
def changeOf (lv : Int) (ks vs : List Int) (at_ : Int) (qs : List (Int × Int)) : Int × List Nd :=
  if rightN lv ks vs = false then (70, []) else if at_ < 0 ∨ (ks.length : Int) ≤ at_ ∨ 2 < qs.length then (80, [])
  else if ordFrom none (changeL ks vs at_.toNat qs) = false then (80, []) else (0, cutOf lv (changeL ks vs at_.toNat qs))

set_option maxRecDepth 20000 in
set_option maxHeartbeats 2000000 in
theorem change_any (lv : Int) (a a' s : Option Addr) (n m c c' k cs : Nat) (ks vs : List Int) (at_ : Int) (qs : List (Int × Int)) (w : World) (hk : IS w w.heap.size a n ks) (hv : IS w w.heap.size a' m vs)
    (hs : w.ownsRow 0 52 2 (.slice s k cs) k (qs.flatMap enC)) (hq : ∀ x ∈ qs, EnOk x) :
    Calls Try.prog 25 #[.agg #[.int .i64 lv, .slice a n c, .slice a' m c'], .int .i64 at_, .slice s k cs] w (RetLE w (changeOf lv ks vs at_ qs)) := by
  have HLK := mkHid hk.len
  have HLQ := mkHid (show qs.length = k by have := hs.1; rw [flat_len enC 2 (fun _ => rfl)] at this; omega)
  obtain ⟨W, hW⟩ : ∃ W, w.alloc (.cells #[.int .i64 lv, .slice a n c, .slice a' m c'] 32) = W := ⟨_, rfl⟩
  have HAL := mkHid (show Below w.heap.size w W from by rw [← hW]; exact (Below.refl _ _).alloc (Nat.le_refl _) _)
  have HSZ := mkHid (show W.heap.size = w.heap.size + 1 by rw [← hW]; simp)
  have hbx : W.heap[w.heap.size]? = some (.cells #[.int .i64 lv, .slice a n c, .slice a' m c'] 32) := by rw [← hW]; exact heap_alloc_new _ _
  have HKS := mkHid ((hk.below HAL.out).more HAL.out.size)
  have HVS := mkHid ((hv.below HAL.out).more HAL.out.size)
  have HQS := mkHid (own_below hs HAL.out)
  have HQB := mkHid (show ∀ b o, s = some ⟨b, o, none⟩ → 0 < k → b < w.heap.size from fun b o e h0 => by
    obtain ⟨b', L', e', _, h, _⟩ := own_open hs h0
    rw [e] at e'
    injection e' with e'
    injection e' with e'
    omega)
  have HQ := mkHid hq
  have HLV := mkHid hv.len
  have HBX := mkHid hbx
  have HK := mkHid (show ∀ Z, Below W.heap.size W Z → (Z.cell? ⟨w.heap.size, 0, none⟩ = some (.int .i64 lv) ∧ Z.cell? ⟨w.heap.size, 1, none⟩ = some (.slice a n c) ∧ Z.cell? ⟨w.heap.size, 2, none⟩ = some (.slice a' m c')) from fun Z hZ =>
    have h := (hZ.block _ (by rw [HSZ.out]; omega)).trans HBX.out
    ⟨cell_of_row Z w.heap.size 0 _ _ _ h, cell_of_row Z w.heap.size 1 _ _ _ h, cell_of_row Z w.heap.size 2 _ _ _ h⟩)
  clear hk hv hbx hs hq
  obtain ⟨k0, k1, k2⟩ := HK.out W (Below.refl _ _)
  go_enter Try.func25, Try.ntmps25
  go_wp2_with fail
  refine (ncheck_any lv a a' n m c c' ks vs W HKS.out HVS.out).mono ?_
  rintro e w2 ⟨rfl, hb2⟩
  have HB2 := mkHid hb2
  clear hb2 k0 k1 k2 hW
  cases hr : rightN lv ks vs with
  | false =>
    have HV := mkHid (show changeOf lv ks vs at_ qs = (70, []) from if_pos hr)
    clear hr
    rw [nodeE_f]
    go_wp2_with fail
    go_ret2
    rw [HV.out]
    exact RetLE.none (HAL.out.trans (HB2.out.mono HAL.out.size))
  | true =>
    rw [nodeE_t]
    have HR := mkHid hr
    have hok := rightN_ok hr
    obtain ⟨_, _, hlen, h1n, hn7, _, hfit⟩ := hok
    rw [HLK.out] at h1n hn7
    rw [HLK.out, HLV.out] at hlen
    subst hlen
    have HFIT := mkHid hfit
    clear hr hfit
    obtain ⟨k0, k1, k2⟩ := HK.out w2 HB2.out
    by_cases hg : at_ < 0 ∨ (n : Int) ≤ at_ ∨ 2 < k
    · have HV := mkHid (show changeOf lv ks vs at_ qs = (80, []) by unfold changeOf; rw [if_neg (by rw [HR.out]; decide), if_pos (by rw [HLK.out, HLQ.out]; exact hg)])
      by_cases h1 : at_ < 0
      · clear hg
        go_wp2_with fail
        go_ret2
        rw [HV.out]
        exact RetLE.none (HAL.out.trans (HB2.out.mono HAL.out.size))
      · by_cases h2 : (n : Int) ≤ at_
        · clear hg
          go_wp2_with fail
          go_ret2
          rw [HV.out]
          exact RetLE.none (HAL.out.trans (HB2.out.mono HAL.out.size))
        · have h3 : (2 : Int) < (k : Int) := by omega
          have h4 : 2 < k := by omega
          clear hg
          go_wp2_with fail
          go_ret2
          rw [HV.out]
          exact RetLE.none (HAL.out.trans (HB2.out.mono HAL.out.size))
    · have hg' : 0 ≤ at_ ∧ at_ < n ∧ k ≤ 2 := by omega
      obtain ⟨h1, h2, h3⟩ := hg'
      have HV0 := mkHid (show changeOf lv ks vs at_ qs = if ordFrom none (changeL ks vs at_.toNat qs) = false then (80, []) else (0, cutOf lv (changeL ks vs at_.toNat qs)) by unfold changeOf; rw [if_neg (by rw [HR.out]; decide), if_neg (by rw [HLK.out, HLQ.out]; exact hg)])
      clear hg
      obtain ⟨p, rfl⟩ : ∃ p : Nat, at_ = p := ⟨at_.toNat, by omega⟩
      rw [Int.toNat_natCast] at HV0
      obtain ⟨r, rfl⟩ : ∃ r, n = p + 1 + r := ⟨n - (p + 1), by omega⟩
      have g1 : ¬ ((p : Int) < 0) := by omega
      have g2 : ¬ (((p : Int) + 1 + (r : Int)) ≤ (p : Int)) := by omega
      have g3 : ¬ ((2 : Int) < (k : Int)) := by omega
      have g4 : (k : Int) ≤ 2 := by omega
      have g5 : (p : Int) < (p : Int) + 1 + (r : Int) := by omega
      have e8 : IntKind.i64.wrap ((p : Int) + 1) = (p : Int) + 1 := IntWalk.i64_in _ (by omega)
      clear h1 h2
      go_wp2_with fail
      refine (pairs_any lv a a' (p + 1 + r) c c' ks vs w2 ((HKS.out.below HB2.out).more HB2.out.size) ((HVS.out.below HB2.out).more HB2.out.size) (by omega)).mono ?_
      rintro e w4 ⟨A, C, rfl, ho4, hb4⟩
      have hlz : (pairsOf ks vs).length = p + 1 + r := by rw [pairs_len (by rw [HLK.out, HLV.out]), HLK.out]
      rw [hlz] at ho4 ⊢
      have HB4 := mkHid (below_next HB2.out hb4)
      have HB24 := mkHid hb4
      have HO4 := mkHid ho4
      have HQ4 := mkHid (own_below HQS.out (below_next HB2.out hb4))
      clear hb4 ho4 k0 k1 k2 hlz
      go_wp2_with fail
      refine (repP_any A p r C k cs (pairsOf ks vs) qs s w2.heap.size w2 w4 HB24.out HB24.out.size HO4.out HQ4.out (fun b o e h0 => by have h4 := HQB.out b o e h0; have h5 := HSZ.out; have h6 := HB2.out.size; omega) h3 (by omega)).mono ?_
      rintro e w5 ⟨A5, C5, rfl, ho5, hb5⟩
      have HB5 := mkHid (below_next HB2.out hb5)
      have HO5 := mkHid (show w5.ownsRow w2.heap.size 52 2 (.slice A5 (p + k + r) C5) (p + k + r) ((changeL ks vs p qs).flatMap enC) from ho5)
      have HES5 := mkHid (show ES w5 w5.heap.size A5 (p + k + r) (changeL ks vs p qs) from ES.of_own HO5.out (fun x hx => by
        rcases List.mem_append.1 hx with h1 | h1
        · exact fits_ok (HFIT.out x (List.mem_of_mem_take h1))
        · rcases List.mem_append.1 h1 with h1 | h1
          · exact HQ.out x h1
          · exact fits_ok (HFIT.out x (List.mem_of_mem_drop h1))))
      clear ho5 hb5
      go_wp2_with fail
      refine (ordered_any A5 (p + k + r) C5 (changeL ks vs p qs) w5 HES5.out (by omega)).mono ?_
      rintro e w6 ⟨rfl, hb6⟩
      have HB6 := mkHid (below_next HB5.out hb6)
      have HES6 := mkHid ((HES5.out.below hb6).more hb6.size)
      clear hb6
      cases ho : ordFrom none (changeL ks vs p qs) with
      | false =>
        have HV := mkHid (HV0.out.trans (if_pos ho))
        clear ho
        go_wp2_with fail
        go_ret2
        rw [HV.out]
        exact RetLE.none (HAL.out.trans (HB6.out.mono HAL.out.size))
      | true =>
        have HV := mkHid (HV0.out.trans (if_neg (by rw [ho]; decide)))
        clear ho
        obtain ⟨k0, k1, k2⟩ := HK.out w6 HB6.out
        go_wp2_with fail
        refine (cut_any lv a a' (p + 1 + r) (p + 1 + r) c c' A5 (p + k + r) C5 (changeL ks vs p qs) _ HES6.out (by omega) (own_cap HO5.out).1 (own_cap HO5.out).2).mono ?_
        rintro e w7 ⟨A7, C7, rfl, hle7, hns7, hb7⟩
        have HNS := mkHid hns7
        have HLE := mkHid hle7
        have HB7 := mkHid (below_next (HAL.out.trans (HB6.out.mono HAL.out.size)) hb7)
        clear hns7 hle7 hb7 k0 k1 k2
        go_wp2_with fail
        go_ret2
        rw [HV.out]
        exact ⟨A7, C7, rfl, HLE.out, HNS.out, HB7.out⟩

end Go.Proofs.Ytilepjkdfbhgcaa
