/- portagelaw01.FaultIs answers true. -/
import Derived.Test.YtolcajcihgfeeaaDoorFaultWraps
namespace Go.Proofs.YtolcajcihgfeeaaDoor
open Go.RowKit Go.Extern.Stop Go.Stop Go.Extern

theorem LS.more {w : World} {B B' : Nat} {a : Option Addr} {n : Nat} {ls : List Lk} (h : LS w B a n ls) (hB : B ≤ B') : LS w B' a n ls :=
  ⟨h.1, fun j hj => by
    obtain ⟨b, o, x, e, hb, h2⟩ := h.2 j hj
    exact ⟨b, o, x, e, by omega, h2⟩⟩
theorem el_code : ElemOk Tryd.prog 30 31 1 8 := ElemOk.mk' (z := .int .i64 0) Tryd.underlying30 (by kernel_rfl) rfl (by decide)
theorem one_intF (x : Int) : ∀ u ∈ [Value.int .i64 x], u.oneCell' = true := fun u hu => by
  rw [List.mem_singleton.1 hu]; rfl
theorem any_eq_code (xs : List Int) (code : Int) : (xs.any fun y => some code == some y) = xs.any fun y => y == code := by
  congr 1
  funext y
  by_cases h : code = y
  · subst h; simp
  · have h' : ¬ y = code := fun e => h e.symm
    rw [show (some code == some y) = (code == y) from rfl, beq_eq_false_iff_ne.2 h, beq_eq_false_iff_ne.2 h']
set_option maxRecDepth 20000 in
set_option maxHeartbeats 4000000 in
theorem faultIs_any (a a' : Option Addr) (n c n' c' : Nat) (ls : List Lk) (xs : List Int) (code other : Int) (w : World) (hE : ErrT w) (h : LS w w.heap.size a n ls) (hx : IS w w.heap.size a' n' xs) :
    Calls Tryd.prog 3 #[.agg #[.slice a n c, .int .i64 code, .int .i64 other, .slice a' n' c']] w fun e w' => e = .returned (.bool true) ∧ Below w.heap.size w w' := by
  obtain ⟨W, hW⟩ : ∃ W, w.alloc (.cells #[.slice a n c, .int .i64 code, .int .i64 other, .slice a' n' c'] 25) = W := ⟨_, rfl⟩
  have HB0 := mkHid (show Below w.heap.size w W from by rw [← hW]; exact below_alF _)
  have hg : W.heap[w.heap.size]? = some (.cells #[.slice a n c, .int .i64 code, .int .i64 other, .slice a' n' c'] 25 (0, 0)) := by rw [← hW]; exact heap_alloc_new w _
  have k0 : W.cell? ⟨w.heap.size, 0, none⟩ = some (.slice a n c) := cell_of_row W w.heap.size 0 _ _ _ hg
  have k1 : W.cell? ⟨w.heap.size, 1, none⟩ = some (.int .i64 code) := cell_of_row W w.heap.size 1 _ _ _ hg
  have k2 : W.cell? ⟨w.heap.size, 2, none⟩ = some (.int .i64 other) := cell_of_row W w.heap.size 2 _ _ _ hg
  have k3 : W.cell? ⟨w.heap.size, 3, none⟩ = some (.slice a' n' c') := cell_of_row W w.heap.size 3 _ _ _ hg
  have HE := mkHid (hE.below HB0.out)
  have HL := mkHid (h.below HB0.out)
  have HX := mkHid (hx.below HB0.out)
  have HLN := mkHid h.1
  have HXN := mkHid hx.len
  clear hE h hx hg
  go_enter Tryd.func3, Tryd.ntmps3
  go_wp2_with fail
  go_quiet (fail)
  obtain ⟨W1, hW1⟩ : ∃ W1, W.drewN nq = W1 := ⟨_, rfl⟩
  have HB1 := mkHid (show Below w.heap.size w W1 from by rw [← hW1]; exact below_drewN HB0.out _)
  have HE1 := mkHid (show ErrT W1 from by rw [← hW1]; exact HE.out)
  have HL1 := mkHid (show LS W1 w.heap.size a n ls from by rw [← hW1]; exact HL.out)
  have HX1 := mkHid (show IS W1 w.heap.size a' n' xs from by rw [← hW1]; exact HX.out)
  rw [hW1]
  clear hW hW1 k0 k1 k2 k3
  by_cases hbig : 200 < n ∨ 200 < n'
  · by_cases hb1 : 200 < n
    · go_wp2_with (go_at_call 9; refine (awake_any _ HE1.out).mono ?_; rintro e w1 ⟨rfl, hb⟩; have HB2 := mkHid (hb.mono HB1.out.size); clear hb)
      go_ret
      exact ⟨rfl, HB1.out.trans HB2.out⟩
    · have hb2 : 200 < n' := by omega
      have hb3 : n ≤ 200 := by omega
      clear hb1 hbig
      go_wp2_with (go_at_call 9; refine (awake_any _ HE1.out).mono ?_; rintro e w1 ⟨rfl, hb⟩; have HB2 := mkHid (hb.mono HB1.out.size); clear hb)
      go_ret
      exact ⟨rfl, HB1.out.trans HB2.out⟩
  · have hn : n ≤ 200 := by omega
    have hn' : n' ≤ 200 := by omega
    clear hbig
    go_wp2_with (go_at_call 10; refine (chain_any a n c ls code _ (HL1.out.more HB1.out.size) hn).mono ?_; rintro e w1 ⟨v, rfl, hch, hb⟩; obtain ⟨T, y, rfl⟩ := hch.form; have HK := mkHid (Kept.mk' hch HE1.out hb); have HXA := mkHid ((HX1.out.keep (fun b hb' => hb.block b (Nat.lt_of_lt_of_le hb' HB1.out.size)))); have HS1 := mkHid (Nat.le_trans HB1.out.size hb.size); clear hb hch)
    go_loopw [8, 9, 34] (fun out am i wr => ∃ (q : Nat) (A : Option Addr) (C : Nat) (b : Bool), q ≤ n' ∧ i = .int .i64 q ∧ out = .slice A q C ∧ am = .bool b ∧ Hid (b = (xs.take q).any fun y => y == code) ∧ Hid (wr.ownsRow w1.heap.size 31 1 (.slice A q C) q ((xs.take q).map i64v)) ∧ Hid (Below w1.heap.size w1 wr)) (fun _ _ i _ => n' - (intOf i).toNat)
    case atStart => exact ⟨0, none, 0, false, Nat.zero_le _, rfl, rfl, rfl, mkHid rfl, mkHid (World.ownsRow_nil _ _ _ _), mkHid (Below.refl _ _)⟩
    case round =>
      obtain ⟨q, A, C, b, hq, rfl, rfl, rfl, HAM, HO, HBR⟩ := hrel
      by_cases hlt : q < n'
      · obtain ⟨bk, o, rfl, hbk, hc0, _⟩ := HXA.out.at_ hlt
        obtain ⟨x, hx⟩ : ∃ x, xs[q]?.getD 0 = x := ⟨_, rfl⟩
        rw [hx] at hc0
        have hxq : xs[q]? = some x := by rw [← hx, List.getElem?_eq_getElem (by rw [HXN.out]; exact hlt)]; rfl
        have HT := mkHid (show (xs.take (q + 1)).map i64v = (xs.take q).map i64v ++ [.int .i64 x] ∧ ((xs.take (q + 1)).any fun y => y == code) = (((xs.take q).any fun y => y == code) || (x == code)) from by
          refine ⟨?_, any_take_succ hxq⟩
          obtain ⟨hk1, rfl⟩ := List.getElem?_eq_some_iff.1 hxq
          rw [List.take_succ_eq_append_getElem hk1, List.map_append]; rfl)
        have c0 := (HBR.out.cell (p := ⟨bk, o + q, none⟩) (Nat.lt_of_lt_of_le hbk HS1.out)).trans hc0
        have HS := mkHid (show w1.heap.size ≤ (wr.alloc (.cells #[.int .i64 x] 31)).heap.size from by have := HBR.out.size; simp; omega)
        clear hc0 hbk hx hxq
        cases b
        all_goals
          go_wp2_with (at_builtin; refine wpList_app _ rfl (.tmp 38) (.tmp 40) _ rfl w1.heap.size el_code A q C _ rfl (HO.out.alloc _) (wr.heap.size + 1) (some ⟨wr.heap.size, 0, none⟩) 1 1 [.int .i64 x] rfl (SL.one _ _) (one_intF _) (by unfold maxLen; omega) (by omega) HS.out ?_; intro A' C' w2 ho2 hg2 hat2; have HB3 := mkHid (grown_below hg2 (fun b e => (HO.out.lt b e).1) HS.out); have HO3 := mkHid ho2; clear ho2 hg2 hat2)
          go_roundw
          case measure => simp [intOf]; omega
          case rel => exact ⟨q + 1, A', C', _, hlt, by go_num, rfl, rfl, mkHid (by rw [HT.out.2, ← HAM.out]; rfl), mkHid (by rw [HT.out.1]; exact HO3.out), mkHid ((HBR.out.alloc HBR.out.size _).trans HB3.out)⟩
      · obtain rfl : q = n' := by omega
        have HAM2 := mkHid (show (xs.any fun y => some code == some y) = b from by rw [HAM.out, any_eq_code, List.take_of_length_le (by rw [HXN.out]; exact Nat.le_refl _)])
        have HXE := mkHid (show IS wr wr.heap.size A q xs from ⟨by have h1 := SL.of_own HO.out; rwa [List.take_of_length_le (by rw [HXN.out]; exact Nat.le_refl _)] at h1, HXA.out.2⟩)
        clear HAM HO
        by_cases hco : code = other
        · subst hco
          have hcc : (some code == some code) = true := by simp
          have hce : (code == code) = true := by simp
          have HCC := mkHid hcc
          clear hcc
          go_wp2_with (first
            | (go_at_call 11; refine (Is_any ls w1.heap.size (some code) T y code _ (HK.out.ch _ HBR.out)).mono ?_; rintro e w3 ⟨rfl, hww⟩; subst hww; rw [HCC.out])
            | (go_at_call 12; refine (isAny_any ls w1.heap.size (some code) T y A q C xs _ (HK.out.ch _ HBR.out) HBR.out.size HXE.out (by omega)).mono ?_; rintro e w4 ⟨rfl, hb⟩; rw [HAM2.out]; have HB4 := mkHid (below_stepF HBR.out hb); clear hb)
            | (go_at_call 9; refine (awake_any _ (HK.out.et _ HB4.out)).mono ?_; rintro e w5 ⟨rfl, hb⟩; have HB5 := mkHid (below_stepF HB4.out hb); clear hb))
          go_ret
          exact ⟨rfl, below_stepF HB1.out (HK.out.be _ HB5.out)⟩
        · have hce : (code == other) = false := beq_eq_false_iff_ne.2 hco
          have HCO := mkHid (show (some code == some other) = false from hce)
          have HCC := mkHid (show (some code == some code) = true by simp)
          clear hco
          go_wp2_with (first
            | (go_at_call 11; (with_reducible refine (Is_any ls w1.heap.size (some code) T y code _ (HK.out.ch _ HBR.out)).mono ?_); rintro e w3 ⟨rfl, hww⟩; subst hww; rw [HCC.out])
            | (go_at_call 11; (with_reducible refine (Is_any ls w1.heap.size (some code) T y other _ (HK.out.ch _ HBR.out)).mono ?_); rintro e w3 ⟨rfl, hww⟩; subst hww; rw [HCO.out])
            | (go_at_call 12; refine (isAny_any ls w1.heap.size (some code) T y A q C xs _ (HK.out.ch _ HBR.out) HBR.out.size HXE.out (by omega)).mono ?_; rintro e w4 ⟨rfl, hb⟩; rw [HAM2.out]; have HB4 := mkHid (below_stepF HBR.out hb); clear hb)
            | (go_at_call 9; refine (awake_any _ (HK.out.et _ HB4.out)).mono ?_; rintro e w5 ⟨rfl, hb⟩; have HB5 := mkHid (below_stepF HB4.out hb); clear hb))
          go_ret
          exact ⟨rfl, below_stepF HB1.out (HK.out.be _ HB5.out)⟩
end Go.Proofs.YtolcajcihgfeeaaDoor
