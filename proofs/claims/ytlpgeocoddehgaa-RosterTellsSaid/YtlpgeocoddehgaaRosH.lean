/- portagelaw05's same and awake, portageref05's copied, Count, Room by contract. -/
import Derived.Test.YtlpgeocoddehgaaRosG
namespace Go.Proofs.Ytlpgeocoddehgaa
open Go.RowKit Go.Shelf

theorem below_drewN {B : Nat} {w w1 : World} (h : Below B w w1) (n : Nat) : Below B w (w1.drewN n) := ⟨h.os, h.tape, h.output, h.size, h.block⟩
theorem ext_take {xs ys : List (Int × Int)} (hl : xs.length = ys.length) (h : ∀ (j : Nat) x y, xs[j]? = some x → ys[j]? = some y → x = y) : xs = ys := by
  apply List.ext_getElem? 
  intro j
  by_cases hj : j < xs.length
  · have h1 : xs[j]? = some xs[j] := List.getElem?_eq_getElem hj
    have h2 : ys[j]? = some (ys[j]'(by omega)) := List.getElem?_eq_getElem (by omega)
    rw [h1, h2, h j _ _ h1 h2]
  · rw [List.getElem?_eq_none (by omega), List.getElem?_eq_none (by omega)]
set_option maxRecDepth 20000 in
set_option maxHeartbeats 1000000 in
theorem same_any (a : Option Addr) (n c : Nat) (xs : List (Int × Int)) (a' : Option Addr) (n' c' : Nat) (ys : List (Int × Int)) (w : World) (hs : ES w w.heap.size a n xs) (hc : CapOk n c) (hs' : ES w w.heap.size a' n' ys) (hc' : CapOk n' c') :
    Calls Try.prog 22 #[.agg #[.slice a n c], .slice a' n' c'] w fun e w' => e = .returned (.bool (decide (xs = ys))) ∧ Below w.heap.size w w' := by
  have HS := mkHid hs
  have HS' := mkHid hs'
  have HL := mkHid hs.len
  have HL' := mkHid hs'.len
  obtain ⟨hc1, hc2, hc3⟩ := hc
  obtain ⟨hc1', hc2', hc3'⟩ := hc'
  clear hs hs'
  obtain ⟨W, hW⟩ : ∃ W, w.alloc (.cells #[.slice a n c] 27) = W := ⟨_, rfl⟩
  have HAL := mkHid (show Below w.heap.size w W by rw [← hW]; exact (Below.refl _ _).alloc (Nat.le_refl _) _)
  have hbx : W.heap[w.heap.size]? = some (.cells #[.slice a n c] 27) := by rw [← hW]; exact heap_alloc_new _ _
  have c1 := cell_of_row W w.heap.size 0 _ _ _ hbx
  simp at c1
  clear hbx
  by_cases hne : n = n'
  · subst hne
    go_enter Try.func22, Try.ntmps22
    go_wp2_with fail
    clear hW
    go_loopw [16] (fun i wr => ∃ q : Nat, q ≤ n ∧ i = .int .i64 q ∧ Hid (Below w.heap.size w wr) ∧ Hid (∀ j x y, j < q → xs[j]? = some x → ys[j]? = some y → x = y)) (fun i _ => n - (intOf i).toNat)
    case atStart => exact ⟨0, Nat.zero_le _, rfl, HAL, mkHid fun j x y h => absurd h (by omega)⟩
    case round =>
      obtain ⟨q, hq, rfl, HB, HA⟩ := hrel
      clear c1
      by_cases hlt : q < n
      · obtain ⟨b, o, x, rfl, hb, hx, _, h0, h1⟩ := HS.out.at_ hlt
        obtain ⟨b', o', y, rfl, hb', hy, _, h0', h1'⟩ := HS'.out.at_ hlt
        have d0 := (HB.out.cell (p := ⟨b, o + q * 2, none⟩) hb).trans h0
        have d1 := (HB.out.cell (p := ⟨b, o + q * 2 + 1, none⟩) hb).trans h1
        have d0' := (HB.out.cell (p := ⟨b', o' + q * 2, none⟩) hb').trans h0'
        have d1' := (HB.out.cell (p := ⟨b', o' + q * 2 + 1, none⟩) hb').trans h1'
        have hwr := HB.out.size
        have hbr : b' < wr.heap.size := by omega
        have HX := mkHid hx
        have HY := mkHid hy
        obtain ⟨x1, x2⟩ := x
        obtain ⟨y1, y2⟩ := y
        simp only at d0 d1 d0' d1'
        have e0 : (wr.alloc (.cells #[.int .i64 x1, .int .i64 x2] 46)).cell? ⟨b', o' + q * 2, none⟩ = some (.int .i64 y1) := (World.cell?_of_block (w := wr) (Below.heap_alloc _ _ _ hbr)).trans d0'
        have e1 : (wr.alloc (.cells #[.int .i64 x1, .int .i64 x2] 46)).cell? ⟨b', o' + q * 2 + 1, none⟩ = some (.int .i64 y2) := (World.cell?_of_block (w := wr) (Below.heap_alloc _ _ _ hbr)).trans d1'
        have HBA := mkHid (HB.out.alloc hwr (.cells #[.int .i64 x1, .int .i64 x2] 46))
        clear h0 h1 h0' h1' hx hy d0' d1'
        by_cases g1 : x1 = y1
        · subst g1
          by_cases g2 : x2 = y2
          · subst g2
            have gb1 : (x1 != x1) = false := by simp
            have gb2 : (x2 != x2) = false := by simp
            go_wp2_with fail
            go_quiet (fail)
            go_wp2_with fail
            go_roundw
            case measure => simp [intOf]; omega
            case rel =>
              refine ⟨q + 1, by omega, by go_num, mkHid (below_drewN HBA.out _), mkHid fun j u v hj hu hv => ?_⟩
              by_cases e : j < q
              · exact HA.out j u v e hu hv
              · obtain rfl : j = q := by omega
                rw [HX.out] at hu
                rw [HY.out] at hv
                rw [hu] at hv
                injection hv
          · have gb1 : (x1 != x1) = false := by simp
            have gb2 : (x2 != y2) = true := by rw [bne_iff_ne]; exact g2
            have HV := mkHid (show decide (xs = ys) = false from decide_eq_false fun e => g2 (by
              have h1 := HX.out
              rw [e, HY.out] at h1
              injection h1 with h1
              injection h1 with _ h1
              exact h1.symm))
            clear g2
            go_wp2_with fail
            go_quiet (fail)
            go_wp2_with fail
            go_ret
            exact ⟨ret_bool HV.out.symm, below_drewN HBA.out _⟩
        · have gb1 : (x1 != y1) = true := by rw [bne_iff_ne]; exact g1
          have HV := mkHid (show decide (xs = ys) = false from decide_eq_false fun e => g1 (by
            have h1 := HX.out
            rw [e, HY.out] at h1
            injection h1 with h1
            injection h1 with h1 _
            exact h1.symm))
          clear g1
          go_wp2_with fail
          go_quiet (fail)
          go_wp2_with fail
          go_ret
          exact ⟨ret_bool HV.out.symm, below_drewN HBA.out _⟩
      · obtain rfl : q = n := by omega
        have HV := mkHid (show decide (xs = ys) = true from decide_eq_true (ext_take (by rw [HL.out, HL'.out]) fun j x y hx hy => HA.out j x y (by have := (List.getElem?_eq_some_iff.1 hx).1; have := HL.out; omega) hx hy))
        go_wp2_with fail
        go_ret
        exact ⟨ret_bool HV.out.symm, HB.out⟩
  · have g : ((n : Int) != (n' : Int)) = true := by simp; omega
    have HV := mkHid (show decide (xs = ys) = false from decide_eq_false fun e => hne (by rw [← HL.out, ← HL'.out, e]))
    clear hne
    go_enter Try.func22, Try.ntmps22
    go_wp2_with fail
    go_ret
    exact ⟨ret_bool HV.out.symm, by first | exact HAL.out | (rw [hW]; exact HAL.out)⟩

set_option maxRecDepth 20000 in
set_option maxHeartbeats 1000000 in
theorem awake_any (w : World) : Calls Try.prog 11 #[] w fun e w' => e = .returned (.bool true) ∧ Below w.heap.size w w' := by
  have HA := mkHid (add_any none 0 0 [] 10 w ES.nil ⟨by omega, by unfold maxLen; omega, by omega⟩ (by unfold I64; omega))
  rw [show addOf [] 10 = (0, [(1, 10)]) from rfl, show addAt [] 10 = 0 from rfl] at HA
  go_enter Try.func11, Try.ntmps11
  go_wp2_with fail
  refine HA.out.mono ?_
  rintro e w1 ⟨A, C, rfl, hes, hcap, hb1⟩
  simp only [List.length_singleton] at hes hcap ⊢
  rw [errV_no]
  obtain ⟨b, o, x, rfl, hb, hx, _, h0, h1⟩ := hes.at_ (j := 0) (by omega)
  injection hx with hx
  subst hx
  have hal : Below w1.heap.size w1 (w1.alloc (.cells #[.slice (some ⟨b, o, none⟩) 1 C] 27)) := (Below.refl _ _).alloc (Nat.le_refl _) _
  have HR := mkHid (room_any (some ⟨b, o, none⟩) 1 C [(1, 10)] _ (hes.next hal) hcap)
  rw [show roomOf [(1, 10)] = 8 from rfl] at HR
  have d0 := (hal.cell (p := ⟨b, o + 0 * 2, none⟩) hb).trans h0
  simp at d0
  obtain ⟨hcap1, hcap2, hcap3⟩ := hcap
  have HB1 := mkHid (hb1.alloc hb1.size (.cells #[.slice (some ⟨b, o, none⟩) 1 C] 27))
  clear hes h0 h1 hal HA hb1 
  go_wp2_with fail
  refine HR.out.mono ?_
  rintro e w2 ⟨rfl, hb2⟩
  go_wp2_with fail
  go_ret
  exact ⟨rfl, HB1.out.trans (hb2.mono HB1.out.size)⟩

theorem el_ren : ElemOk Try.prog 22 38 2 16 := .mk' Try.underlying22 (z := .agg #[.int .i64 0, .int .i64 0]) (by kernel_rfl) rfl (by decide)
/-- A new slice of the document's entries is answered; what was there is as it was. -/
def RetD (w : World) (xs : List (Int × Int)) (e : Ending) (w' : World) : Prop :=
  ∃ A c, e = .returned (.slice A xs.length c) ∧ w'.ownsRow w.heap.size 38 2 (.slice A xs.length c) xs.length (xs.flatMap enC) ∧ Below w.heap.size w w'
set_option maxRecDepth 20000 in
theorem copied_any (a : Option Addr) (n c : Nat) (xs : List (Int × Int)) (w : World) (hs : ES w w.heap.size a n xs) (hn : n ≤ 1000000) :
    Calls Try.prog 48 #[.slice a n c] w (RetD w xs) := by
  obtain rfl := hs.len
  go_enter Try.func48, Try.ntmps48
  go_wp2_with (at_builtin; refine wpList_app0 _ rfl (.tmp 4) (.tmp 5) _ rfl w.heap.size el_ren rfl w.heap.size a xs.length c _ rfl hs.1 (enC_one _) (by unfold maxLen; omega) (by omega) (Nat.le_refl _) ?_; intro A' c' w1 hown hg hat)
  go_ret
  exact ⟨A', c', rfl, hown, (Below.refl _ _).grown hg (Nat.le_refl _) (fun k hk => by cases hk)⟩
/-- How many have this state. -/
def countOf (xs : List (Int × Int)) (s : Int) : Int := ((xs.filter fun x => x.1 == s).length : Nat)
theorem count_succ {xs : List (Int × Int)} {q : Nat} {x : Int × Int} (hx : xs[q]? = some x) (s : Int) : countOf (xs.take (q + 1)) s = countOf (xs.take q) s + if x.1 == s then 1 else 0 := by
  obtain ⟨hl, he⟩ := List.getElem?_eq_some_iff.1 hx
  unfold countOf
  rw [List.take_succ_eq_append_getElem hl, List.filter_append, he]
  cases h : x.1 == s <;> simp [h]
theorem count_le (xs : List (Int × Int)) (s : Int) : 0 ≤ countOf xs s ∧ countOf xs s ≤ xs.length := by
  unfold countOf
  have := List.length_filter_le (fun x : Int × Int => x.1 == s) xs
  omega
set_option maxRecDepth 20000 in
set_option maxHeartbeats 1000000 in
theorem count_any (a : Option Addr) (n c : Nat) (xs : List (Int × Int)) (s : Int) (w : World) (hs : ES w w.heap.size a n xs) (hc : CapOk n c) :
    Calls Try.prog 33 #[.slice a n c, .int .i64 s] w fun e w' => e = .returned (.int .i64 (countOf xs s)) ∧ w = w' := by
  have HS := mkHid hs
  have HL := mkHid hs.len
  obtain ⟨hc1, hc2, hc3⟩ := hc
  clear hs
  go_enter Try.func33, Try.ntmps33
  go_wp2_with fail
  go_loop [5, 6] (fun v i => ∃ q : Nat, q ≤ n ∧ i = .int .i64 q ∧ v = .int .i64 (countOf (xs.take q) s)) (fun _ i => n - (intOf i).toNat)
  case atStart => exact ⟨0, Nat.zero_le _, rfl, rfl⟩
  case round =>
    obtain ⟨q, hq, rfl, rfl⟩ := hrel
    have hcl := count_le (xs.take q) s
    have htl : (xs.take q).length ≤ q := List.length_take_le _ _
    obtain ⟨hcl0, hcl1⟩ := hcl
    have hcl2 : countOf (xs.take q) s ≤ q := by omega
    clear hcl1 htl
    by_cases hlt : q < n
    · obtain ⟨b, o, x, rfl, hb, hx, _, h0, h1⟩ := HS.out.at_ hlt
      have HC := mkHid (count_succ hx s)
      clear hx h1
      generalize countOf (xs.take q) s = T at *
      cases hxs : x.1 == s with
      | true =>
        rw [hxs] at HC
        go_wp2_with fail
        go_round
        case measure => simp [intOf]; omega
        case rel => exact ⟨q + 1, by omega, by go_num, by rw [HC.out]; rfl⟩
      | false =>
        rw [hxs] at HC
        go_wp2_with fail
        go_round
        case measure => simp [intOf]; omega
        case rel => exact ⟨q + 1, by omega, by go_num, by rw [HC.out]; simp⟩
    · obtain rfl : q = n := by omega
      have HT := mkHid (show countOf (xs.take q) s = countOf xs s by rw [List.take_of_length_le (by rw [HL.out]; exact Nat.le_refl _)])
      go_wp2_with fail
      go_ret
      exact ⟨by rw [HT.out]; rfl, rfl⟩

end Go.Proofs.Ytlpgeocoddehgaa
