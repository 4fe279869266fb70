/- locks.Span.Clash by contract. -/
import Derived.Test.YtgabjgmimebelaaSpan
namespace Go.Proofs.Ytgabjgmimebelaa
open Go.RowKit

def clashOf (a b : Sp) : Bool :=
  if rightOf a = false ∨ rightOf b = false ∨ (a.wr = false ∧ b.wr = false) then false else if a.vol = 0 ∨ b.vol = 0 then true else if a.vol ≠ b.vol then false
  else if wholeOf a = true ∨ wholeOf b = true then true else if a.frm ≤ b.frm then decide (b.frm - a.frm < a.len) else decide (a.frm - b.frm < b.len)

theorem facts4 {w : World} {g : Nat} {v0 v1 v2 v3 : Value} {t : TypeId} (h : w.heap[g]? = some (.cells #[v0, v1, v2, v3] t (0, 0))) :
    w.cell? ⟨g, 0, none⟩ = some v0 ∧ w.cell? ⟨g, 1, none⟩ = some v1 ∧ w.cell? ⟨g, 2, none⟩ = some v2 ∧ w.cell? ⟨g, 3, none⟩ = some v3 :=
  ⟨cell_of_row w g 0 _ _ _ h, cell_of_row w g 1 _ _ _ h, cell_of_row w g 2 _ _ _ h, cell_of_row w g 3 _ _ _ h⟩

set_option maxRecDepth 20000 in
set_option maxHeartbeats 4000000 in
theorem clash_any (x y : Sp) (w : World) (hx : SpOk x) (hy : SpOk y) : Calls Try.prog 9 #[spV x, spV y] w fun e w' => e = .returned (.bool (clashOf x y)) ∧ Below w.heap.size w w' := by
  have HX := mkHid hx
  have HY := mkHid hy
  obtain ⟨v, f, n, b⟩ := x
  obtain ⟨v', f', n', b'⟩ := y
  obtain ⟨⟨v0, v1⟩, ⟨f0, f1⟩, ⟨n0, n1⟩⟩ := hx
  obtain ⟨⟨v0', v1'⟩, ⟨f0', f1'⟩, ⟨n0', n1'⟩⟩ := hy
  simp only at v0 v1 f0 f1 n0 n1 v0' v1' f0' f1' n0' n1'
  unfold spV
  simp only
  go_enter Try.func9, Try.ntmps9
  go_wp2_with fail
  refine (right_any ⟨v, f, n, b⟩ _ HX.out).mono ?_
  rintro e w1 ⟨rfl, hb1⟩
  have HB1 := mkHid ((((Below.refl w.heap.size w).alloc (Nat.le_refl _) (.cells #[.int .i64 v, .int .i64 f, .int .i64 n, .bool b] 24)).alloc (by simp) (.cells #[.int .i64 v', .int .i64 f', .int .i64 n', .bool b'] 24)).trans (hb1.mono (by simp; omega)))
  have h0 : w1.heap[w.heap.size]? = some (.cells #[.int .i64 v, .int .i64 f, .int .i64 n, .bool b] 24 (0, 0)) := (hb1.block _ (by simp; omega)).trans ((Below.heap_alloc _ _ _ (by simp)).trans (heap_alloc_new w _))
  have h1 : w1.heap[w.heap.size + 1]? = some (.cells #[.int .i64 v', .int .i64 f', .int .i64 n', .bool b'] 24 (0, 0)) := (hb1.block _ (by simp)).trans (by have := heap_alloc_new (w.alloc (.cells #[.int .i64 v, .int .i64 f, .int .i64 n, .bool b] 24)) (.cells #[.int .i64 v', .int .i64 f', .int .i64 n', .bool b'] 24); simpa using this)
  clear hb1
  cases hra : rightOf ⟨v, f, n, b⟩ with
  | false =>
    go_wp2_with fail
    go_ret
    exact ⟨ret_bool (by simp [clashOf, hra]), HB1.out⟩
  | true =>
    obtain ⟨c00, c01, c02, c03⟩ := facts4 h0
    obtain ⟨c10, c11, c12, c13⟩ := facts4 h1
    have hlt1 : w.heap.size + 1 < w1.heap.size := (Array.getElem?_eq_some_iff.1 h1).1
    have hRA := of_decide_eq_true hra
    simp only at hRA
    have HRA := mkHid hra
    clear hra
    go_wp2_with fail
    refine (right_any ⟨v', f', n', b'⟩ _ HY.out).mono ?_
    rintro e w2 ⟨rfl, hb2⟩
    have HB2 := mkHid (HB1.out.trans (hb2.mono (by omega)))
    have g0 := (hb2.block _ (by omega)).trans h0
    have g1 := (hb2.block _ (by omega)).trans h1
    clear c00 c01 c02 c03 c10 c11 c12 c13 h0 h1 hb2
    obtain ⟨c00, c01, c02, c03⟩ := facts4 g0
    obtain ⟨c10, c11, c12, c13⟩ := facts4 g1
    have hlt2 : w.heap.size + 1 < w2.heap.size := (Array.getElem?_eq_some_iff.1 g1).1
    cases hrb : rightOf ⟨v', f', n', b'⟩ with
    | false =>
      go_wp2_with fail
      go_ret
      exact ⟨ret_bool (by simp [clashOf, hrb]), HB2.out⟩
    | true =>
      have hRB := of_decide_eq_true hrb
      simp only at hRB
      have HRB := mkHid hrb
      clear hrb
      obtain ⟨ra0, ra1, ra2, ra3⟩ := hRA
      obtain ⟨rb0, rb1, rb2, rb3⟩ := hRB
      cases b with
      | true =>
        by_cases hv : v = 0
        · subst hv
          go_wp2_with fail
          go_ret
          exact ⟨ret_bool (by simp [clashOf, HRA.out, HRB.out]), HB2.out⟩
        have hvb : (v == 0) = false := by simpa using hv
        by_cases hv' : v' = 0
        · subst hv'
          go_wp2_with fail
          go_ret
          exact ⟨ret_bool (by simp [clashOf, HRA.out, HRB.out]), HB2.out⟩
        have hvb' : (v' == 0) = false := by simpa using hv'
        by_cases hvv : v = v'
        case neg =>
          have hvvb : (v != v') = true := by simpa using hvv
          go_wp2_with fail
          go_ret
          exact ⟨ret_bool (by simp [clashOf, HRA.out, HRB.out, hv, hv', hvv]), HB2.out⟩
        subst hvv
        have hvvb : (v != v) = false := by simp
        go_wp2_with fail
        refine (whole_any ⟨v, f, n, _⟩ _ HX.out).mono ?_
        rintro e w3 ⟨rfl, hb3⟩
        have HB3 := mkHid (HB2.out.trans (hb3.mono (by omega)))
        have k0 := (hb3.block _ (by omega)).trans g0
        have k1 := (hb3.block _ (by omega)).trans g1
        clear c00 c01 c02 c03 c10 c11 c12 c13 hb3 g0 g1
        obtain ⟨c00, c01, c02, c03⟩ := facts4 k0
        obtain ⟨c10, c11, c12, c13⟩ := facts4 k1
        have hlt3 : w.heap.size + 1 < w3.heap.size := (Array.getElem?_eq_some_iff.1 k1).1
        generalize hwa : wholeOf ⟨v, f, n, _⟩ = wa
        cases wa with
        | true =>
          go_wp2_with fail
          go_ret
          exact ⟨ret_bool (by simp [clashOf, HRA.out, HRB.out, hv, hwa]), HB3.out⟩
        | false =>
          have HWA := mkHid hwa
          clear hwa
          go_wp2_with fail
          refine (whole_any ⟨v, f', n', _⟩ _ HY.out).mono ?_
          rintro e w4 ⟨rfl, hb4⟩
          have HB4 := mkHid (HB3.out.trans (hb4.mono (by omega)))
          have l0 := (hb4.block _ (by omega)).trans k0
          have l1 := (hb4.block _ (by omega)).trans k1
          clear c00 c01 c02 c03 c10 c11 c12 c13 hb4 k0 k1
          obtain ⟨c00, c01, c02, c03⟩ := facts4 l0
          obtain ⟨c10, c11, c12, c13⟩ := facts4 l1
          generalize hwb : wholeOf ⟨v, f', n', _⟩ = wb
          cases wb with
          | true =>
            go_wp2_with fail
            go_ret
            exact ⟨ret_bool (by simp [clashOf, HRA.out, HRB.out, hv, hwb]), HB4.out⟩
          | false =>
            have HWB := mkHid hwb
            clear hwb
            by_cases hff : f ≤ f'
            · go_wp2_with fail
              go_ret
              exact ⟨ret_bool (by simp [clashOf, HRA.out, HRB.out, hv, HWA.out, HWB.out, hff]), HB4.out⟩
            · go_wp2_with fail
              go_ret
              exact ⟨ret_bool (by simp [clashOf, HRA.out, HRB.out, hv, HWA.out, HWB.out]; intro h; omega), HB4.out⟩
      | false =>
        cases b' with
        | false =>
          go_wp2_with fail
          go_ret
          exact ⟨ret_bool (by simp [clashOf]), HB2.out⟩
        | true =>
          by_cases hv : v = 0
          · subst hv
            go_wp2_with fail
            go_ret
            exact ⟨ret_bool (by simp [clashOf, HRA.out, HRB.out]), HB2.out⟩
          have hvb : (v == 0) = false := by simpa using hv
          by_cases hv' : v' = 0
          · subst hv'
            go_wp2_with fail
            go_ret
            exact ⟨ret_bool (by simp [clashOf, HRA.out, HRB.out]), HB2.out⟩
          have hvb' : (v' == 0) = false := by simpa using hv'
          by_cases hvv : v = v'
          case neg =>
            have hvvb : (v != v') = true := by simpa using hvv
            go_wp2_with fail
            go_ret
            exact ⟨ret_bool (by simp [clashOf, HRA.out, HRB.out, hv, hv', hvv]), HB2.out⟩
          subst hvv
          have hvvb : (v != v) = false := by simp
          go_wp2_with fail
          refine (whole_any ⟨v, f, n, _⟩ _ HX.out).mono ?_
          rintro e w3 ⟨rfl, hb3⟩
          have HB3 := mkHid (HB2.out.trans (hb3.mono (by omega)))
          have k0 := (hb3.block _ (by omega)).trans g0
          have k1 := (hb3.block _ (by omega)).trans g1
          clear c00 c01 c02 c03 c10 c11 c12 c13 hb3 g0 g1
          obtain ⟨c00, c01, c02, c03⟩ := facts4 k0
          obtain ⟨c10, c11, c12, c13⟩ := facts4 k1
          have hlt3 : w.heap.size + 1 < w3.heap.size := (Array.getElem?_eq_some_iff.1 k1).1
          generalize hwa : wholeOf ⟨v, f, n, _⟩ = wa
          cases wa with
          | true =>
            go_wp2_with fail
            go_ret
            exact ⟨ret_bool (by simp [clashOf, HRA.out, HRB.out, hv, hwa]), HB3.out⟩
          | false =>
            have HWA := mkHid hwa
            clear hwa
            go_wp2_with fail
            refine (whole_any ⟨v, f', n', _⟩ _ HY.out).mono ?_
            rintro e w4 ⟨rfl, hb4⟩
            have HB4 := mkHid (HB3.out.trans (hb4.mono (by omega)))
            have l0 := (hb4.block _ (by omega)).trans k0
            have l1 := (hb4.block _ (by omega)).trans k1
            clear c00 c01 c02 c03 c10 c11 c12 c13 hb4 k0 k1
            obtain ⟨c00, c01, c02, c03⟩ := facts4 l0
            obtain ⟨c10, c11, c12, c13⟩ := facts4 l1
            generalize hwb : wholeOf ⟨v, f', n', _⟩ = wb
            cases wb with
            | true =>
              go_wp2_with fail
              go_ret
              exact ⟨ret_bool (by simp [clashOf, HRA.out, HRB.out, hv, hwb]), HB4.out⟩
            | false =>
              have HWB := mkHid hwb
              clear hwb
              by_cases hff : f ≤ f'
              · go_wp2_with fail
                go_ret
                exact ⟨ret_bool (by simp [clashOf, HRA.out, HRB.out, hv, HWA.out, HWB.out, hff]), HB4.out⟩
              · go_wp2_with fail
                go_ret
                exact ⟨ret_bool (by simp [clashOf, HRA.out, HRB.out, hv, HWA.out, HWB.out]; intro h; omega), HB4.out⟩


end Go.Proofs.Ytgabjgmimebelaa
