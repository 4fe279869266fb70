/- portageref15.Has and portageref15.Clash by contract; Clash tells what locks.Span.Clash tells. -/
import Derived.Test.YtgabjgmimebelaaClash
namespace Go.Proofs.Ytgabjgmimebelaa
open Go.RowKit

def hasOf (s : Sp) (vol blk : Int) : Bool := if s.vol = 0 then true else decide (s.vol = vol) && (decide (s.len = 0) || (decide (s.frm ≤ blk) && decide (blk - s.frm < s.len)))

set_option maxRecDepth 20000 in
set_option maxHeartbeats 1000000 in
theorem has_any (x : Sp) (vol blk : Int) (w : World) (hx : SpOk x) (hf : 0 ≤ x.frm) (hv : I64 vol) (hb0 : 0 ≤ blk) (hb1 : blk ≤ 9223372036854775807) : Calls Try.prog 31 #[spV x, .int .i64 vol, .int .i64 blk] w fun e w' => e = .returned (.bool (hasOf x vol blk)) ∧ Below w.heap.size w w' := by
  obtain ⟨v, f, n, b⟩ := x
  obtain ⟨⟨v0, v1⟩, ⟨f0, f1⟩, ⟨n0, n1⟩⟩ := hx
  obtain ⟨u0, u1⟩ := hv
  simp only at v0 v1 f0 f1 n0 n1 hf
  unfold spV
  simp only
  by_cases hv : v = 0
  · subst hv
    go_enter Try.func31, Try.ntmps31
    go_wp2_with fail
    go_ret
    exact ⟨ret_bool (by simp [hasOf]), (Below.refl _ _).alloc (Nat.le_refl _) _⟩
  have hvb : (v == 0) = false := by simpa using hv
  by_cases hvv : v = vol
  case neg =>
    have hvvb : (v == vol) = false := by simpa using hvv
    go_enter Try.func31, Try.ntmps31
    go_wp2_with fail
    go_ret
    exact ⟨ret_bool (by simp [hasOf, hv, hvv]), (Below.refl _ _).alloc (Nat.le_refl _) _⟩
  subst hvv
  have hvvb : (v == v) = true := by simp
  by_cases hn : n = 0
  · subst hn
    go_enter Try.func31, Try.ntmps31
    go_wp2_with fail
    go_ret
    exact ⟨ret_bool (by simp [hasOf]), (Below.refl _ _).alloc (Nat.le_refl _) _⟩
  have hnb : (n == 0) = false := by simpa using hn
  by_cases hfb : f ≤ blk
  · go_enter Try.func31, Try.ntmps31
    go_wp2_with fail
    go_ret
    exact ⟨ret_bool (by simp [hasOf, hv, hn, hfb]), (Below.refl _ _).alloc (Nat.le_refl _) _⟩
  · go_enter Try.func31, Try.ntmps31
    go_wp2_with fail
    go_ret
    exact ⟨ret_bool (by simp [hasOf, hv, hn]; intro h; omega), (Below.refl _ _).alloc (Nat.le_refl _) _⟩

def rclashOf (a b : Sp) : Bool :=
  if rightOf a = false ∨ rightOf b = false ∨ (a.wr = false ∧ b.wr = false) then false else if a.vol = 0 ∨ b.vol = 0 then true
  else hasOf a b.vol b.frm || hasOf b a.vol a.frm || (decide (a.vol = b.vol) && (decide (a.len = 0) || decide (b.len = 0)))

theorem clash_eq (a b : Sp) : rclashOf a b = clashOf a b := by
  unfold rclashOf clashOf
  split
  · rfl
  · rename_i h1
    split
    · rfl
    · rename_i h2
      have ha : rightOf a = true := by cases h : rightOf a; exact absurd (.inl h) h1; rfl
      have hb : rightOf b = true := by cases h : rightOf b; exact absurd (.inr (.inl h)) h1; rfl
      have ha := of_decide_eq_true ha
      have hb := of_decide_eq_true hb
      obtain ⟨v, f, n, c⟩ := a
      obtain ⟨v', f', n', c'⟩ := b
      simp only at h2 ha hb
      unfold hasOf wholeOf
      simp only
      rw [if_neg (by omega), if_neg (by omega)]
      by_cases hvv : v = v'
      · subst hvv
        have hv : ¬ v = 0 := by omega
        by_cases hn : n = 0
        · simp [hn]
        · by_cases hn' : n' = 0
          · simp [hn']
          · by_cases hff : f ≤ f'
            · by_cases hfe : f' ≤ f
              · have : f = f' := by omega
                subst this
                have : 0 < n := by omega
                simp [hv, hn, hn', this]
              · simp [hv, hn, hn', hff, hfe]
            · have hfe : f' ≤ f := by omega
              simp [hv, hn, hn', hff, hfe]
      · have hvv' : ¬ v' = v := fun h => hvv h.symm
        simp [hvv, hvv']

set_option maxRecDepth 20000 in
set_option maxHeartbeats 4000000 in
theorem rclash_any (x y : Sp) (w : World) (hx : SpOk x) (hy : SpOk y) : Calls Try.prog 10 #[spV x, spV y] w fun e w' => e = .returned (.bool (clashOf x y)) ∧ Below w.heap.size w w' := by
  rw [← clash_eq]
  have HX := mkHid hx
  have HY := mkHid hy
  obtain ⟨v, f, n, b⟩ := x
  obtain ⟨v', f', n', b'⟩ := y
  obtain ⟨⟨v0, v1⟩, ⟨f0, f1⟩, ⟨n0, n1⟩⟩ := hx
  obtain ⟨⟨v0', v1'⟩, ⟨f0', f1'⟩, ⟨n0', n1'⟩⟩ := hy
  simp only at v0 v1 f0 f1 n0 n1 v0' v1' f0' f1' n0' n1'
  unfold spV
  simp only
  go_enter Try.func10, Try.ntmps10
  go_wp2_with fail
  refine (rright_any ⟨v, f, n, b⟩ _ HX.out).mono ?_
  rintro e w1 ⟨rfl, hb1⟩
  have HB1 := mkHid ((((Below.refl w.heap.size w).alloc (Nat.le_refl _) (.cells #[.int .i64 v, .int .i64 f, .int .i64 n, .bool b] 23)).alloc (by simp) (.cells #[.int .i64 v', .int .i64 f', .int .i64 n', .bool b'] 23)).trans (hb1.mono (by simp; omega)))
  have h0 : w1.heap[w.heap.size]? = some (.cells #[.int .i64 v, .int .i64 f, .int .i64 n, .bool b] 23 (0, 0)) := (hb1.block _ (by simp; omega)).trans ((Below.heap_alloc _ _ _ (by simp)).trans (heap_alloc_new w _))
  have h1 : w1.heap[w.heap.size + 1]? = some (.cells #[.int .i64 v', .int .i64 f', .int .i64 n', .bool b'] 23 (0, 0)) := (hb1.block _ (by simp)).trans (by have := heap_alloc_new (w.alloc (.cells #[.int .i64 v, .int .i64 f, .int .i64 n, .bool b] 23)) (.cells #[.int .i64 v', .int .i64 f', .int .i64 n', .bool b'] 23); simpa using this)
  clear hb1
  cases hra : rightOf ⟨v, f, n, b⟩ with
  | false =>
    go_wp2_with fail
    go_ret
    exact ⟨ret_bool (by simp [rclashOf, hra]), HB1.out⟩
  | true =>
    obtain ⟨c00, c01, c02, c03⟩ := facts4 h0
    obtain ⟨c10, c11, c12, c13⟩ := facts4 h1
    have hlt1 : w.heap.size + 1 < w1.heap.size := (Array.getElem?_eq_some_iff.1 h1).1
    have hRA := of_decide_eq_true hra
    simp only at hRA
    have HRA := mkHid hra
    clear hra
    go_wp2_with fail
    refine (rright_any ⟨v', f', n', b'⟩ _ HY.out).mono ?_
    rintro e w2 ⟨rfl, hb2⟩
    have HB2 := mkHid (HB1.out.trans (hb2.mono (by omega)))
    have g0 := (hb2.block _ (by omega)).trans h0
    have g1 := (hb2.block _ (by omega)).trans h1
    clear c00 c01 c02 c03 c10 c11 c12 c13 h0 h1 hb2
    obtain ⟨c00, c01, c02, c03⟩ := facts4 g0
    obtain ⟨c10, c11, c12, c13⟩ := facts4 g1
    have hlt2 : w.heap.size + 1 < w2.heap.size := (Array.getElem?_eq_some_iff.1 g1).1
    cases hrb : rightOf ⟨v', f', n', b'⟩ with
    | false =>
      go_wp2_with fail
      go_ret
      exact ⟨ret_bool (by simp [rclashOf, hrb]), HB2.out⟩
    | true =>
      have hRB := of_decide_eq_true hrb
      simp only at hRB
      have HRB := mkHid hrb
      clear hrb
      obtain ⟨ra0, ra1, ra2, ra3⟩ := hRA
      obtain ⟨rb0, rb1, rb2, rb3⟩ := hRB
      cases b with
      | true =>
        by_cases hv : v = 0
        · subst hv
          go_wp2_with fail
          go_ret
          exact ⟨ret_bool (by simp [rclashOf, HRA.out, HRB.out]), HB2.out⟩
        have hvb : (v == 0) = false := by simpa using hv
        by_cases hv' : v' = 0
        · subst hv'
          go_wp2_with fail
          go_ret
          exact ⟨ret_bool (by simp [rclashOf, HRA.out, HRB.out]), HB2.out⟩
        have hvb' : (v' == 0) = false := by simpa using hv'
        go_wp2_with fail
        refine (has_any ⟨v, f, n, _⟩ v' f' _ HX.out ra1 ⟨v0', v1'⟩ rb1 f1').mono ?_
        rintro e w3 ⟨rfl, hb3⟩
        have HB3 := mkHid (HB2.out.trans (hb3.mono (by omega)))
        have k0 := (hb3.block _ (by omega)).trans g0
        have k1 := (hb3.block _ (by omega)).trans g1
        clear c00 c01 c02 c03 c10 c11 c12 c13 hb3 g0 g1
        obtain ⟨c00, c01, c02, c03⟩ := facts4 k0
        obtain ⟨c10, c11, c12, c13⟩ := facts4 k1
        have hlt3 : w.heap.size + 1 < w3.heap.size := (Array.getElem?_eq_some_iff.1 k1).1
        generalize hwa : hasOf ⟨v, f, n, _⟩ v' f' = wa
        cases wa with
        | true =>
          go_wp2_with fail
          go_ret
          exact ⟨ret_bool (by simp [rclashOf, HRA.out, HRB.out, hv, hv', hwa]), HB3.out⟩
        | false =>
          have HWA := mkHid hwa
          clear hwa
          go_wp2_with fail
          refine (has_any ⟨v', f', n', _⟩ v f _ HY.out rb1 ⟨v0, v1⟩ ra1 f1).mono ?_
          rintro e w4 ⟨rfl, hb4⟩
          have HB4 := mkHid (HB3.out.trans (hb4.mono (by omega)))
          have l0 := (hb4.block _ (by omega)).trans k0
          have l1 := (hb4.block _ (by omega)).trans k1
          clear c00 c01 c02 c03 c10 c11 c12 c13 hb4 k0 k1
          obtain ⟨c00, c01, c02, c03⟩ := facts4 l0
          obtain ⟨c10, c11, c12, c13⟩ := facts4 l1
          generalize hwb : hasOf ⟨v', f', n', _⟩ v f = wb
          cases wb with
          | true =>
            go_wp2_with fail
            go_ret
            exact ⟨ret_bool (by simp [rclashOf, HRA.out, HRB.out, hv, hv', HWA.out, hwb]), HB4.out⟩
          | false =>
            have HWB := mkHid hwb
            clear hwb
            by_cases hvv : v = v'
            · subst hvv
              have hvvb : (v == v) = true := by simp
              by_cases hn : n = 0
              · subst hn
                go_wp2_with fail
                go_ret
                exact ⟨ret_bool (by simp [rclashOf, HRA.out, HRB.out, hv, HWA.out, HWB.out]), HB4.out⟩
              · have hnb : (n == 0) = false := by simpa using hn
                go_wp2_with fail
                go_ret
                exact ⟨ret_bool (by simp [rclashOf, HRA.out, HRB.out, hv, HWA.out, HWB.out, hn]; rfl), HB4.out⟩
            · have hvvb : (v == v') = false := by simpa using hvv
              go_wp2_with fail
              go_ret
              exact ⟨ret_bool (by simp [rclashOf, HRA.out, HRB.out, hv, hv', HWA.out, HWB.out, hvv]), HB4.out⟩
      | false =>
        cases b' with
        | false =>
          go_wp2_with fail
          go_ret
          exact ⟨ret_bool (by simp [rclashOf]), HB2.out⟩
        | true =>
          by_cases hv : v = 0
          · subst hv
            go_wp2_with fail
            go_ret
            exact ⟨ret_bool (by simp [rclashOf, HRA.out, HRB.out]), HB2.out⟩
          have hvb : (v == 0) = false := by simpa using hv
          by_cases hv' : v' = 0
          · subst hv'
            go_wp2_with fail
            go_ret
            exact ⟨ret_bool (by simp [rclashOf, HRA.out, HRB.out]), HB2.out⟩
          have hvb' : (v' == 0) = false := by simpa using hv'
          go_wp2_with fail
          refine (has_any ⟨v, f, n, _⟩ v' f' _ HX.out ra1 ⟨v0', v1'⟩ rb1 f1').mono ?_
          rintro e w3 ⟨rfl, hb3⟩
          have HB3 := mkHid (HB2.out.trans (hb3.mono (by omega)))
          have k0 := (hb3.block _ (by omega)).trans g0
          have k1 := (hb3.block _ (by omega)).trans g1
          clear c00 c01 c02 c03 c10 c11 c12 c13 hb3 g0 g1
          obtain ⟨c00, c01, c02, c03⟩ := facts4 k0
          obtain ⟨c10, c11, c12, c13⟩ := facts4 k1
          have hlt3 : w.heap.size + 1 < w3.heap.size := (Array.getElem?_eq_some_iff.1 k1).1
          generalize hwa : hasOf ⟨v, f, n, _⟩ v' f' = wa
          cases wa with
          | true =>
            go_wp2_with fail
            go_ret
            exact ⟨ret_bool (by simp [rclashOf, HRA.out, HRB.out, hv, hv', hwa]), HB3.out⟩
          | false =>
            have HWA := mkHid hwa
            clear hwa
            go_wp2_with fail
            refine (has_any ⟨v', f', n', _⟩ v f _ HY.out rb1 ⟨v0, v1⟩ ra1 f1).mono ?_
            rintro e w4 ⟨rfl, hb4⟩
            have HB4 := mkHid (HB3.out.trans (hb4.mono (by omega)))
            have l0 := (hb4.block _ (by omega)).trans k0
            have l1 := (hb4.block _ (by omega)).trans k1
            clear c00 c01 c02 c03 c10 c11 c12 c13 hb4 k0 k1
            obtain ⟨c00, c01, c02, c03⟩ := facts4 l0
            obtain ⟨c10, c11, c12, c13⟩ := facts4 l1
            generalize hwb : hasOf ⟨v', f', n', _⟩ v f = wb
            cases wb with
            | true =>
              go_wp2_with fail
              go_ret
              exact ⟨ret_bool (by simp [rclashOf, HRA.out, HRB.out, hv, hv', HWA.out, hwb]), HB4.out⟩
            | false =>
              have HWB := mkHid hwb
              clear hwb
              by_cases hvv : v = v'
              · subst hvv
                have hvvb : (v == v) = true := by simp
                by_cases hn : n = 0
                · subst hn
                  go_wp2_with fail
                  go_ret
                  exact ⟨ret_bool (by simp [rclashOf, HRA.out, HRB.out, hv, HWA.out, HWB.out]), HB4.out⟩
                · have hnb : (n == 0) = false := by simpa using hn
                  go_wp2_with fail
                  go_ret
                  exact ⟨ret_bool (by simp [rclashOf, HRA.out, HRB.out, hv, HWA.out, HWB.out, hn]; rfl), HB4.out⟩
              · have hvvb : (v == v') = false := by simpa using hvv
                go_wp2_with fail
                go_ret
                exact ⟨ret_bool (by simp [rclashOf, HRA.out, HRB.out, hv, hv', HWA.out, HWB.out, hvv]), HB4.out⟩


end Go.Proofs.Ytgabjgmimebelaa
