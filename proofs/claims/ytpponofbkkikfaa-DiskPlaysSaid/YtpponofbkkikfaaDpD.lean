/- portagelaw03.step by contract: Crash, Fill, all others; all of it. -/
import Derived.Test.YtpponofbkkikfaaDpC
namespace Go.Proofs.Ytpponofbkkikfaa
open Go.RowKit

set_option maxRecDepth 20000 in
set_option maxHeartbeats 4000000 in
theorem step_crash (F1 F2 : Nat → Prop) (g1 g2 q : Nat) (ss : List Sec) (xi xn : Int) (a1 : Option Addr) (m c1 : Nat) (a2 : Option Addr) (m' c2 : Nat) (xp : List Int) (w wp : World) (h : TD w wp F1 F2 g1 g2 q ss ss) (hx : IS w w.heap.size a2 m' xp) (hc : m' ≤ c2 ∧ c2 ≤ 9223372036854775807) (hm : m' ≤ 1000) :
    Calls Try.prog 26 #[.pointer (some ⟨g1, 0, none⟩), .pointer (some ⟨g2, 0, none⟩), .agg #[.int .i64 6, .int .i64 xi, .int .i64 xn, .slice a1 m c1, .slice a2 m' c2]] wp (Stepped F1 F2 wp w g1 g2 (q + 1)) := by
  have HX := mkHid hx
  obtain ⟨hc1, hc2⟩ := hc
  obtain ⟨W0, hW0⟩ : ∃ W0, wp.alloc (.cells #[.int .i64 6, .int .i64 xi, .int .i64 xn, .slice a1 m c1, .slice a2 m' c2] 32) = W0 := ⟨_, rfl⟩
  have HT0 := mkHid (show TE (fun b => F1 b ∨ F2 b) wp w W0 F1 F2 g1 g2 q ss ss by rw [← hW0]; exact (TE.of h).below ((Below.refl _ _).alloc (Nat.le_refl _) _))
  have hs0 : W0.heap.size = wp.heap.size + 1 := by rw [← hW0]; simp
  have hbl : W0.heap[wp.heap.size]? = some (.cells #[.int .i64 6, .int .i64 xi, .int .i64 xn, .slice a1 m c1, .slice a2 m' c2] 32 (0, 0)) := by rw [← hW0]; exact heap_alloc_new _ _
  have HF2 := mkHid h.b.lt
  have HPC := mkHid (show ∀ Z : World, Z.heap[wp.heap.size]? = W0.heap[wp.heap.size]? → Z.cell? ⟨wp.heap.size, 4, none⟩ = some (.slice a2 m' c2) from fun Z hZ => cell_of_row Z _ 4 _ _ _ (hZ.trans hbl))
  have y0 : W0.cell? ⟨wp.heap.size, 0, none⟩ = some (.int .i64 6) := cell_of_row W0 _ 0 _ _ _ hbl
  have y4 := HPC.out W0 rfl
  clear h hbl hx
  go_enter Try.func26, Try.ntmps26
  go_wp2_with fail
  clear hW0 y0
  have HX0 := mkHid ((HX.out.below HT0.out.bel).more HT0.out.bel.size)
  refine (rcrash_any F2 g2 ss a2 m' c2 xp W0 HT0.out.b HX0.out (fun h0 ad had hf => by
    obtain ⟨b, o, ha, hb, _⟩ := HX.out.at_ (j := 0) h0
    rw [had] at ha
    injection ha with ha
    subst ha
    have := HT0.out.lb _ hf
    simp only at this
    omega) ⟨hc1, hc2⟩).mono ?_
  rintro e w1 ⟨rfl, ht1, F3, hd1, hF1⟩
  have y4 := HPC.out w1 (ht1.block _ (by omega) (fun hf => by have := HF2.out _ hf; omega))
  have HT1 := mkHid (HT0.out.stepB ht1 hd1 hF1 (crashL_wait q _ _ _ HT0.out.wb) (Nat.le_refl _))
  have HX1 := mkHid ((HX.out.below HT1.out.bel).more HT1.out.bel.size)
  have hlt1 : wp.heap.size < w1.heap.size := by have := ht1.size; omega
  clear ht1 hd1 hF1
  go_wp2_with (at_builtin; refine wpList_app _ rfl (.tmp 101) (.tmp 103) _ rfl w1.heap.size el_int (some ⟨w1.heap.size, 0, none⟩) 0 0 [] rfl (World.ownsRow_made w1 #[] 0 (Nat.le_refl _) (Nat.zero_le _) rfl) w1.heap.size a2 m' c2 _ rfl (HX1.out.1.alloc (Nat.le_refl _) _) (i64_cells _) (by unfold maxLen; omega) (by omega) (by simp) ?_; intro A' c' w2 hown hg hat; have HG2 := mkHid hg; have HO2 := mkHid hown; clear hown hg hat)
  have HT2 := mkHid (HT1.out.below (((Below.refl _ _).alloc (Nat.le_refl _) _).grown HG2.out (by simp) (fun k hk => by simp [Value.ownBlock] at hk; omega)))
  have ho := HO2.out
  simp only [Nat.zero_add, List.nil_append] at ho ⊢
  have hcap := own_cap ho
  have hcm : c' ≤ 9223372036854775807 := by have := hcap.2; unfold maxLen at this; omega
  refine (crash_any F1 g1 ss A' m' c' xp w2 HT2.out.a ⟨SL.of_own ho, HX.out.2⟩ (fun ad had hf => by
    obtain ⟨A0, c0, hv, _, hA⟩ := own_form _ ho
    injection hv with hv _ _
    rcases hA with e | ⟨g, e, hg1, _⟩
    · rw [hv, e] at had; cases had
    · rw [hv, e] at had
      injection had with had
      rw [← had] at hf
      have := HT1.out.a.lt _ hf
      simp only at this
      omega) ⟨hcap.1, hcm⟩).mono ?_
  rintro e w3 ⟨rfl, ht3, hd3⟩
  have HT3 := mkHid (HT2.out.stepA ht3 hd3 (fun _ hb => .inl hb) (crashL_wait q _ _ _ HT0.out.wa) (Nat.le_refl _))
  clear ht3 hd3 ho hcap
  go_wp2_with fail
  go_ret
  exact ⟨rfl, F1, F3, _, HT3.out.more (Nat.le_succ q)⟩

set_option maxRecDepth 20000 in
set_option maxHeartbeats 4000000 in
theorem step_fill (F1 F2 : Nat → Prop) (g1 g2 q : Nat) (ss : List Sec) (xi xn : Int) (a1 : Option Addr) (m c1 : Nat) (xd : List Int) (a2 : Option Addr) (m' c2 : Nat) (w wp : World) (h : TD w wp F1 F2 g1 g2 q ss ss) (hx : BS w w.heap.size a1 m xd) (hm : m ≤ 1000) :
    Calls Try.prog 26 #[.pointer (some ⟨g1, 0, none⟩), .pointer (some ⟨g2, 0, none⟩), .agg #[.int .i64 7, .int .i64 xi, .int .i64 xn, .slice a1 m c1, .slice a2 m' c2]] wp (Stepped F1 F2 wp w g1 g2 (q + 1)) := by
  have HX := mkHid hx
  have hln : xd.length = m := hx.len
  obtain ⟨W0, hW0⟩ : ∃ W0, wp.alloc (.cells #[.int .i64 7, .int .i64 xi, .int .i64 xn, .slice a1 m c1, .slice a2 m' c2] 32) = W0 := ⟨_, rfl⟩
  have HT0 := mkHid (show TE (fun b => F1 b ∨ F2 b) wp w W0 F1 F2 g1 g2 q ss ss by rw [← hW0]; exact (TE.of h).below ((Below.refl _ _).alloc (Nat.le_refl _) _))
  have hs0 : W0.heap.size = wp.heap.size + 1 := by rw [← hW0]; simp
  have hbl : W0.heap[wp.heap.size]? = some (.cells #[.int .i64 7, .int .i64 xi, .int .i64 xn, .slice a1 m c1, .slice a2 m' c2] 32 (0, 0)) := by rw [← hW0]; exact heap_alloc_new _ _
  have HF2 := mkHid h.b.lt
  have HPC := mkHid (show ∀ Z : World, Z.heap[wp.heap.size]? = W0.heap[wp.heap.size]? → Z.cell? ⟨wp.heap.size, 3, none⟩ = some (.slice a1 m c1) from fun Z hZ => cell_of_row Z _ 3 _ _ _ (hZ.trans hbl))
  have y0 : W0.cell? ⟨wp.heap.size, 0, none⟩ = some (.int .i64 7) := cell_of_row W0 _ 0 _ _ _ hbl
  have y3 := HPC.out W0 rfl
  clear h hbl hx
  go_enter Try.func26, Try.ntmps26
  go_wp2_with fail
  clear hW0 y0
  have HX0 := mkHid ((HX.out.below HT0.out.bel).more HT0.out.bel.size)
  refine (rfill_any F2 g2 ss a1 m c1 xd W0 HT0.out.b HX0.out (fun h0 ad had hf => by
    obtain ⟨b, o, ha, hb, _⟩ := HX.out.at_ (j := 0) h0
    rw [had] at ha
    injection ha with ha
    subst ha
    have := HT0.out.lb _ hf
    simp only at this
    omega) (by omega)).mono ?_
  rintro e w1 ⟨rfl, ht1, F3, hd1, hF1⟩
  have y3 := HPC.out w1 (ht1.block _ (by omega) (fun hf => by have := HF2.out _ hf; omega))
  have HT1 := mkHid (HT0.out.stepB ht1 hd1 hF1 (filled_wait (q := q)) (Nat.le_refl _))
  have HX1 := mkHid ((HX.out.below HT1.out.bel).more HT1.out.bel.size)
  clear ht1 hd1 hF1
  go_wp2_with fail
  refine (copy_any a1 m c1 xd w1 HX1.out (by omega)).mono ?_
  rintro e w2 ⟨CB, cb, rfl, hco, hb2⟩
  rw [hln] at hco ⊢
  have HT2 := mkHid (HT1.out.below hb2)
  have HCO := mkHid hco
  have hcap := own_cap hco
  have hcm : cb ≤ 9223372036854775807 := by have := hcap.2; unfold maxLen at this; omega
  clear hb2 hco
  go_wp2_with fail
  refine (fill_any F1 g1 ss CB m cb xd w2 HT2.out.a ⟨SL.of_own HCO.out, HX.out.2⟩ (fun ad had hf => by
    obtain ⟨A0, c0, hv, _, hA⟩ := own_form _ HCO.out
    injection hv with hv _ _
    rcases hA with e | ⟨g, e, hg1, _⟩
    · rw [hv, e] at had; cases had
    · rw [hv, e] at had
      injection had with had
      rw [← had] at hf
      have := HT1.out.a.lt _ hf
      simp only at this
      omega) ⟨hcap.1, hcm⟩ (by omega)).mono ?_
  rintro e w3 ⟨rfl, ht3, F4, hd3, hF3⟩
  have HT3 := mkHid (HT2.out.stepA ht3 hd3 hF3 (filled_wait (q := q + 1)) (Nat.le_succ q))
  clear ht3 hd3 hF3 hcap
  go_wp2_with fail
  go_ret
  exact ⟨rfl, F4, F3, _, HT3.out⟩

set_option maxRecDepth 20000 in
set_option maxHeartbeats 4000000 in
theorem step_other (F1 F2 : Nat → Prop) (g1 g2 q : Nat) (ss : List Sec) (xk xi xn : Int) (a1 : Option Addr) (m c1 : Nat) (a2 : Option Addr) (m' c2 : Nat) (w wp : World) (h : TD w wp F1 F2 g1 g2 q ss ss) (h2 : (xk == 2) = false) (h3 : (xk == 3) = false) (h4 : (xk == 4) = false) (h5 : (xk == 5) = false) (h6 : (xk == 6) = false) (h7 : (xk == 7) = false) :
    Calls Try.prog 26 #[.pointer (some ⟨g1, 0, none⟩), .pointer (some ⟨g2, 0, none⟩), .agg #[.int .i64 xk, .int .i64 xi, .int .i64 xn, .slice a1 m c1, .slice a2 m' c2]] wp (Stepped F1 F2 wp w g1 g2 (q + 1)) := by
  have HT0 := mkHid ((TE.of h).below ((Below.refl _ _).alloc (Nat.le_refl _) (.cells #[.int .i64 xk, .int .i64 xi, .int .i64 xn, .slice a1 m c1, .slice a2 m' c2] 32)))
  clear h
  go_enter Try.func26, Try.ntmps26
  go_wp2_with fail
  go_ret
  exact ⟨rfl, F1, F2, ss, HT0.out.more (Nat.le_succ q)⟩

/-- One call of any kind. -/
theorem step_any (F1 F2 : Nat → Prop) (g1 g2 q : Nat) (ss : List Sec) (x : Op) (a1 : Option Addr) (m c1 : Nat) (a2 : Option Addr) (m' c2 : Nat) (w wp : World) (h : TD w wp F1 F2 g1 g2 q ss ss) (hq : q < 1000000) (hi : I64 x.i) (hn : I64 x.n) (hx : BS w w.heap.size a1 m x.data) (hm : m ≤ 1000) (hp : IS w w.heap.size a2 m' x.picks) (hc : m' ≤ c2 ∧ c2 ≤ 9223372036854775807) (hm' : m' ≤ 1000) :
    Calls Try.prog 26 #[.pointer (some ⟨g1, 0, none⟩), .pointer (some ⟨g2, 0, none⟩), .agg #[.int .i64 x.kind, .int .i64 x.i, .int .i64 x.n, .slice a1 m c1, .slice a2 m' c2]] wp (Stepped F1 F2 wp w g1 g2 (q + 1)) := by
  obtain ⟨xk, xi, xn, xd, xp⟩ := x
  simp only at *
  by_cases h2 : xk = 2
  · subst h2; exact step_write F1 F2 g1 g2 q ss xi xn a1 m c1 xd a2 m' c2 w wp h hq hi hx hm
  by_cases h3 : xk = 3
  · subst h3; exact step_flush F1 F2 g1 g2 q ss xi xn a1 m c1 a2 m' c2 w wp h
  by_cases h4 : xk = 4
  · subst h4; exact step_grow F1 F2 g1 g2 q ss xi xn a1 m c1 a2 m' c2 w wp h hn
  by_cases h5 : xk = 5
  · subst h5; exact step_bad F1 F2 g1 g2 q ss xi xn a1 m c1 a2 m' c2 w wp h hi hn
  by_cases h6 : xk = 6
  · subst h6; exact step_crash F1 F2 g1 g2 q ss xi xn a1 m c1 a2 m' c2 xp w wp h hp hc hm'
  by_cases h7 : xk = 7
  · subst h7; exact step_fill F1 F2 g1 g2 q ss xi xn a1 m c1 xd a2 m' c2 w wp h hx hm
  exact step_other F1 F2 g1 g2 q ss xk xi xn a1 m c1 a2 m' c2 w wp h (by simpa using h2) (by simpa using h3) (by simpa using h4) (by simpa using h5) (by simpa using h6) (by simpa using h7)

end Go.Proofs.Ytpponofbkkikfaa
