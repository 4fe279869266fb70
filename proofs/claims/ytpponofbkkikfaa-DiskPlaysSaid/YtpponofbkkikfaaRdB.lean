/- The document's disk: Has, Read, a sector of noughts, more sectors, New, Grow by contract. -/
import Derived.Test.YtpponofbkkikfaaRdA
import Derived.Deep.RegionLaw
namespace Go.Proofs.Ytpponofbkkikfaa
open Go.RowKit

theorem rhas_any (F : Nat → Prop) (g : Nat) (ss : List Sec) (i : Int) (w : World) (h : RD w F g ss) (hi : I64 i) :
    Calls Try.prog 29 #[.pointer (some ⟨g, 0, none⟩), .int .i64 i] w fun e w' => e = .returned (.bool (hasOf ss.length i)) ∧ w = w' := by
  obtain ⟨A, n, c, cs, h⟩ := h
  rw [h.len]
  have c0 := cell_of_row w g 0 _ _ _ h.blk
  have hnl := h.nl
  simp at c0
  obtain ⟨i0, i1⟩ := hi
  clear h
  by_cases h1 : 0 ≤ i
  · by_cases h2 : i < n
    · rw [show hasOf n i = true from decide_eq_true ⟨h1, h2⟩]
      go_enter Try.func29, Try.ntmps29
      go_wp2_with fail
      go_ret
      exact ⟨rfl, rfl⟩
    · rw [show hasOf n i = false from decide_eq_false fun h => h2 h.2]
      go_enter Try.func29, Try.ntmps29
      go_wp2_with fail
      go_ret
      exact ⟨rfl, rfl⟩
  · rw [show hasOf n i = false from decide_eq_false fun h => h1 h.1]
    go_enter Try.func29, Try.ntmps29
    go_wp2_with fail
    go_ret
    exact ⟨rfl, rfl⟩

set_option maxRecDepth 20000 in
theorem rread_no (F : Nat → Prop) (g : Nat) (ss : List Sec) (i : Int) (w : World) (h : RD w F g ss) (hi : I64 i) (hh : hasOf ss.length i = false) :
    Calls Try.prog 27 #[.pointer (some ⟨g, 0, none⟩), .int .i64 i] w fun e w' => e = .returned (.tuple #[.slice none 0 0, .int .i64 20]) ∧ w = w' := by
  have H := mkHid (rhas_any F g ss i w h hi)
  rw [hh] at H
  clear h hi hh
  go_enter Try.func27, Try.ntmps27
  go_wp2_with fail
  refine H.out.mono ?_
  rintro e w1 ⟨rfl, rfl⟩
  go_wp2_with fail
  go_ret2
  exact ⟨rfl, rfl⟩

set_option maxRecDepth 20000 in
theorem rread_bad (F : Nat → Prop) (g : Nat) (ss : List Sec) (i : Nat) (s : Sec) (w : World) (h : RD w F g ss) (hs : ss[i]? = some s) (hb : s.bad = true) :
    Calls Try.prog 27 #[.pointer (some ⟨g, 0, none⟩), .int .i64 i] w fun e w' => e = .returned (.tuple #[.slice none 0 0, .int .i64 21]) ∧ w = w' := by
  have hil := (List.getElem?_eq_some_iff.1 hs).1
  have hnl := h.nl
  have H := mkHid (rhas_any F g ss i w h ⟨by omega, by omega⟩)
  rw [show hasOf ss.length (i : Int) = true from decide_eq_true ⟨by omega, by omega⟩] at H
  obtain ⟨A, n, c, cs, h⟩ := h
  have hlen := h.len
  obtain ⟨r, s', a, c', rfl, hs', k0, k1, _, _, _, _, _⟩ := h.at_ (j := i) (by omega)
  rw [hs] at hs'
  injection hs' with hs'
  subst hs'
  rw [hb] at k1
  obtain ⟨hc1, hc2⟩ := own_cap h.row
  have c0 := cell_of_row w g 0 _ _ _ h.blk
  simp at c0
  rw [hlen] at hil
  clear h hs hb hlen
  go_enter Try.func27, Try.ntmps27
  go_wp2_with fail
  refine H.out.mono ?_
  rintro e w1 ⟨rfl, rfl⟩
  go_wp2_with fail
  go_ret2
  exact ⟨rfl, rfl⟩

set_option maxRecDepth 20000 in
theorem rread_ok (F : Nat → Prop) (g : Nat) (ss : List Sec) (i : Nat) (s : Sec) (w : World) (h : RD w F g ss) (hs : ss[i]? = some s) (hb : s.bad = false) :
    Calls Try.prog 27 #[.pointer (some ⟨g, 0, none⟩), .int .i64 i] w fun e w' => ∃ a c, e = .returned (.tuple #[.slice a 128 c, .int .i64 0]) ∧ (128 ≤ c ∧ c ≤ maxLen) ∧ BS w' w'.heap.size a 128 s.last ∧ Below w.heap.size w w' := by
  have hil := (List.getElem?_eq_some_iff.1 hs).1
  have hnl := h.nl
  have H := mkHid (rhas_any F g ss i w h ⟨by omega, by omega⟩)
  rw [show hasOf ss.length (i : Int) = true from decide_eq_true ⟨by omega, by omega⟩] at H
  have HLT := mkHid h.lt
  obtain ⟨A, n, c, cs, h⟩ := h
  have hlen := h.len
  obtain ⟨r, s', a, c', rfl, hs', k0, k1, hc', hw, hv, _, _⟩ := h.at_ (j := i) (by omega)
  rw [hs] at hs'
  injection hs' with hs'
  subst hs'
  rw [hb] at k1
  obtain ⟨hc1, hc2⟩ := own_cap h.row
  have c0 := cell_of_row w g 0 _ _ _ h.blk
  simp at c0
  rw [hlen] at hil
  obtain ⟨b, a', c2, l, rfl, _, kc, hc3, hl, hgb⟩ := hv.at_ (j := s.wait.length) (by rw [s.vals_len]; omega)
  rw [s.vals_last] at hl
  injection hl with hl
  subst hl
  generalize s.wait.length = m at *
  have HG := mkHid hgb
  have HS0 := mkHid (And.intro c0 (And.intro k0 kc))
  have hwr : IntKind.i64.wrap ((m : Int) + 1 - 1) = (m : Int) := by rw [IntKind.wrap_i64]; omega
  have hj0 : (0 : Int) ≤ (m : Int) := by omega
  have hj1 : (m : Int) < (m : Int) + 1 := by omega
  clear h hs hb hlen hv hgb
  go_enter Try.func27, Try.ntmps27
  go_wp2_with fail
  refine H.out.mono ?_
  rintro e w1 ⟨rfl, rfl⟩
  go_wp2_with fail
  go_quiet (fail)
  go_wp2_with fail
  go_ret2
  exact ⟨a', c2, rfl, hc3, HG.out.bs HLT.out, below_drewN (Below.refl _ _) _⟩

/-- A row known whole that is the call's own: what its block holds. -/
theorem own_block {w : World} {B : Nat} {e : TypeId} {s n c : Nat} {A : Option Addr} {xs : List Value} (h : w.ownsRow B e s (.slice A n c) n xs) (hn : 0 < n) :
    ∃ g cur, A = some ⟨g, 0, none⟩ ∧ B ≤ g ∧ g < w.heap.size ∧ w.heap[g]? = some (.cells (List.toArray cur) e (0, 0)) ∧ n ≤ c ∧ c ≤ maxLen ∧ cur.length = c * s ∧ cur.take (n * s) = xs := by
  rcases h.2 with ⟨h0, _⟩ | ⟨g, cap, cur, h0, h1, h2, h3, h4, h5, h6⟩
  · injection h0 with _ h0 _
    omega
  · injection h0 with a1 a2 a3
    subst a1 a3
    exact ⟨g, cur.toList, rfl, h1, (Array.getElem?_eq_some_iff.1 h2).1, by simpa using h2, h3, h4, by simpa using h5, h6⟩
/-- A new sector of noughts: its values in block b, its bytes in block d. -/
structure ZS (w w' : World) (b d : Nat) : Prop where
  vb : w'.heap[b]? = some (.cells #[.slice (some ⟨d, 0, none⟩) 128 128] 30 (0, 0))
  vd : w'.heap[d]? = some (.cells (zeros.map u8).toArray 5 (0, 0))
  b0 : w.heap.size ≤ b
  d0 : w.heap.size ≤ d
  b1 : b < w'.heap.size
  d1 : d < w'.heap.size
  bel : Below w.heap.size w w'
theorem ZS.gb {w w' : World} {b d : Nat} {F : Nat → Prop} (h : ZS w w' b d) (hF : ∀ b, w.heap.size ≤ b → b < w'.heap.size → F b) : GB w' F (some ⟨d, 0, none⟩) zeros :=
  ⟨zeros_len, zeros_ok, d, 0, _, (0, 0), rfl, hF d h.d0 h.d1, h.vd, fun j hj => by
    rw [Nat.zero_add, List.getElem?_toArray, List.getElem?_map, List.getElem?_eq_getElem (by rw [zeros_len]; exact hj)]; rfl⟩
theorem ZS.vals {w w' : World} {b d : Nat} {F : Nat → Prop} (h : ZS w w' b d) (hF : ∀ b, w.heap.size ≤ b → b < w'.heap.size → F b) : VB w' F (some ⟨b, 0, none⟩) sec0.vals :=
  VB.one (hF b h.b0 h.b1) h.vb ⟨Nat.le_refl _, by unfold maxLen; omega⟩ (h.gb hF)

set_option maxRecDepth 20000 in
theorem zero_any (w : World) : Calls Try.prog 44 #[] w fun e w' => ∃ b d, e = .returned (.agg #[.slice (some ⟨b, 0, none⟩) 1 1, .bool false]) ∧ ZS w w' b d := by
  go_enter Try.func44, Try.ntmps44
  go_wp2_with (at_make; refine wpList_make128 _ rfl rfl w.heap.size (by simp) ?_; intro wm hm1 hm2; have HM1 := mkHid hm1; have HM2 := mkHid hm2; have hszm : w.heap.size + 1 ≤ wm.heap.size := (by have := hm2.size; simpa using this); have hQ := (hm2.block w.heap.size (by simp) (by simp)).trans (heap_alloc_new w _); have hQ' : ∀ o, (wm.alloc o).heap[w.heap.size]? = _ := (fun o => (Below.heap_alloc _ _ _ (by omega)).trans hQ); have k0 : ∀ o, (wm.alloc o).cell? ⟨w.heap.size, 0, none⟩ = some (.slice none 0 0) := (fun o => cell_of_row _ _ 0 _ _ _ (hQ' o)); have k1 : ∀ o, (wm.alloc o).cell? ⟨w.heap.size, 1, none⟩ = some (.bool false) := (fun o => cell_of_row _ _ 1 _ _ _ (hQ' o)); have f0 : ∀ o, (wm.alloc o).frozen? ⟨w.heap.size, 0, none⟩ = false := (fun o => frozen_of_row _ _ 0 _ _ (hQ' o)); have f1 : ∀ o, (wm.alloc o).frozen? ⟨w.heap.size, 1, none⟩ = false := (fun o => frozen_of_row _ _ 1 _ _ (hQ' o)); have HQ := mkHid hQ; clear hm1 hm2 hQ hQ')
  have hQW : ∀ (W : World) (v v' : Value) (b : Nat), b ≠ w.heap.size → ((W.setCell ⟨w.heap.size, 0, none⟩ v).setCell ⟨w.heap.size, 1, none⟩ v').heap[b]? = W.heap[b]? := fun W v v' b hb => (heap_setCell_other _ _ _ _ hb).trans (heap_setCell_other _ _ _ _ hb)
  have hb1 := (((Below.refl w.heap.size w).alloc (Nat.le_refl _) (.cells #[.slice none 0 0, .bool false] 64)).grown HM2.out (by simp) (fun k hk => by cases hk)).alloc (o := .cells #[.slice (some ⟨w.heap.size + 1, 0, none⟩) 128 128] 30) (by omega)
  have ho := HM1.out
  obtain ⟨r, cur, hr, hr0, hr1, hr2, _, _, hr3, hr4⟩ := own_block ho (by omega)
  injection hr with hr
  injection hr with hr
  rw [Nat.mul_one] at hr3 hr4
  rw [List.take_of_length_le (by omega)] at hr4
  subst hr4
  simp at hr
  subst hr
  refine bodyPost_ret (v := .agg #[.slice (some ⟨wm.heap.size, 0, none⟩) 1 1, .bool false]) (by simp [results, Try.results44, go_sem, k0, k1]) rfl ⟨wm.heap.size, w.heap.size + 1, rfl, ?_⟩
  refine ⟨(hQW _ _ _ _ (by omega)).trans (heap_alloc_new wm _), (hQW _ _ _ _ (by omega)).trans ((Below.heap_alloc _ _ _ (by omega)).trans hr2), by omega, by omega, by simp, by simp; omega, (hb1.setCell (Nat.le_refl _) _).setCell (Nat.le_refl _) _⟩

end Go.Proofs.Ytpponofbkkikfaa
