/- Super.Same and portageref06.Same by contract. -/
import Derived.Test.YtbgfccfhiocomaaSaG
namespace Go.Proofs.Ytbgfccfhiocomaa
open Go.RowKit Go.Shelf

def sameS (g r : Int) (xs : List (Int × Int)) (g' r' : Int) (ys : List (Int × Int)) : Bool := decide (g = g' ∧ r = r' ∧ xs = ys)
theorem ssame_val {g r g' r' : Int} {xs ys : List (Int × Int)} (hr : rightS g r xs = true) (h1 : g = g') (h2 : r = r') : (rightL xs && (rightL ys && decide (xs = ys))) = (rightS g r xs && sameS g r xs g' r' ys) := by
  rw [hr, (rightS_ok hr).2.1]
  unfold sameS
  by_cases h : xs = ys
  · rw [← h, (rightS_ok hr).2.1, decide_eq_true (show g = g' ∧ r = r' ∧ xs = xs from ⟨h1, h2, rfl⟩), decide_eq_true rfl]
    rfl
  · rw [decide_eq_false h, decide_eq_false (fun e => h e.2.2), Bool.and_false]

set_option maxRecDepth 20000 in
set_option maxHeartbeats 2000000 in
theorem ssame_any (g r : Int) (a : Option Addr) (n c : Nat) (xs : List (Int × Int)) (g' r' : Int) (a' : Option Addr) (n' c' : Nat) (ys : List (Int × Int)) (w : World) (hs : ES w w.heap.size a n xs) (hc : CapOk n c) (hs' : ES w w.heap.size a' n' ys) (hc' : CapOk n' c') :
    Calls Try.prog 15 #[.agg #[.int .i64 g, .int .i64 r, .slice a n c], .agg #[.int .i64 g', .int .i64 r', .slice a' n' c']] w fun e w' => e = .returned (.bool (rightS g r xs && sameS g r xs g' r' ys)) ∧ Below w.heap.size w w' := by
  obtain ⟨W, hW⟩ : ∃ W, (w.alloc (.cells #[.int .i64 g, .int .i64 r, .slice a n c] 35)).alloc (.cells #[.int .i64 g', .int .i64 r', .slice a' n' c'] 35) = W := ⟨_, rfl⟩
  have HAL := mkHid (show Below w.heap.size w W by rw [← hW]; exact ((Below.refl _ _).alloc (Nat.le_refl _) _).alloc (by simp) _)
  have HES := mkHid ((hs.below HAL.out).more HAL.out.size)
  have HES' := mkHid ((hs'.below HAL.out).more HAL.out.size)
  have HL := mkHid hs.len
  have HL' := mkHid hs'.len
  have hQ' : W.heap[w.heap.size + 1]? = some (.cells #[.int .i64 g', .int .i64 r', .slice a' n' c'] 35) := by
    rw [← hW]
    have := heap_alloc_new (w.alloc (.cells #[.int .i64 g, .int .i64 r, .slice a n c] 35)) (.cells #[.int .i64 g', .int .i64 r', .slice a' n' c'] 35)
    simpa using this
  have hQ : W.heap[w.heap.size]? = some (.cells #[.int .i64 g, .int .i64 r, .slice a n c] 35) := by rw [← hW]; exact (Below.heap_alloc _ _ _ (by simp)).trans (heap_alloc_new _ _)
  have HK := mkHid (show ∀ Z, Below W.heap.size W Z → (Z.cell? ⟨w.heap.size, 0, none⟩ = some (.int .i64 g) ∧ Z.cell? ⟨w.heap.size, 1, none⟩ = some (.int .i64 r) ∧ Z.cell? ⟨w.heap.size, 2, none⟩ = some (.slice a n c)) ∧ (Z.cell? ⟨w.heap.size + 1, 0, none⟩ = some (.int .i64 g') ∧ Z.cell? ⟨w.heap.size + 1, 1, none⟩ = some (.int .i64 r') ∧ Z.cell? ⟨w.heap.size + 1, 2, none⟩ = some (.slice a' n' c')) from fun Z hZ =>
    have h := (hZ.block _ (Array.getElem?_eq_some_iff.1 hQ).1).trans hQ
    have h' := (hZ.block _ (Array.getElem?_eq_some_iff.1 hQ').1).trans hQ'
    ⟨⟨cell_of_row Z w.heap.size 0 _ _ _ h, cell_of_row Z w.heap.size 1 _ _ _ h, cell_of_row Z w.heap.size 2 _ _ _ h⟩, ⟨cell_of_row Z (w.heap.size + 1) 0 _ _ _ h', cell_of_row Z (w.heap.size + 1) 1 _ _ _ h', cell_of_row Z (w.heap.size + 1) 2 _ _ _ h'⟩⟩)
  obtain ⟨⟨k0, k1, k2⟩, ⟨x0, x1, x2⟩⟩ := HK.out W (Below.refl _ _)
  have HC := mkHid hc
  have HC' := mkHid hc'
  clear hs hs' hQ hQ' hc hc'
  go_enter Try.func15, Try.ntmps15
  go_wp2_with fail
  refine (scheck_any g r a n c xs W HES.out HC.out).mono ?_
  rintro e w1 ⟨rfl, hb1⟩
  have HB1 := mkHid (HAL.out.trans (hb1.mono HAL.out.size))
  have HES1 := mkHid ((HES.out.below hb1).more hb1.size)
  have HES1' := mkHid ((HES'.out.below hb1).more hb1.size)
  clear hW k0 k1 k2 x0 x1 x2
  obtain ⟨⟨k0, k1, k2⟩, ⟨x0, x1, x2⟩⟩ := HK.out w1 hb1
  clear hb1
  cases hr : rightS g r xs with
  | false =>
    rw [show superE false = codeV 14 from rfl]
    have HR := mkHid hr
    clear hr
    go_wp2_with fail
    go_ret
    exact ⟨ret_bool (by rw [HR.out]; rfl), HB1.out⟩
  | true =>
    have HR := mkHid hr
    rw [show superE true = .nilIface from rfl]
    clear hr
    by_cases h1 : g = g'
    case neg =>
      have hgb : (g == g') = false := by simpa using h1
      have HV := mkHid (show (rightS g r xs && sameS g r xs g' r' ys) = false by unfold sameS; rw [decide_eq_false (fun e => h1 e.1), Bool.and_false])
      clear h1
      go_wp2_with fail
      go_ret
      exact ⟨ret_bool HV.out.symm, HB1.out⟩
    have hgb : (g == g') = true := by simpa using h1
    have HG := mkHid h1
    clear h1
    by_cases h2 : r = r'
    case neg =>
      have hrb : (r == r') = false := by simpa using h2
      have HV := mkHid (show (rightS g r xs && sameS g r xs g' r' ys) = false by unfold sameS; rw [decide_eq_false (fun e => h2 e.2.1), Bool.and_false])
      clear h2
      go_wp2_with fail
      go_ret
      exact ⟨ret_bool HV.out.symm, HB1.out⟩
    have hrb : (r == r') = true := by simpa using h2
    have HRB := mkHid h2
    clear h2
    go_wp2_with fail
    refine (rosSame_any a n c xs a' n' c' ys w1 HES1.out HC.out HES1'.out HC'.out).mono ?_
    rintro e w2 ⟨rfl, hb2⟩
    have HB2 := mkHid (HB1.out.trans (hb2.mono HB1.out.size))
    have HV := mkHid (ssame_val (ys := ys) HR.out HG.out HRB.out)
    clear hb2
    go_wp2_with fail
    go_ret
    exact ⟨ret_bool HV.out, HB2.out⟩


end Go.Proofs.Ytbgfccfhiocomaa
