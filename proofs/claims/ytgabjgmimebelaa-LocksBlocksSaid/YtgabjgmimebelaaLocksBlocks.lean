/- portagelaw15.LocksBlocks answers true. -/
import Derived.Test.YtgabjgmimebelaaLocksClash
namespace Go.Proofs.Ytgabjgmimebelaa
open Go.RowKit Go.Shelf

/-- Spans of few blocks of one volume clash just if one block is in both, and one of them is written. -/
theorem clash_blocks {v f n f' n' : Int} {b b' bt : Bool} (hv : 1 ≤ v) (hn : 1 ≤ n) (hn' : 1 ≤ n') (h3 : n ≤ 300) (h3' : n' ≤ 300) (hf : 0 ≤ f) (hf' : 0 ≤ f') (hb : bt = true ↔ ∃ i k : Nat, (i : Int) < n ∧ (k : Int) < n' ∧ f - f' = k - i) :
    clashOf ⟨v, f, n, b⟩ ⟨v, f', n', b'⟩ = (bt && (b || b')) := by
  unfold clashOf
  rw [show rightOf ⟨v, f, n, b⟩ = true from decide_eq_true ⟨by simp only; omega, hf, by simp only; omega, by simp only; omega⟩, show rightOf ⟨v, f', n', b'⟩ = true from decide_eq_true ⟨by simp only; omega, hf', by simp only; omega, by simp only; omega⟩]
  have h0 : ¬ v = 0 := by omega
  have h1 : ¬ n = 0 := by omega
  have h2 : ¬ n' = 0 := by omega
  have key : (if f ≤ f' then decide (f' - f < n) else decide (f - f' < n')) = bt := by
    rw [Bool.eq_iff_iff, hb]
    by_cases hff : f ≤ f'
    · rw [if_pos hff, decide_eq_true_iff]
      constructor
      · intro h
        exact ⟨(f' - f).toNat, 0, by omega, by omega, by omega⟩
      · rintro ⟨i, k, hi, hk, he⟩
        omega
    · rw [if_neg hff, decide_eq_true_iff]
      constructor
      · intro h
        exact ⟨0, (f - f').toNat, by omega, by omega, by omega⟩
      · rintro ⟨i, k, hi, hk, he⟩
        omega
  cases b <;> cases b' <;> simp [h0, h1, h2, wholeOf, key]

set_option maxRecDepth 20000 in
set_option maxHeartbeats 4000000 in
theorem blocks_ok (v f n f' n' : Int) (b b' : Bool) (w : World) (hv : 1 ≤ v) (hv2 : v ≤ 9223372036854775807) (hn : 1 ≤ n) (hn' : 1 ≤ n') (h3 : n ≤ 300) (h3' : n' ≤ 300) (hf : 0 ≤ f) (hf' : 0 ≤ f') (hf2 : f ≤ 9223372036854775807) (hf2' : f' ≤ 9223372036854775807) :
    Calls Try.prog 4 #[spV ⟨v, f, n, b⟩, spV ⟨v, f', n', b'⟩] w fun e w' => e = .returned (.bool true) ∧ Below w.heap.size w w' := by
  have HC := mkHid (fun W => clash_any ⟨v, f, n, b⟩ ⟨v, f', n', b'⟩ W ⟨⟨by simp only; omega, hv2⟩, ⟨by simp only; omega, hf2⟩, ⟨by simp only; omega, by simp only; omega⟩⟩ ⟨⟨by simp only; omega, hv2⟩, ⟨by simp only; omega, hf2'⟩, ⟨by simp only; omega, by simp only; omega⟩⟩)
  have HL := mkHid (fun (bt : Bool) hb => clash_blocks (v := v) (b := b) (b' := b') (bt := bt) hv hn hn' h3 h3' hf hf' hb)
  obtain ⟨N, rfl⟩ : ∃ N : Nat, n = N := ⟨n.toNat, by omega⟩
  obtain ⟨N', rfl⟩ : ∃ N' : Nat, n' = N' := ⟨n'.toNat, by omega⟩
  unfold spV at HC ⊢
  simp only at HC ⊢
  have hvv : (v != v) = false := by simp
  go_enter Try.func4, Try.ntmps4
  go_wp2_with fail
  generalize hW : (w.alloc (.cells #[.int .i64 v, .int .i64 f, .int .i64 N, .bool b] 23)).alloc (.cells #[.int .i64 v, .int .i64 f', .int .i64 N', .bool b'] 23) = w0
  have HB0 := mkHid (show Below w.heap.size w w0 from hW ▸ ((Below.refl _ _).alloc (Nat.le_refl _) _).alloc (by simp) _)
  have ak0 : w0.heap[w.heap.size]? = some (.cells #[.int .i64 v, .int .i64 f, .int .i64 N, .bool b] 23 (0, 0)) := hW ▸ (Below.heap_alloc _ _ _ (by simp)).trans (heap_alloc_new w _)
  have dk0 : w0.heap[w.heap.size + 1]? = some (.cells #[.int .i64 v, .int .i64 f', .int .i64 N', .bool b'] 23 (0, 0)) := hW ▸ heap_alloc2_new w _ _
  clear hW
  obtain ⟨a0, a1, a2, a3⟩ := facts4 ak0
  obtain ⟨d0, d1, d2, d3⟩ := facts4 dk0
  go_wp2_with fail
  go_loop [5, 51] (fun bt i => ∃ (q : Nat) (t : Bool), q ≤ N ∧ i = .int .i64 q ∧ bt = .bool t ∧ Hid (t = true ↔ ∃ i k : Nat, i < q ∧ k < N' ∧ f - f' = k - i)) (fun _ i => N - (intOf i).toNat)
  case atStart => exact ⟨0, false, Nat.zero_le _, rfl, rfl, mkHid ⟨fun h => (by cases h), fun ⟨i, k, h, _⟩ => (by omega)⟩⟩
  case round =>
    obtain ⟨q, t, hq, rfl, rfl, HT⟩ := hrel
    by_cases hlt : q < N
    · go_wp2_with fail
      go_loop [5, 56] (fun bt i => ∃ (p : Nat) (t' : Bool), p ≤ N' ∧ i = .int .i64 p ∧ bt = .bool t' ∧ Hid (t' = true ↔ (∃ i k : Nat, i < q ∧ k < N' ∧ f - f' = k - i) ∨ ∃ k : Nat, k < p ∧ f - f' = k - q)) (fun _ i => N' - (intOf i).toNat)
      case atStart => exact ⟨0, t, Nat.zero_le _, rfl, rfl, mkHid ⟨fun h => .inl (HT.out.1 h), fun h => (by rcases h with h | ⟨k, h, _⟩; exact HT.out.2 h; omega)⟩⟩
      case round =>
        obtain ⟨p, t', hp, rfl, rfl, HT'⟩ := hrel
        by_cases hlp : p < N'
        · cases t' with
          | true =>
            go_wp2_with fail
            go_round
            case rel => exact ⟨p + 1, true, by omega, by go_num, rfl, mkHid ⟨fun _ => (HT'.out.1 rfl).imp id fun ⟨k, h1, h2⟩ => ⟨k, by omega, h2⟩, fun _ => rfl⟩⟩
            case measure => simp [intOf]; omega
          | false =>
            by_cases he : f - f' = p - q
            · have heb : (f - f' == (p : Int) - q) = true := by simpa using he
              have HE := mkHid he
              clear he
              go_wp2_with fail
              go_round
              case rel => exact ⟨p + 1, true, by omega, by go_num, rfl, mkHid ⟨fun _ => .inr ⟨p, by omega, HE.out⟩, fun _ => rfl⟩⟩
              case measure => simp [intOf]; omega
            · have heb : (f - f' == (p : Int) - q) = false := by simpa using he
              have HE := mkHid he
              clear he
              go_wp2_with fail
              go_round
              case rel =>
                refine ⟨p + 1, false, by omega, by go_num, rfl, mkHid ⟨fun h => (by cases h), fun h => ?_⟩⟩
                rcases h with h | ⟨k, h1, h2⟩
                · exact HT'.out.2 (.inl h)
                · by_cases e : k < p
                  · exact HT'.out.2 (.inr ⟨k, e, h2⟩)
                  · obtain rfl : k = p := by omega
                    exact absurd h2 HE.out
              case measure => simp [intOf]; omega
        · obtain rfl : p = N' := by omega
          go_wp2_with fail
          go_round
          case rel =>
            refine ⟨q + 1, t', by omega, by go_num, rfl, mkHid (HT'.out.trans ⟨?_, ?_⟩)⟩
            · rintro (⟨i, k, h1, h2, h3⟩ | ⟨k, h1, h2⟩)
              · exact ⟨i, k, by omega, h2, h3⟩
              · exact ⟨q, k, by omega, h1, h2⟩
            · rintro ⟨i, k, h1, h2, h3⟩
              by_cases e : i < q
              · exact .inl ⟨i, k, e, h2, h3⟩
              · obtain rfl : i = q := by omega
                exact .inr ⟨k, h2, h3⟩
          case measure => simp [intOf]; omega
    · obtain rfl : q = N := by omega
      have HL2 := mkHid (HL.out t (HT.out.trans ⟨fun ⟨i, k, h1, h2, h3⟩ => ⟨i, k, by omega, by omega, h3⟩, fun ⟨i, k, h1, h2, h3⟩ => ⟨i, k, by omega, by omega, h3⟩⟩))
      have hl1 : w.heap.size + 1 < w0.heap.size := (Array.getElem?_eq_some_iff.1 dk0).1
      rw [HL2.out] at HC
      go_wp2_with fail
      refine (HC.out _).mono ?_
      rintro e w1 ⟨rfl, hb1⟩
      have ak1 : w1.heap[w.heap.size]? = some (.cells #[.int .i64 v, .int .i64 f, .int .i64 q, .bool b] 23 (0, 0)) := (hb1.block _ (by omega)).trans ak0
      have dk1 : w1.heap[w.heap.size + 1]? = some (.cells #[.int .i64 v, .int .i64 f', .int .i64 N', .bool b'] 23 (0, 0)) := (hb1.block _ hl1).trans dk0
      have HB1 := mkHid (HB0.out.trans (hb1.mono HB0.out.size))
      clear ak0 dk0 a0 a1 a2 a3 d0 d1 d2 d3 hb1
      obtain ⟨a0, a1, a2, a3⟩ := facts4 ak1
      obtain ⟨d0, d1, d2, d3⟩ := facts4 dk1
      have fin : ∀ W, Below w.heap.size w W → Calls Try.prog 11 #[] W fun e w' => e = .returned (.bool true) ∧ Below w.heap.size w w' := fun W hb => (awake_any W).mono fun e w' h => ⟨h.1, hb.trans (h.2.mono hb.size)⟩
      have FIN := mkHid (fin _ HB1.out)
      clear fin
      cases t <;> cases b <;> cases b'
      all_goals go_wp2_with fail
      all_goals (refine FIN.out.mono ?_; rintro e w2 ⟨rfl, hb2⟩)
      all_goals go_wp2_with fail
      all_goals go_ret
      all_goals exact ⟨rfl, hb2⟩


end Go.Proofs.Ytgabjgmimebelaa
