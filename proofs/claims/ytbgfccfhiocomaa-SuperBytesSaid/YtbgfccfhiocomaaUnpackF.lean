/- frame.Unpacker by contract: NewUnpacker, take, Byte, Short, Word, Long, Rest, Done. -/
import Derived.Test.YtbgfccfhiocomaaFrameA
import Derived.Test.YtbgfccfhiocomaaErrIs
namespace Go.Proofs.Ytbgfccfhiocomaa
open Go.RowKit

/-- The bytes of slice (a, n) lie below block g. -/
def UBO (w : World) (g : Nat) (a : Option Addr) (n : Nat) (l : List Int) : Prop :=
  l.length = n ∧ okBytes l ∧ ∀ j, j < n → ∃ b o, a = some ⟨b, o, none⟩ ∧ b < g ∧ b < w.heap.size ∧ w.cell? ⟨b, o + j, none⟩ = some (.int .u8 (l[j]?.getD 0))
theorem UBO.of {w : World} {g B n : Nat} {a : Option Addr} {l : List Int} (h : BS w B a n l) (hB : B ≤ w.heap.size) (hg : B ≤ g) : UBO w g a n l :=
  ⟨h.len, h.2, fun j hj => by
    obtain ⟨b, o, ha, hb, hc, _⟩ := h.at_ hj
    exact ⟨b, o, ha, by omega, by omega, hc⟩⟩
theorem UBO.keep {w w' : World} {g n : Nat} {a : Option Addr} {l : List Int} (h : UBO w g a n l) (hk : w.grownBy w' (some g)) : UBO w' g a n l :=
  ⟨h.1, h.2.1, fun j hj => by
    obtain ⟨b, o, ha, hb, hlt, hc⟩ := h.2.2 j hj
    exact ⟨b, o, ha, hb, by have := hk.size; omega, (World.cell?_of_block (w := w) (hk.block b hlt (by simp; omega))).trans hc⟩⟩
theorem UBO.bs {w : World} {g n : Nat} {a : Option Addr} {l : List Int} (h : UBO w g a n l) : BS w w.heap.size a n l :=
  ⟨⟨by rw [List.length_map, h.1, Nat.mul_one], fun j hj => by
    obtain ⟨b, o, ha, hb, hlt, hc⟩ := h.2.2 j (by omega)
    refine ⟨b, o, ha, hlt, hc.trans ?_⟩
    rw [List.getElem?_map, List.getElem?_eq_getElem (by rw [h.1]; omega)]; rfl⟩, h.2.1⟩
theorem UBO.drop {w : World} {g n : Nat} {b o : Nat} {l : List Int} (h : UBO w g (some ⟨b, o, none⟩) n l) (k : Nat) (hk : k ≤ n) : UBO w g (some ⟨b, o + k, none⟩) (n - k) (l.drop k) :=
  ⟨by rw [List.length_drop, h.1], fun x hx => h.2.1 x (List.mem_of_mem_drop hx), fun j hj => by
    obtain ⟨b', o', ha, hb, hlt, hc⟩ := h.2.2 (k + j) (by omega)
    injection ha with ha
    injection ha with e1 e2
    subst e1
    subst e2
    exact ⟨b, o + k, rfl, hb, hlt, by rw [Nat.add_assoc, hc, List.getElem?_drop]⟩⟩

/-- An unpacker at block g: the bytes that are left, and whether it is spoiled. -/
structure UK (w : World) (g : Nat) (a : Option Addr) (n c : Nat) (bs : List Int) (bad : Bool) : Prop where
  blk : w.heap[g]? = some (.cells #[.slice a n c, .bool bad] 131 (0, 0))
  bytes : UBO w g a n bs
  cap : n ≤ c ∧ c ≤ maxLen ∧ n ≤ 140737488355328

section
variable {w w' : World} {g n c : Nat} {a : Option Addr} {bs : List Int} {bad : Bool}
theorem UK.lt (h : UK w g a n c bs bad) : g < w.heap.size := (Array.getElem?_eq_some_iff.1 h.blk).1
theorem UK.facts (h : UK w g a n c bs bad) : w.cell? ⟨g, 0, none⟩ = some (.slice a n c) ∧ w.cell? ⟨g, 1, none⟩ = some (.bool bad) ∧ w.frozen? ⟨g, 0, none⟩ = false ∧ w.frozen? ⟨g, 1, none⟩ = false :=
  ⟨cell_of_row w g 0 _ _ _ h.blk, cell_of_row w g 1 _ _ _ h.blk, frozen_of_row w g 0 _ _ h.blk, frozen_of_row w g 1 _ _ h.blk⟩
theorem grown_set (w : World) (g i : Nat) (v : Value) : w.grownBy (w.setCell ⟨g, i, none⟩ v) (some g) :=
  ⟨rfl, rfl, rfl, by simp [World.setCell], fun k _ hk => heap_setCell_other _ _ _ _ (fun e => hk (by rw [e]))⟩
theorem UK.setBad (h : UK w g a n c bs bad) (b : Bool) : UK (w.setCell ⟨g, 1, none⟩ (.bool b)) g a n c bs b :=
  ⟨heap_setCell_same _ _ _ _ _ _ h.blk, h.bytes.keep (grown_set w g 1 _), h.cap⟩
theorem UK.setBytes {a' : Option Addr} {n' c' : Nat} {bs' : List Int} (h : UK w g a n c bs bad) (hb : UBO w g a' n' bs') (hc : n' ≤ c' ∧ c' ≤ maxLen ∧ n' ≤ 140737488355328) : UK (w.setCell ⟨g, 0, none⟩ (.slice a' n' c')) g a' n' c' bs' bad :=
  ⟨heap_setCell_same _ _ _ _ _ _ h.blk, hb.keep (grown_set w g 0 _), hc⟩
theorem UK.below {B : Nat} (h : UK w g a n c bs bad) (hb : Below B w w') (hB : w.heap.size ≤ B) : UK w' g a n c bs bad :=
  ⟨(hb.block g (by have := h.lt; omega)).trans h.blk, ⟨h.bytes.1, h.bytes.2.1, fun j hj => by
    obtain ⟨b, o, ha, h1, h2, h3⟩ := h.bytes.2.2 j hj
    exact ⟨b, o, ha, h1, by have := hb.size; omega, (hb.cell (p := ⟨b, o + j, none⟩) (by show b < B; omega)).trans h3⟩⟩, h.cap⟩
end

/-! ## What take tells -/
def valOf (l : List Int) : Int := l.foldl (fun s c => s * 256 + c) 0
/-- The number, what is left, whether it is spoiled. -/
def takeOf (size : Nat) (bs : List Int) (bad : Bool) : Int × List Int × Bool :=
  if bad = true ∨ bs.length < size then (0, bs, true) else if 4611686018427387903 < valOf (bs.take size) then (0, bs.drop size, true) else (valOf (bs.take size), bs.drop size, false)

theorem valOf_snoc (l : List Int) (k : Nat) (h : k < l.length) : valOf (l.take (k + 1)) = valOf (l.take k) * 256 + l[k]?.getD 0 := by
  rw [List.take_succ_eq_append_getElem h, List.getElem?_eq_getElem h]
  unfold valOf; rw [List.foldl_append]; rfl
theorem valOf_range : ∀ (k : Nat) (l : List Int), okBytes l → k ≤ l.length → 0 ≤ valOf (l.take k) ∧ valOf (l.take k) < 256 ^ k
  | 0, _, _, _ => by simp [valOf]
  | k + 1, l, h, hk => by
    have ih := valOf_range k l h (by omega)
    have hc := h.get k
    rw [valOf_snoc l k (by omega), Int.pow_succ]
    omega

theorem pow_le7 (k : Nat) (h : k ≤ 7) : (256 : Int) ^ k ≤ 72057594037927936 := by
  obtain rfl | rfl | rfl | rfl | rfl | rfl | rfl | rfl : k = 0 ∨ k = 1 ∨ k = 2 ∨ k = 3 ∨ k = 4 ∨ k = 5 ∨ k = 6 ∨ k = 7 := by omega
  all_goals decide
theorem pow_le8 (k : Nat) (h : k ≤ 8) : (256 : Int) ^ k ≤ 18446744073709551616 := by
  obtain rfl | rfl | rfl | rfl | rfl | rfl | rfl | rfl | rfl : k = 0 ∨ k = 1 ∨ k = 2 ∨ k = 3 ∨ k = 4 ∨ k = 5 ∨ k = 6 ∨ k = 7 ∨ k = 8 := by omega
  all_goals decide
theorem grown_two (w : World) (g i j : Nat) (v u : Value) : w.grownBy ((w.setCell ⟨g, i, none⟩ v).setCell ⟨g, j, none⟩ u) (some g) :=
  ⟨rfl, rfl, rfl, by simp [World.setCell], fun k _ hk => by rw [heap_setCell_other _ _ _ _ (fun e => hk (by rw [e])), heap_setCell_other _ _ _ _ (fun e => hk (by rw [e]))]⟩
theorem or_step {V x : Int} (h0 : 0 ≤ V) (h1 : V < 72057594037927936) (h2 : 0 ≤ x) (h3 : x < 256) : bits .or .u64 (V * 256) x = V * 256 + x := by
  rw [u64_or _ _ (by omega) (by omega) h2 (by omega), nat_join 8 _ _ (by omega) (by omega)]
  omega

set_option maxRecDepth 20000 in
set_option maxHeartbeats 1000000 in
theorem take_any (size : Nat) (hsz : size = 1 ∨ size = 2 ∨ size = 4 ∨ size = 8) (g : Nat) (a : Option Addr) (n c : Nat) (bs : List Int) (bad : Bool) (w : World) (hu : UK w g a n c bs bad) :
    Calls Try.prog 81 #[.pointer (some ⟨g, 0, none⟩), .int .i64 size] w fun e w' => e = .returned (.int .i64 (takeOf size bs bad).1) ∧
      (∃ a' n' c', UK w' g a' n' c' (takeOf size bs bad).2.1 (takeOf size bs bad).2.2) ∧ w.grownBy w' (some g) := by
  have hl := hu.bytes.1
  obtain ⟨hc1, hc2, hc3⟩ := hu.cap
  obtain ⟨c0, c1, f0, f1⟩ := hu.facts
  have hs8 : size ≤ 8 := by omega
  have hs1 : 1 ≤ size := by omega
  clear hsz
  cases bad with
  | true =>
    have e1 : takeOf size bs true = (0, bs, true) := by unfold takeOf; rw [if_pos (.inl rfl)]
    rw [e1]
    have HU := mkHid (hu.setBad true)
    clear e1 hl hu
    go_enter Try.func81, Try.ntmps81
    go_wp2_with fail
    go_ret
    exact ⟨rfl, ⟨a, n, c, HU.out⟩, grown_set _ _ _ _⟩
  | false =>
    by_cases hlen : n < size
    · have e1 : takeOf size bs false = (0, bs, true) := by unfold takeOf; rw [if_pos (.inr (by omega))]
      rw [e1]
      have HU := mkHid (hu.setBad true)
      clear e1 hl hu
      go_enter Try.func81, Try.ntmps81
      go_wp2_with fail
      go_ret
      exact ⟨rfl, ⟨a, n, c, HU.out⟩, grown_set _ _ _ _⟩
    · obtain ⟨b, o, rfl, hbg, hblt, _⟩ := hu.bytes.2.2 0 (by omega)
      have HL := mkHid hl
      have HU := mkHid hu
      clear hl hu
      go_enter Try.func81, Try.ntmps81
      go_wp2_with fail
      go_loop [5, 31] (fun s i => ∃ k : Nat, k ≤ size ∧ i = .int .i64 k ∧ s = .int .u64 (valOf (bs.take k))) (fun _ i => size - (intOf i).toNat)
      case atStart => exact ⟨0, Nat.zero_le _, rfl, rfl⟩
      case round =>
        obtain ⟨k, hk, rfl, rfl⟩ := hrel
        by_cases hlt : k < size
        · obtain ⟨b', o', hh, _, _, hcell⟩ := HU.out.bytes.2.2 k (by omega)
          injection hh with hh
          injection hh with e1 e2
          subst e1
          subst e2
          have hcr := HU.out.bytes.2.1.get k
          have hv := valOf_range k bs HU.out.bytes.2.1 (by rw [HL.out]; omega)
          have hv2 : valOf (bs.take k) < 72057594037927936 := by
            have hp := pow_le7 k (by omega)
            omega
          have HV := mkHid (valOf_snoc bs k (by rw [HL.out]; omega))
          obtain ⟨hv0, hv1⟩ := hv
          obtain ⟨hcr0, hcr1⟩ := hcr
          clear hv1
          generalize valOf (bs.take k) = V at *
          generalize bs[k]?.getD 0 = x at *
          go_wp2_with fail
          go_round
          case rel => exact ⟨k + 1, by omega, by go_num, by rw [HV.out, or_step hv0 hv2 hcr0 hcr1]⟩
          case measure => simp [intOf]; omega
        · obtain rfl : k = size := by omega
          have hv := valOf_range k bs HU.out.bytes.2.1 (by rw [HL.out]; omega)
          obtain ⟨hv0, hv1⟩ := hv
          have hmax : valOf (bs.take k) ≤ 18446744073709551615 := by
            have hp := pow_le8 k (by omega)
            omega
          have HMAX := mkHid hmax
          clear hv1 hmax
          generalize hVE : valOf (bs.take k) = V at *
          have HVE := mkHid hVE
          clear hVE
          by_cases hcs : c = k
          · have hbo : UBO w g (some ⟨b, o, none⟩) (n - k) (bs.drop k) := by
              have h0 : n - k = 0 := by omega
              rw [h0]
              exact ⟨by rw [List.length_drop, HL.out]; omega, fun x hx => HU.out.bytes.2.1 x (List.mem_of_mem_drop hx), fun j hj => absurd hj (by omega)⟩
            have HBO := mkHid hbo
            clear hbo
            by_cases hmost : 4611686018427387903 < V
            · have e1 : takeOf k bs false = (0, bs.drop k, true) := by unfold takeOf; rw [if_neg (by rintro (h | h); cases h; rw [HL.out] at h; omega), HVE.out, if_pos hmost]
              have HE := mkHid e1
              have HU2 := mkHid ((HU.out.setBytes (c' := 0) HBO.out ⟨by omega, by omega, by omega⟩).setBad true)
              clear e1
              go_wp2_with fail
              go_ret
              rw [HE.out]
              exact ⟨rfl, ⟨_, _, _, HU2.out⟩, grown_two _ _ _ _ _ _⟩
            · have e1 : takeOf k bs false = (V, bs.drop k, false) := by unfold takeOf; rw [if_neg (by rintro (h | h); cases h; rw [HL.out] at h; omega), HVE.out, if_neg hmost]
              have HE := mkHid e1
              have HU2 := mkHid (HU.out.setBytes (c' := 0) HBO.out ⟨by omega, by omega, by omega⟩)
              clear e1
              go_wp2_with fail
              go_ret
              rw [HE.out]
              exact ⟨rfl, ⟨_, _, _, HU2.out⟩, grown_set _ _ _ _⟩

          · have HBO := mkHid (HU.out.bytes.drop k (by omega))
            by_cases hmost : 4611686018427387903 < V
            · have e1 : takeOf k bs false = (0, bs.drop k, true) := by unfold takeOf; rw [if_neg (by rintro (h | h); cases h; rw [HL.out] at h; omega), HVE.out, if_pos hmost]
              have HE := mkHid e1
              have HU2 := mkHid ((HU.out.setBytes (c' := c - k) HBO.out ⟨by omega, by omega, by omega⟩).setBad true)
              clear e1
              go_wp2_with fail
              go_ret
              rw [HE.out]
              exact ⟨rfl, ⟨_, _, _, HU2.out⟩, grown_two _ _ _ _ _ _⟩
            · have e1 : takeOf k bs false = (V, bs.drop k, false) := by unfold takeOf; rw [if_neg (by rintro (h | h); cases h; rw [HL.out] at h; omega), HVE.out, if_neg hmost]
              have HE := mkHid e1
              have HU2 := mkHid (HU.out.setBytes (c' := c - k) HBO.out ⟨by omega, by omega, by omega⟩)
              clear e1
              go_wp2_with fail
              go_ret
              rw [HE.out]
              exact ⟨rfl, ⟨_, _, _, HU2.out⟩, grown_set _ _ _ _⟩

end Go.Proofs.Ytbgfccfhiocomaa
