/- portagelaw02.next and portageref02.Read by contract; what Read tells is what take tells. -/
import Derived.Test.YtbgfccfhiocomaaUnpack2G
namespace Go.Proofs.Ytbgfccfhiocomaa
open Go.RowKit




/-- What the document's Read tells. -/
def readOf (size : Nat) (l : List Int) : Int × Bool := if l.length < size ∨ size = 8 ∧ (63 : Int) < l[0]?.getD 0 then (0, false) else (valOf (l.take size), true)

theorem valOf_lead (l : List Int) (h : okBytes l) : ∀ k : Nat, k + 1 ≤ l.length → l[0]?.getD 0 * 256 ^ k ≤ valOf (l.take (k + 1)) ∧ valOf (l.take (k + 1)) < (l[0]?.getD 0 + 1) * 256 ^ k
  | 0, hk => by
    rw [valOf_snoc l 0 hk]
    have : valOf (l.take 0) = 0 := by simp [valOf]
    rw [this]
    simp only [Int.pow_zero]
    omega
  | k + 1, hk => by
    have ih := valOf_lead l h k (by omega)
    have hc := h.get (k + 1)
    rw [valOf_snoc l (k + 1) hk, Int.pow_succ, ← Int.mul_assoc, ← Int.mul_assoc]
    omega

/-- take tells what Read tells. -/
theorem take_read (size : Nat) (hsz : size = 1 ∨ size = 2 ∨ size = 4 ∨ size = 8) (l : List Int) (h : okBytes l) :
    (takeOf size l false).1 = (readOf size l).1 ∧ (takeOf size l false).2.2 = !(readOf size l).2 ∧ ((readOf size l).2 = true → (takeOf size l false).2.1 = l.drop size) := by
  unfold takeOf readOf
  by_cases hl : l.length < size
  · rw [if_pos (.inr hl), if_pos (.inl hl)]
    exact ⟨rfl, rfl, fun h => by cases h⟩
  · rw [if_neg (by rintro (h | h); cases h; omega)]
    have key : (4611686018427387903 < valOf (l.take size)) ↔ (size = 8 ∧ (63 : Int) < l[0]?.getD 0) := by
      have hr := valOf_range size l h (by omega)
      rcases hsz with rfl | rfl | rfl | rfl
      · rw [show (256 : Int) ^ 1 = 256 from rfl] at hr; omega
      · rw [show (256 : Int) ^ 2 = 65536 from rfl] at hr; omega
      · rw [show (256 : Int) ^ 4 = 4294967296 from rfl] at hr; omega
      · have hv := valOf_lead l h 7 (by omega)
        rw [show (256 : Int) ^ 7 = 72057594037927936 from rfl] at hv
        simp only [Nat.reduceAdd] at hv
        omega
    by_cases hk : 4611686018427387903 < valOf (l.take size)
    · rw [if_pos hk, if_pos (.inr (key.1 hk))]
      exact ⟨rfl, rfl, fun h => by cases h⟩
    · rw [if_neg hk, if_neg (by rintro (h | h); exact hl h; exact hk (key.2 h))]
      exact ⟨rfl, rfl, fun _ => rfl⟩

set_option maxRecDepth 20000 in
set_option maxHeartbeats 400000 in
theorem rread_any (size : Nat) (hsz : size = 1 ∨ size = 2 ∨ size = 4 ∨ size = 8) (a : Option Addr) (n c : Nat) (bs : List Int) (w : World) (hx : BS w w.heap.size a n bs) (hn : n ≤ 140737488355328) :
    Calls Try.prog 43 #[.slice a n c, .int .i64 size] w fun e w' => e = .returned (.tuple #[.int .i64 (readOf size bs).1, .bool (readOf size bs).2]) ∧ w = w' := by
  have hs1 : 1 ≤ size := by omega
  have hs8 : size ≤ 8 := by omega
  have HS := mkHid hsz
  have HL := mkHid hx.len
  clear hsz
  by_cases hlen : n < size
  · have e1 : readOf size bs = (0, false) := by unfold readOf; rw [if_pos (.inl (by rw [HL.out]; exact hlen))]
    rw [e1]
    clear e1
    go_enter Try.func43, Try.ntmps43
    go_wp2_with fail
    go_ret2
    exact ⟨rfl, rfl⟩
  obtain ⟨b, o, rfl, hbl, hc0, hy0, hy1⟩ := hx.at_ (j := 0) (by omega)
  rw [Nat.add_zero] at hc0
  have hn0 : 0 < n := by omega
  have HX := mkHid hx
  by_cases h8 : size = 8
  · subst h8
    by_cases hb : (63 : Int) < bs[0]?.getD 0
    · have e1 : readOf 8 bs = (0, false) := by unfold readOf; rw [if_pos (.inr ⟨rfl, hb⟩)]
      rw [e1]
      clear e1
      go_enter Try.func43, Try.ntmps43
      go_wp2_with fail
      go_ret2
      exact ⟨rfl, rfl⟩
    have e1 : readOf 8 bs = (valOf (bs.take 8), true) := by unfold readOf; rw [if_neg (by rintro (h | h); rw [HL.out] at h; omega; exact hb h.2)]
    rw [e1]
    clear e1
    have HBD : Hid (∀ k, k < 8 → valOf (bs.take k) ≤ 36028797018963967) := mkHid (by
      intro k hk
      rcases Nat.eq_zero_or_pos k with rfl | hk0
      · simp [valOf]
      · obtain ⟨j, rfl⟩ : ∃ j, k = j + 1 := ⟨k - 1, by omega⟩
        have hv := (valOf_lead bs hx.2 j (by rw [HL.out]; omega)).2
        have hp : (256 : Int) ^ j ≤ 281474976710656 := by
          obtain rfl | rfl | rfl | rfl | rfl | rfl | rfl : j = 0 ∨ j = 1 ∨ j = 2 ∨ j = 3 ∨ j = 4 ∨ j = 5 ∨ j = 6 := by omega
          all_goals decide
        have hm : (bs[0]?.getD 0 + 1) * (256 : Int) ^ j ≤ 64 * 281474976710656 := by
          refine Int.le_trans (Int.mul_le_mul_of_nonneg_left hp (by omega)) (Int.mul_le_mul_of_nonneg_right (by omega) (by decide))
        omega)
    clear hx
    go_enter Try.func43, Try.ntmps43
    go_wp2_with fail
    go_loop [6, 7] (fun s i => ∃ k : Nat, k ≤ 8 ∧ i = .int .i64 k ∧ s = .int .i64 (valOf (bs.take k))) (fun _ i => 8 - (intOf i).toNat)
    case atStart => exact ⟨0, Nat.zero_le _, rfl, rfl⟩
    case round =>
      obtain ⟨k, hk, rfl, rfl⟩ := hrel
      by_cases hlt : k < 8
      · obtain ⟨b', o', hh, _, hcell, hcr0, hcr1⟩ := HX.out.at_ (j := k) (by omega)
        injection hh with hh
        injection hh with e1 e2
        subst e1
        subst e2
        have hv0 : 0 ≤ valOf (bs.take k) := (valOf_range k bs HX.out.2 (by rw [HL.out]; omega)).1
        have hv2 := HBD.out k hlt
        have HV := mkHid (valOf_snoc bs k (by rw [HL.out]; omega))
        generalize valOf (bs.take k) = V at *
        generalize bs[k]?.getD 0 = x at *
        go_wp2_with fail
        go_round
        case rel => exact ⟨k + 1, by omega, by go_num, by rw [HV.out]⟩
        case measure => simp [intOf]; omega
      · obtain rfl : k = 8 := by omega
        go_wp2_with fail
        go_ret2
        exact ⟨rfl, rfl⟩
  have h8' : ((size : Int) == 8) = false := by simp; omega
  have e1 : readOf size bs = (valOf (bs.take size), true) := by unfold readOf; rw [if_neg (by rintro (h | h); rw [HL.out] at h; omega; exact h8 h.1)]
  rw [e1]
  clear e1
  have HBD : Hid (∀ k, k < size → valOf (bs.take k) ≤ 36028797018963967) := mkHid (by
    intro k hk
    have hv := (valOf_range k bs hx.2 (by rw [HL.out]; omega)).2
    have hk3 : k ≤ 3 := by have := HS.out; omega
    have hp : (256 : Int) ^ k ≤ 16777216 := by
      obtain rfl | rfl | rfl | rfl : k = 0 ∨ k = 1 ∨ k = 2 ∨ k = 3 := by omega
      all_goals decide
    omega)
  clear hx
  go_enter Try.func43, Try.ntmps43
  go_wp2_with fail
  go_loop [6, 7] (fun s i => ∃ k : Nat, k ≤ size ∧ i = .int .i64 k ∧ s = .int .i64 (valOf (bs.take k))) (fun _ i => size - (intOf i).toNat)
  case atStart => exact ⟨0, Nat.zero_le _, rfl, rfl⟩
  case round =>
    obtain ⟨k, hk, rfl, rfl⟩ := hrel
    by_cases hlt : k < size
    · obtain ⟨b', o', hh, _, hcell, hcr0, hcr1⟩ := HX.out.at_ (j := k) (by omega)
      injection hh with hh
      injection hh with e1 e2
      subst e1
      subst e2
      have hv0 : 0 ≤ valOf (bs.take k) := (valOf_range k bs HX.out.2 (by rw [HL.out]; omega)).1
      have hv2 := HBD.out k hlt
      have HV := mkHid (valOf_snoc bs k (by rw [HL.out]; omega))
      generalize valOf (bs.take k) = V at *
      generalize bs[k]?.getD 0 = x at *
      go_wp2_with fail
      go_round
      case rel => exact ⟨k + 1, by omega, by go_num, by rw [HV.out]⟩
      case measure => simp [intOf]; omega
    · obtain rfl : k = size := by omega
      go_wp2_with fail
      go_ret2
      exact ⟨rfl, rfl⟩

end Go.Proofs.Ytbgfccfhiocomaa
