/- frame.Packer's Byte, Short, Word, Long and Bytes, portageref02.Fits by contract. -/
import Derived.Test.YtncbckbcdopipaaPacker8
import Derived.Test.YtncbckbcdopipaaReads
namespace Go.Proofs.Ytncbckbcdopipaa
open Go.RowKit

set_option maxRecDepth 20000 in
set_option maxHeartbeats 400000 in
theorem pByte_any (g base : Nat) (A : Option Addr) (n C : Nat) (bs : List Int) (bad : Bool) (k m cn : Nat) (l : List Int) (fr : Nat × Nat) (w : World) (hp : PK w g base A n C bs bad) (hnum : w.heap[k]? = some (.cells (l.map i64v).toArray 3 fr)) (hl : l.length = m) (hI : ∀ x ∈ l, I64 x) (hsz : n + 8 * m ≤ 1000000000000) :
    Calls Try.prog 28 #[.pointer (some ⟨g, 0, none⟩), .slice (some ⟨k, 0, none⟩) m cn] w fun e w' => e = .returned (.pointer (some ⟨g, 0, none⟩)) ∧ (∃ A' n' C', PK w' g base A' n' C' (bs ++ packs 1 l) (bad || !l.all (fits 1))) ∧ Below base w w' := by
  go_enter Try.func28, Try.ntmps28
  go_wp2_with fail
  refine (put1_any g base A n C bs bad k m cn l fr w hp hnum hl hI hsz).mono ?_
  rintro e w1 ⟨rfl, hp1, hb1⟩
  have HP := mkHid hp1
  have HB := mkHid hb1
  clear hp1 hb1
  go_wp2_with fail
  go_ret
  exact ⟨rfl, HP.out, HB.out⟩

set_option maxRecDepth 20000 in
set_option maxHeartbeats 400000 in
theorem pShort_any (g base : Nat) (A : Option Addr) (n C : Nat) (bs : List Int) (bad : Bool) (k m cn : Nat) (l : List Int) (fr : Nat × Nat) (w : World) (hp : PK w g base A n C bs bad) (hnum : w.heap[k]? = some (.cells (l.map i64v).toArray 3 fr)) (hl : l.length = m) (hI : ∀ x ∈ l, I64 x) (hsz : n + 8 * m ≤ 1000000000000) :
    Calls Try.prog 36 #[.pointer (some ⟨g, 0, none⟩), .slice (some ⟨k, 0, none⟩) m cn] w fun e w' => e = .returned (.pointer (some ⟨g, 0, none⟩)) ∧ (∃ A' n' C', PK w' g base A' n' C' (bs ++ packs 2 l) (bad || !l.all (fits 2))) ∧ Below base w w' := by
  go_enter Try.func36, Try.ntmps36
  go_wp2_with fail
  refine (put2_any g base A n C bs bad k m cn l fr w hp hnum hl hI hsz).mono ?_
  rintro e w1 ⟨rfl, hp1, hb1⟩
  have HP := mkHid hp1
  have HB := mkHid hb1
  clear hp1 hb1
  go_wp2_with fail
  go_ret
  exact ⟨rfl, HP.out, HB.out⟩

set_option maxRecDepth 20000 in
set_option maxHeartbeats 400000 in
theorem pWord_any (g base : Nat) (A : Option Addr) (n C : Nat) (bs : List Int) (bad : Bool) (k m cn : Nat) (l : List Int) (fr : Nat × Nat) (w : World) (hp : PK w g base A n C bs bad) (hnum : w.heap[k]? = some (.cells (l.map i64v).toArray 3 fr)) (hl : l.length = m) (hI : ∀ x ∈ l, I64 x) (hsz : n + 8 * m ≤ 1000000000000) :
    Calls Try.prog 32 #[.pointer (some ⟨g, 0, none⟩), .slice (some ⟨k, 0, none⟩) m cn] w fun e w' => e = .returned (.pointer (some ⟨g, 0, none⟩)) ∧ (∃ A' n' C', PK w' g base A' n' C' (bs ++ packs 4 l) (bad || !l.all (fits 4))) ∧ Below base w w' := by
  go_enter Try.func32, Try.ntmps32
  go_wp2_with fail
  refine (put4_any g base A n C bs bad k m cn l fr w hp hnum hl hI hsz).mono ?_
  rintro e w1 ⟨rfl, hp1, hb1⟩
  have HP := mkHid hp1
  have HB := mkHid hb1
  clear hp1 hb1
  go_wp2_with fail
  go_ret
  exact ⟨rfl, HP.out, HB.out⟩

set_option maxRecDepth 20000 in
set_option maxHeartbeats 400000 in
theorem pLong_any (g base : Nat) (A : Option Addr) (n C : Nat) (bs : List Int) (bad : Bool) (k m cn : Nat) (l : List Int) (fr : Nat × Nat) (w : World) (hp : PK w g base A n C bs bad) (hnum : w.heap[k]? = some (.cells (l.map i64v).toArray 3 fr)) (hl : l.length = m) (hI : ∀ x ∈ l, I64 x) (hsz : n + 8 * m ≤ 1000000000000) :
    Calls Try.prog 31 #[.pointer (some ⟨g, 0, none⟩), .slice (some ⟨k, 0, none⟩) m cn] w fun e w' => e = .returned (.pointer (some ⟨g, 0, none⟩)) ∧ (∃ A' n' C', PK w' g base A' n' C' (bs ++ packs 8 l) (bad || !l.all (fits 8))) ∧ Below base w w' := by
  go_enter Try.func31, Try.ntmps31
  go_wp2_with fail
  refine (put8_any g base A n C bs bad k m cn l fr w hp hnum hl hI hsz).mono ?_
  rintro e w1 ⟨rfl, hp1, hb1⟩
  have HP := mkHid hp1
  have HB := mkHid hb1
  clear hp1 hb1
  go_wp2_with fail
  go_ret
  exact ⟨rfl, HP.out, HB.out⟩

set_option maxRecDepth 20000 in
set_option maxHeartbeats 400000 in
theorem bytes_bad (g base : Nat) (A : Option Addr) (n C : Nat) (bs : List Int) (w : World) (hp : PK w g base A n C bs true) :
    Calls Try.prog 29 #[.pointer (some ⟨g, 0, none⟩)] w fun e w' => e = .returned (.tuple #[.slice none 0 0, codeV 20]) ∧ w = w' := by
  obtain ⟨c0, c1, f0, f1⟩ := hp.facts
  clear hp
  go_enter Try.func29, Try.ntmps29
  go_wp2_with fail
  go_ret2
  exact ⟨rfl, rfl⟩

set_option maxRecDepth 20000 in
set_option maxHeartbeats 400000 in
theorem bytes_ok_any (g base : Nat) (A : Option Addr) (n C : Nat) (bs : List Int) (w : World) (hp : PK w g base A n C bs false) (hn : n ≤ 1000000000000) :
    Calls Try.prog 29 #[.pointer (some ⟨g, 0, none⟩)] w fun e w' => ∃ A' n' C', e = .returned (.tuple #[.slice A' n' C', .nilIface]) ∧ w'.ownsRow w.heap.size 5 1 (.slice A' n' C') n' (bs.map u8) ∧ Below w.heap.size w w' := by
  obtain ⟨c0, c1, f0, f1⟩ := hp.facts
  have hbs : BS w w.heap.size A n bs := ⟨SL.of_own hp.own, hp.ok⟩
  clear hp
  go_enter Try.func29, Try.ntmps29
  go_wp2_with fail
  refine (clone_any A n C bs w hbs (by omega)).mono ?_
  rintro e w1 ⟨A', n', C', rfl, hown, hb⟩
  have HO := mkHid hown
  have HB := mkHid hb
  clear hown hb
  go_wp2_with fail
  go_ret2
  exact ⟨A', n', C', rfl, HO.out, HB.out⟩

theorem fits_neg (size : Nat) {n : Int} (h : n < 0) : fits size n = false := by
  unfold fits
  split
  · exact decide_eq_false (fun h2 => by omega)
  · exact decide_eq_false (fun h2 => by omega)
theorem div_zero {n : Int} {k : Nat} (h : 0 ≤ n) : (n / 256 ^ k == 0) = decide (n < 256 ^ k) := by
  have hp : (0 : Int) < 256 ^ k := Int.pow_pos (by omega)
  by_cases hlt : n < 256 ^ k
  · rw [Int.ediv_eq_zero_of_lt h hlt]
    simp [hlt]
  · have : 1 ≤ n / 256 ^ k := (Int.le_ediv_iff_mul_le hp).2 (by omega)
    have h2 : (n / 256 ^ k == 0) = false := by simp; omega
    rw [h2]; simp [hlt]

set_option maxRecDepth 20000 in
set_option maxHeartbeats 400000 in
theorem rfits_any (n : Int) (size : Nat) (hsz : size = 1 ∨ size = 2 ∨ size = 4 ∨ size = 8) (w : World) (hn : I64 n) :
    Calls Try.prog 33 #[.int .i64 n, .int .i64 size] w fun e w' => e = .returned (.bool (fits size n)) ∧ w = w' := by
  obtain ⟨hn0, hn1⟩ := hn
  by_cases hneg : n < 0
  · rw [fits_neg size hneg]
    go_enter Try.func33, Try.ntmps33
    go_wp2_with fail
    go_ret
    exact ⟨rfl, rfl⟩
  have hs8 : size ≤ 8 := by omega
  by_cases h8 : size = 8 ∧ 4611686018427387903 < n
  · obtain ⟨rfl, hbig⟩ := h8
    rw [show fits 8 n = false from by unfold fits; rw [if_pos rfl]; exact decide_eq_false (fun h2 => by omega)]
    go_enter Try.func33, Try.ntmps33
    go_wp2_with fail
    go_ret
    exact ⟨rfl, rfl⟩
  have HF : Hid ((n / 256 ^ size == 0) = fits size n) := mkHid (by
    rw [div_zero (by omega)]
    unfold fits
    by_cases e8 : size = 8
    · rw [if_pos e8]
      subst e8
      rw [show (256 : Int) ^ 8 = 18446744073709551616 from rfl]
      rw [decide_eq_true (by omega), decide_eq_true (by omega)]
    · rw [if_neg e8]
      by_cases hlt : n < 256 ^ size
      · rw [decide_eq_true hlt, decide_eq_true ⟨by omega, hlt⟩]
      · rw [decide_eq_false hlt, decide_eq_false (fun h => hlt h.2)])
  rw [← HF.out]
  have H0 := mkHid (show 0 ≤ n by omega)
  have H1 := mkHid hn1
  by_cases e8 : size = 8
  · subst e8
    have hle : n ≤ 4611686018427387903 := by omega
    clear h8
    go_enter Try.func33, Try.ntmps33
    go_wp2_with fail
    go_loop [0, 5] (fun x i => ∃ (k : Nat) (N : Int), k ≤ 8 ∧ i = .int .i64 k ∧ x = .int .i64 N ∧ N = n / 256 ^ k) (fun _ i => 8 - (intOf i).toNat)
    case atStart => exact ⟨0, n, Nat.zero_le _, rfl, rfl, by simp⟩
    case round =>
      obtain ⟨k, N, hk, rfl, rfl, hN⟩ := hrel
      have hN0 : 0 ≤ N := by rw [hN]; exact div_nonneg n k H0.out
      have hN1 : N ≤ 9223372036854775807 := by rw [hN]; exact Int.le_trans (div_le n k H0.out) H1.out
      have HN := mkHid hN
      clear hN
      by_cases hlt : k < 8
      · go_wp2_with fail
        go_round
        case rel => exact ⟨k + 1, N / 256, by omega, by go_num, rfl, by rw [HN.out]; exact div_step n k H0.out⟩
        case measure => simp [intOf]; omega
      · obtain rfl : k = 8 := by omega
        go_wp2_with fail
        go_ret
        exact ⟨ret_bool (by rw [HN.out]; try rfl), rfl⟩
  · have e8' : ((size : Int) == 8) = false := by simp; omega
    clear h8
    go_enter Try.func33, Try.ntmps33
    go_wp2_with fail
    go_loop [0, 5] (fun x i => ∃ (k : Nat) (N : Int), k ≤ size ∧ i = .int .i64 k ∧ x = .int .i64 N ∧ N = n / 256 ^ k) (fun _ i => size - (intOf i).toNat)
    case atStart => exact ⟨0, n, Nat.zero_le _, rfl, rfl, by simp⟩
    case round =>
      obtain ⟨k, N, hk, rfl, rfl, hN⟩ := hrel
      have hN0 : 0 ≤ N := by rw [hN]; exact div_nonneg n k H0.out
      have hN1 : N ≤ 9223372036854775807 := by rw [hN]; exact Int.le_trans (div_le n k H0.out) H1.out
      have HN := mkHid hN
      clear hN
      by_cases hlt : k < size
      · go_wp2_with fail
        go_round
        case rel => exact ⟨k + 1, N / 256, by omega, by go_num, rfl, by rw [HN.out]; exact div_step n k H0.out⟩
        case measure => simp [intOf]; omega
      · obtain rfl : k = size := by omega
        go_wp2_with fail
        go_ret
        exact ⟨ret_bool (by rw [HN.out]; try rfl), rfl⟩

/-! ## What was packed comes back -/
theorem val_nb (x : Int) (hx : 0 ≤ x) : ∀ (m : Nat) (s : Int), (nb m x).foldl (fun s c => s * 256 + c) s = s * 256 ^ m + x % 256 ^ m
  | 0, s => by simp [nb]
  | m + 1, s => by
    have hd := div_step x m hx
    rw [nb, List.foldl_cons, val_nb x hx m, Int.emod_def x (256 ^ (m + 1)), Int.emod_def x (256 ^ m), Int.emod_def (x / 256 ^ m) 256, ← hd, Int.pow_succ]
    generalize (256 : Int) ^ m = P
    generalize x / P = Q
    generalize Q / 256 = R
    grind
theorem fits_lt {size : Nat} (hsz : size = 1 ∨ size = 2 ∨ size = 4 ∨ size = 8) {x : Int} (h : fits size x = true) : 0 ≤ x ∧ x < 256 ^ size ∧ x ≤ 4611686018427387903 := by
  unfold fits at h
  split at h
  · rename_i h8
    subst h8
    have := of_decide_eq_true h
    rw [show (256 : Int) ^ 8 = 18446744073709551616 from rfl]
    omega
  · have h2 := of_decide_eq_true h
    refine ⟨h2.1, h2.2, ?_⟩
    have hp : (256 : Int) ^ size ≤ 4294967296 := by
      obtain rfl | rfl | rfl : size = 1 ∨ size = 2 ∨ size = 4 := by omega
      all_goals decide
    omega
theorem take_nb {size : Nat} (hsz : size = 1 ∨ size = 2 ∨ size = 4 ∨ size = 8) {x : Int} (h : fits size x = true) (r : List Int) : takeOf size (nb size x ++ r) false = (x, r, false) := by
  obtain ⟨h0, h1, h2⟩ := fits_lt hsz h
  have hl := nb_len x size
  have ht : (nb size x ++ r).take size = nb size x := by rw [List.take_append_of_le_length (by omega), List.take_of_length_le (by omega)]
  have hv : valOf (nb size x) = x := by
    unfold valOf
    rw [val_nb x h0 size 0, Int.emod_eq_of_lt h0 h1]
    omega
  unfold takeOf
  rw [if_neg (by rintro (h | h); cases h; rw [List.length_append] at h; omega), ht, hv, if_neg (by omega), List.drop_append_of_le_length (by omega), List.drop_of_length_le (by omega)]
  rfl

end Go.Proofs.Ytncbckbcdopipaa
