/- frame.Packer's Byte, Short, Word, Long and Bytes, portageref02.Fits by contract. -/
import Derived.Test.YtbgfccfhiocomaaPacksKG
import Derived.Test.YtbgfccfhiocomaaUnpack2G
namespace Go.Proofs.Ytbgfccfhiocomaa
open Go.RowKit





set_option maxRecDepth 20000 in
set_option maxHeartbeats 400000 in
theorem bytes_bad (g base : Nat) (A : Option Addr) (n C : Nat) (bs : List Int) (w : World) (hp : PK w g base A n C bs true) :
    Calls Try.prog 34 #[.pointer (some ⟨g, 0, none⟩)] w fun e w' => e = .returned (.tuple #[.slice none 0 0, codeV 20]) ∧ w = w' := by
  obtain ⟨c0, c1, f0, f1⟩ := hp.facts
  clear hp
  go_enter Try.func34, Try.ntmps34
  go_wp2_with fail
  go_ret2
  exact ⟨rfl, rfl⟩

set_option maxRecDepth 20000 in
set_option maxHeartbeats 400000 in
theorem bytes_ok_any (g base : Nat) (A : Option Addr) (n C : Nat) (bs : List Int) (w : World) (hp : PK w g base A n C bs false) (hn : n ≤ 1000000000000) :
    Calls Try.prog 34 #[.pointer (some ⟨g, 0, none⟩)] w fun e w' => ∃ A' n' C', e = .returned (.tuple #[.slice A' n' C', .nilIface]) ∧ w'.ownsRow w.heap.size 5 1 (.slice A' n' C') n' (bs.map u8) ∧ Below w.heap.size w w' := by
  obtain ⟨c0, c1, f0, f1⟩ := hp.facts
  have hbs : BS w w.heap.size A n bs := ⟨SL.of_own hp.own, hp.ok⟩
  clear hp
  go_enter Try.func34, Try.ntmps34
  go_wp2_with fail
  refine (clone_any A n C bs w hbs (by omega)).mono ?_
  rintro e w1 ⟨A', n', C', rfl, hown, hb⟩
  have HO := mkHid hown
  have HB := mkHid hb
  clear hown hb
  go_wp2_with fail
  go_ret2
  exact ⟨A', n', C', rfl, HO.out, HB.out⟩



/-! ## What was packed comes back -/
theorem val_nb (x : Int) (hx : 0 ≤ x) : ∀ (m : Nat) (s : Int), (nb m x).foldl (fun s c => s * 256 + c) s = s * 256 ^ m + x % 256 ^ m
  | 0, s => by simp [nb]
  | m + 1, s => by
    have hd := div_step x m hx
    rw [nb, List.foldl_cons, val_nb x hx m, Int.emod_def x (256 ^ (m + 1)), Int.emod_def x (256 ^ m), Int.emod_def (x / 256 ^ m) 256, ← hd, Int.pow_succ]
    generalize (256 : Int) ^ m = P
    generalize x / P = Q
    generalize Q / 256 = R
    grind
theorem fits_lt {size : Nat} (hsz : size = 1 ∨ size = 2 ∨ size = 4 ∨ size = 8) {x : Int} (h : fits size x = true) : 0 ≤ x ∧ x < 256 ^ size ∧ x ≤ 4611686018427387903 := by
  unfold fits at h
  split at h
  · rename_i h8
    subst h8
    have := of_decide_eq_true h
    rw [show (256 : Int) ^ 8 = 18446744073709551616 from rfl]
    omega
  · have h2 := of_decide_eq_true h
    refine ⟨h2.1, h2.2, ?_⟩
    have hp : (256 : Int) ^ size ≤ 4294967296 := by
      obtain rfl | rfl | rfl : size = 1 ∨ size = 2 ∨ size = 4 := by omega
      all_goals decide
    omega
theorem take_nb {size : Nat} (hsz : size = 1 ∨ size = 2 ∨ size = 4 ∨ size = 8) {x : Int} (h : fits size x = true) (r : List Int) : takeOf size (nb size x ++ r) false = (x, r, false) := by
  obtain ⟨h0, h1, h2⟩ := fits_lt hsz h
  have hl := nb_len x size
  have ht : (nb size x ++ r).take size = nb size x := by rw [List.take_append_of_le_length (by omega), List.take_of_length_le (by omega)]
  have hv : valOf (nb size x) = x := by
    unfold valOf
    rw [val_nb x h0 size 0, Int.emod_eq_of_lt h0 h1]
    omega
  unfold takeOf
  rw [if_neg (by rintro (h | h); cases h; rw [List.length_append] at h; omega), ht, hv, if_neg (by omega), List.drop_append_of_le_length (by omega), List.drop_of_length_le (by omega)]
  rfl

end Go.Proofs.Ytbgfccfhiocomaa
