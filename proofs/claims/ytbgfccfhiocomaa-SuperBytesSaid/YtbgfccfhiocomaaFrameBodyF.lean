/- frame.body by contract: the closure that asks for a byte that is not 0, slices.IndexFunc and ContainsFunc over it. -/
import Derived.Test.YtbgfccfhiocomaaFrameGetF
namespace Go.Proofs.Ytbgfccfhiocomaa
open Go.RowKit

abbrev nzV : Value := .func (Fn.func 98) #[] #[]

set_option maxHeartbeats 400000 in
theorem nz_any (x : Int) (w : World) : Calls Try.prog 98 #[.int .u8 x] w fun e w' => e = .returned (.bool (x != 0)) ∧ w = w' := by
  go_enter Try.func98, Try.ntmps98
  go_wp2
  go_ret
  exact ⟨rfl, rfl⟩

theorem all_false {l : List Int} {k : Nat} (hk : k < l.length) (h : (l[k]?.getD 0 != 0) = true) : l.all (· == 0) = false := by
  rw [List.all_eq_false]
  refine ⟨l[k], List.getElem_mem _, ?_⟩
  rw [List.getElem?_eq_getElem hk] at h
  simpa using h
theorem all_succ {l : List Int} {k : Nat} (hk : k < l.length) (hz : (l.take k).all (· == 0) = true) (h : (l[k]?.getD 0 != 0) = false) : (l.take (k + 1)).all (· == 0) = true := by
  rw [List.take_succ_eq_append_getElem hk, List.all_append, hz]
  rw [List.getElem?_eq_getElem hk] at h
  simpa using h

set_option maxHeartbeats 400000 in
theorem nzIndex_any (a : Option Addr) (n c B : Nat) (l : List Int) (w : World) (hx : BS w B a n l) (hn : n ≤ 140737488355328) :
    Calls Try.prog 105 #[.slice a n c, nzV] w fun e w' => (∃ r : Int, e = .returned (.int .i64 r) ∧ decide (0 ≤ r) = !l.all (· == 0)) ∧ w = w' := by
  have HL := mkHid hx.len
  go_enter Try.func105, Try.ntmps105
  go_wp2_with fail
  go_loop [8] (fun i => ∃ k : Nat, k ≤ n ∧ i = .int .i64 k ∧ (l.take k).all (· == 0) = true) (fun i => n - (intOf i).toNat)
  case atStart => exact ⟨0, Nat.zero_le _, rfl, rfl⟩
  case round =>
    obtain ⟨k, hk, rfl, hz⟩ := hrel
    have HZ := mkHid hz
    clear hz
    by_cases hlt : k < n
    · obtain ⟨b, o, rfl, hb, hc, hx0, hx1⟩ := hx.at_ hlt
      go_wp2_with (go_at_call 98; refine (nz_any _ _).mono ?_; rintro e w' ⟨rfl, rfl⟩)
      · have hq : (l[k]?.getD 0 != 0) = true := by assumption
        go_ret
        exact ⟨⟨k, rfl, by rw [all_false (by rw [HL.out]; exact hlt) hq]; simp⟩, rfl⟩
      · have hq : (l[k]?.getD 0 != 0) = false := by assumption
        go_round
        case rel => exact ⟨k + 1, by omega, by go_num, all_succ (by rw [HL.out]; exact hlt) HZ.out hq⟩
        case measure => simp [intOf]; omega
    · go_wp2_with fail
      go_ret
      have hz := HZ.out
      rw [List.take_of_length_le (by rw [HL.out]; omega)] at hz
      exact ⟨⟨-1, rfl, by rw [hz]; rfl⟩, rfl⟩

set_option maxHeartbeats 400000 in
theorem nzContains_any (a : Option Addr) (n c B : Nat) (l : List Int) (w : World) (hx : BS w B a n l) (hn : n ≤ 140737488355328) :
    Calls Try.prog 97 #[.slice a n c, nzV] w fun e w' => e = .returned (.bool (!l.all (· == 0))) ∧ w = w' := by
  go_enter Try.func97, Try.ntmps97
  go_wp2_with (go_at_call 105; refine (nzIndex_any _ _ _ _ _ _ hx hn).mono ?_; rintro e w' ⟨⟨r, rfl, hr⟩, rfl⟩; have HR := mkHid hr; clear hr)
  go_ret
  exact ⟨ret_bool HR.out, rfl⟩

/-- What a frame's payload is: the error's number, or the payload. -/
def bodyOf (l : List Int) : Option (List Int) := if (122 : Int) < l[1]?.getD 0 ∨ ((l.take 124).drop (2 + (l[1]?.getD 0).toNat)).all (· == 0) = false then none else some ((l.take (2 + (l[1]?.getD 0).toNat)).drop 2)

set_option maxRecDepth 20000 in
set_option maxHeartbeats 400000 in
theorem body_none (a : Option Addr) (c : Nat) (l : List Int) (w : World) (hx : BS w w.heap.size a 128 l) (hc : 128 ≤ c) (hb : bodyOf l = none) :
    Calls Try.prog 80 #[.slice a 128 c] w fun e w' => e = .returned (.tuple #[.slice none 0 0, .iface 78 (.int .i64 14)]) ∧ w = w' := by
  obtain ⟨b, o, rfl, hbl, hc1, hy0, hy1⟩ := hx.at_ (j := 1) (by omega)
  have HB := mkHid hb
  clear hb
  by_cases hbig : (122 : Int) < l[1]?.getD 0
  · go_enter Try.func80, Try.ntmps80
    go_wp2_with fail
    go_ret2
    exact ⟨rfl, rfl⟩
  · obtain ⟨m, hm⟩ := Int.eq_ofNat_of_zero_le hy0
    have hall : ((l.take 124).drop (2 + m)).all (· == 0) = false := by
      have h := HB.out
      unfold bodyOf at h
      rw [hm, Int.toNat_natCast] at h
      split at h
      · rename_i h1
        rcases h1 with h1 | h1
        · omega
        · exact h1
      · cases h
    have hm2 : m ≤ 122 := by omega
    rw [hm] at hc1
    clear hy0 hy1 hbig hm HB
    have ht := hx.cut (2 + m) 124 (by omega) (by omega)
    have HT := mkHid ht
    have hne : ¬ c = 2 + m := by omega
    clear ht hx
    go_enter Try.func80, Try.ntmps80
    go_wp2_with (go_at_call 97; refine (nzContains_any _ _ _ _ _ _ HT.out (by omega)).mono ?_; rintro e w' ⟨rfl, rfl⟩; rw [hall])
    go_ret2
    exact ⟨rfl, rfl⟩

set_option maxRecDepth 20000 in
set_option maxHeartbeats 400000 in
theorem body_some (a : Option Addr) (c : Nat) (l p : List Int) (w : World) (hx : BS w w.heap.size a 128 l) (hc : 128 ≤ c) (hb : bodyOf l = some p) :
    Calls Try.prog 80 #[.slice a 128 c] w fun e w' => ∃ A n' c', e = .returned (.tuple #[.slice A n' c', .nilIface]) ∧ w'.ownsRow w.heap.size 5 1 (.slice A n' c') n' (p.map u8) ∧ Below w.heap.size w w' := by
  obtain ⟨b, o, rfl, hbl, hc1, hy0, hy1⟩ := hx.at_ (j := 1) (by omega)
  obtain ⟨m, hm⟩ := Int.eq_ofNat_of_zero_le hy0
  have hp : m ≤ 122 ∧ ((l.take 124).drop (2 + m)).all (· == 0) = true ∧ p = (l.take (2 + m)).drop 2 := by
    have h := hb
    unfold bodyOf at h
    rw [hm, Int.toNat_natCast] at h
    split at h
    · cases h
    · rename_i h1
      injection h with h
      refine ⟨by omega, ?_, h.symm⟩
      cases hh : ((l.take 124).drop (2 + m)).all (· == 0) with
      | true => rfl
      | false => exact absurd (.inr hh) h1
  obtain ⟨hm2, hall, rfl⟩ := hp
  rw [hm] at hc1
  clear hy0 hy1 hm hb
  have ht := hx.cut (2 + m) 124 (by omega) (by omega)
  have HT := mkHid ht
  have ht2 := hx.cut 2 (2 + m) (by omega) (by omega)
  rw [show 2 + m - 2 = m by omega] at ht2
  have HT2 := mkHid ht2
  have hne : ¬ c = 2 + m := by omega
  have hne2 : ¬ c = 2 := by omega
  clear ht ht2 hx
  go_enter Try.func80, Try.ntmps80
  go_wp2_with (first
    | (go_at_call 97; refine (nzContains_any _ _ _ _ _ _ HT.out (by omega)).mono ?_; rintro e w' ⟨rfl, rfl⟩; rw [hall])
    | (go_at_call 69; refine (clone_any _ _ _ _ _ HT2.out (by omega)).mono ?_; rintro e w' ⟨A, n', c', rfl, hown, hbel⟩))
  go_ret2
  exact ⟨A, n', c', rfl, hown, hbel⟩

/-! ## Get and Kind -/
/-- What a sector with whichever kind tells: the error's number (0: none), the payload. -/
def getOf (k : Int) (l : List Int) : Int × List Int :=
  if l.length ≠ 128 then (11, []) else if l.drop 124 ≠ be32 (crcSum (l.take 124)) then (12, []) else if l[0]?.getD 0 ≠ k then (13, []) else match bodyOf l with
  | none => (14, [])
  | some p => (0, p)

theorem getOf_size {k : Int} {l : List Int} (h : l.length ≠ 128) : getOf k l = (11, []) := by unfold getOf; rw [if_pos h]
theorem getOf_sum {k : Int} {l : List Int} (h : l.length = 128) (hs : l.drop 124 ≠ be32 (crcSum (l.take 124))) : getOf k l = (12, []) := by unfold getOf; rw [if_neg (fun q => q h), if_pos hs]
theorem getOf_kind {k : Int} {l : List Int} (h : l.length = 128) (hs : l.drop 124 = be32 (crcSum (l.take 124))) (hk : l[0]?.getD 0 ≠ k) : getOf k l = (13, []) := by unfold getOf; rw [if_neg (fun q => q h), if_neg (fun q => q hs), if_pos hk]
theorem getOf_none {k : Int} {l : List Int} (h : l.length = 128) (hs : l.drop 124 = be32 (crcSum (l.take 124))) (hk : l[0]?.getD 0 = k) (hb : bodyOf l = none) : getOf k l = (14, []) := by unfold getOf; rw [if_neg (fun q => q h), if_neg (fun q => q hs), if_neg (fun q => q hk), hb]
theorem getOf_some {k : Int} {l p : List Int} (h : l.length = 128) (hs : l.drop 124 = be32 (crcSum (l.take 124))) (hk : l[0]?.getD 0 = k) (hb : bodyOf l = some p) : getOf k l = (0, p) := by unfold getOf; rw [if_neg (fun q => q h), if_neg (fun q => q hs), if_neg (fun q => q hk), hb]

set_option maxRecDepth 20000 in
set_option maxHeartbeats 400000 in
theorem get_err (k : Int) (a : Option Addr) (n c : Nat) (l : List Int) (w : World) (hx : BS w w.heap.size a n l) (hn : CapOk n c) (he : (getOf k l).1 ≠ 0) :
    Calls Try.prog 45 #[.int .u8 k, .slice a n c] w fun e w' => e = .returned (.tuple #[.slice none 0 0, .iface 78 (.int .i64 (getOf k l).1)]) ∧ Below w.heap.size w w' := by
  obtain ⟨hn1, hn2, hn3⟩ := hn
  have hl := hx.len
  by_cases h128 : n = 128
  · subst h128
    by_cases hs : l.drop 124 = be32 (crcSum (l.take 124))
    · obtain ⟨b, o, rfl, hbl, hc0, hy0, hy1⟩ := hx.at_ (j := 0) (by omega)
      rw [Nat.add_zero] at hc0
      by_cases hk : l[0]?.getD 0 = k
      · cases hb : bodyOf l with
        | some p => exact absurd (by rw [getOf_some hl hs hk hb]) he
        | none =>
          have e1 : (getOf k l).1 = 14 := by rw [getOf_none hl hs hk hb]
          rw [e1]
          have HC := mkHid (check_128 _ c l w hx ⟨hn1, hn2⟩)
          rw [if_pos hs] at HC
          have hkk : (l[0]?.getD 0 != k) = false := by simp [hk]
          have HL := mkHid hl
          have HB := mkHid hb
          clear he e1 hs hk hl hb
          go_enter Try.func45, Try.ntmps45
          go_wp2_with fail
          refine HC.out.mono ?_
          rintro e w1 ⟨rfl, hb1⟩
          have hs1 := hb1.size
          have hx1 := (hx.below hb1).more hs1
          have hc1 : w1.cell? ⟨b, o, none⟩ = some (.int .u8 (l[0]?.getD 0)) := (hb1.cell (p := ⟨b, o, none⟩) hbl).trans hc0
          clear hc0
          go_wp2_with (go_at_call 80; refine (body_none _ _ _ _ hx1 hn1 HB.out).mono ?_; rintro e w' ⟨rfl, rfl⟩)
          go_ret2
          exact ⟨rfl, hb1⟩
      · have e1 : (getOf k l).1 = 13 := by rw [getOf_kind hl hs hk]
        rw [e1]
        have HC := mkHid (check_128 _ c l w hx ⟨hn1, hn2⟩)
        rw [if_pos hs] at HC
        have hkk : (l[0]?.getD 0 != k) = true := by simp [hk]
        have HL := mkHid hl
        clear he e1 hs hk hl
        go_enter Try.func45, Try.ntmps45
        go_wp2_with fail
        refine HC.out.mono ?_
        rintro e w1 ⟨rfl, hb1⟩
        have hc1 : w1.cell? ⟨b, o, none⟩ = some (.int .u8 (l[0]?.getD 0)) := (hb1.cell (p := ⟨b, o, none⟩) hbl).trans hc0
        clear hc0
        go_wp2_with fail
        go_ret2
        exact ⟨rfl, hb1⟩
    · have e1 : (getOf k l).1 = 12 := by rw [getOf_sum hl hs]
      rw [e1]
      have HC := mkHid (check_128 _ c l w hx ⟨hn1, hn2⟩)
      rw [if_neg hs] at HC
      clear he e1 hs hl hx
      go_enter Try.func45, Try.ntmps45
      go_wp2_with fail
      refine HC.out.mono ?_
      rintro e w1 ⟨rfl, hb1⟩
      go_wp2_with fail
      go_ret2
      exact ⟨rfl, hb1⟩
  · have e1 : (getOf k l).1 = 11 := by rw [getOf_size (by omega)]
    rw [e1]
    have HC := mkHid (check_size a n c w h128 hn3)
    clear he e1 hl hx h128
    go_enter Try.func45, Try.ntmps45
    go_wp2_with fail
    refine HC.out.mono ?_
    rintro e w1 ⟨rfl, rfl⟩
    go_wp2_with fail
    go_ret2
    exact ⟨rfl, Below.refl _ _⟩

set_option maxRecDepth 20000 in
set_option maxHeartbeats 400000 in
theorem get_ok (k : Int) (a : Option Addr) (n c : Nat) (l : List Int) (w : World) (hx : BS w w.heap.size a n l) (hn : CapOk n c) (he : (getOf k l).1 = 0) :
    Calls Try.prog 45 #[.int .u8 k, .slice a n c] w fun e w' => ∃ A n' c', e = .returned (.tuple #[.slice A n' c', .nilIface]) ∧ w'.ownsRow w.heap.size 5 1 (.slice A n' c') n' ((getOf k l).2.map u8) ∧ Below w.heap.size w w' := by
  obtain ⟨hn1, hn2, hn3⟩ := hn
  have hl := hx.len
  have key : ∃ p, n = 128 ∧ l.drop 124 = be32 (crcSum (l.take 124)) ∧ l[0]?.getD 0 = k ∧ bodyOf l = some p ∧ (getOf k l).2 = p := by
    by_cases h128 : n = 128
    · by_cases hs : l.drop 124 = be32 (crcSum (l.take 124))
      · by_cases hk : l[0]?.getD 0 = k
        · cases hb : bodyOf l with
          | some p => exact ⟨p, h128, hs, hk, rfl, by rw [getOf_some (by omega) hs hk hb]⟩
          | none => rw [getOf_none (by omega) hs hk hb] at he; exact absurd he (by decide)
        · rw [getOf_kind (by omega) hs hk] at he; exact absurd he (by decide)
      · rw [getOf_sum (by omega) hs] at he; exact absurd he (by decide)
    · rw [getOf_size (by omega)] at he; exact absurd he (by decide)
  obtain ⟨p, h128, hs, hk, hb, hp⟩ := key
  subst h128
  rw [hp]
  obtain ⟨b, o, rfl, hbl, hc0, hy0, hy1⟩ := hx.at_ (j := 0) (by omega)
  rw [Nat.add_zero] at hc0
  have HC := mkHid (check_128 _ c l w hx ⟨hn1, hn2⟩)
  rw [if_pos hs] at HC
  have hkk : (l[0]?.getD 0 != k) = false := by simp [hk]
  have HB := mkHid hb
  clear he hs hk hl hb hp
  go_enter Try.func45, Try.ntmps45
  go_wp2_with fail
  refine HC.out.mono ?_
  rintro e w1 ⟨rfl, hb1⟩
  have hs1 := hb1.size
  have hx1 := (hx.below hb1).more hs1
  have hc1 : w1.cell? ⟨b, o, none⟩ = some (.int .u8 (l[0]?.getD 0)) := (hb1.cell (p := ⟨b, o, none⟩) hbl).trans hc0
  clear hc0
  go_wp2_with (go_at_call 80; refine (body_some _ _ _ _ _ hx1 hn1 HB.out).mono ?_; rintro e w2 ⟨A, n', c', rfl, hown, hb2⟩)
  go_ret2
  exact ⟨A, n', c', rfl, own_weaken hown hs1, hb1.trans (hb2.mono hs1)⟩

end Go.Proofs.Ytbgfccfhiocomaa
