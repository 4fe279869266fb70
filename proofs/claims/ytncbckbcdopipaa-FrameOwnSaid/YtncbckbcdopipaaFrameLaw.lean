/- Plain laws on frames: a frame is read back; a frame in which one byte is another one is none. -/
import Derived.Test.YtncbckbcdopipaaFrameBody
namespace Go.Proofs.Ytncbckbcdopipaa
open Go.RowKit

theorem be32_len (n : Int) : (be32 n).length = 4 := rfl
theorem frame_len {k : Int} {l : List Int} (h : l.length ≤ 122) : (frameOf k l).length = 128 := by
  unfold frameOf; rw [List.length_append, frameHead_length h, be32_len]
theorem frame_take {k : Int} {l : List Int} (h : l.length ≤ 122) : (frameOf k l).take 124 = frameHead k l := by
  unfold frameOf; exact List.take_left' (frameHead_length h)
theorem frame_drop {k : Int} {l : List Int} (h : l.length ≤ 122) : (frameOf k l).drop 124 = be32 (crcSum (frameHead k l)) := by
  unfold frameOf; exact List.drop_left' (frameHead_length h)
theorem frame_0 (k : Int) (l : List Int) : (frameOf k l)[0]?.getD 0 = k := rfl
theorem frame_1 (k : Int) (l : List Int) : (frameOf k l)[1]?.getD 0 = (l.length : Int) := rfl
theorem frame_body {k : Int} {l : List Int} (h : l.length ≤ 122) : bodyOf (frameOf k l) = some l := by
  unfold bodyOf
  rw [frame_1, Int.toNat_natCast, frame_take h]
  have e1 : (frameHead k l).drop (2 + l.length) = List.replicate (122 - l.length) 0 := by
    unfold frameHead
    rw [Nat.add_comm, List.drop_succ_cons, List.drop_succ_cons, List.drop_left]
  have e2 : ((frameOf k l).take (2 + l.length)).drop 2 = l := by
    unfold frameOf frameHead
    rw [Nat.add_comm]
    simp only [List.cons_append, List.take_succ_cons, List.drop_succ_cons, List.drop_zero, List.append_assoc]
    exact List.take_left
  rw [e1, e2, if_neg]
  rintro (h1 | h1)
  · omega
  · rw [List.all_eq_false] at h1
    obtain ⟨x, hx, hn⟩ := h1
    have := (List.mem_replicate.1 hx).2
    subst this
    exact hn rfl

/-- THE LAW: a payload comes back from its frame. -/
theorem get_frame {k : Int} {l : List Int} (h : l.length ≤ 122) : getOf k (frameOf k l) = (0, l) :=
  getOf_some (frame_len h) (by rw [frame_drop h, frame_take h]) (frame_0 k l) (frame_body h)
/-- THE LAW: of another kind it is refused. -/
theorem get_other {k o : Int} {l : List Int} (h : l.length ≤ 122) (hne : o ≠ k) : getOf o (frameOf k l) = (13, []) :=
  getOf_kind (frame_len h) (by rw [frame_drop h, frame_take h]) (by rw [frame_0]; exact fun e => hne e.symm)

theorem be32_inj {m n : Int} (hm : 0 ≤ m ∧ m < 4294967296) (hn : 0 ≤ n ∧ n < 4294967296) (h : be32 m = be32 n) : m = n := by
  simp only [be32, List.cons.injEq, and_true] at h
  omega

/-- THE LAW: one byte turned, whichever: the sum is not right. -/
theorem flip_sum {k : Int} {l : List Int} {i : Nat} {y : Int} (hk : 0 ≤ k ∧ k < 256) (hl : okBytes l) (h : l.length ≤ 122) (hi : i < 128) (hy : 0 ≤ y ∧ y < 256) (hne : (frameOf k l)[i]?.getD 0 ≠ y) :
    ((frameOf k l).set i y).drop 124 ≠ be32 (crcSum (((frameOf k l).set i y).take 124)) := by
  have hok := frameHead_ok hk hl h
  have hlen := frameHead_length (k := k) h
  by_cases h124 : i < 124
  · rw [List.drop_set_of_lt h124, List.take_set, frame_drop h, frame_take h]
    have hne' : (frameHead k l)[i]?.getD 0 ≠ y := by
      intro e
      apply hne
      unfold frameOf
      rw [List.getElem?_append_left (by omega)]
      exact e
    obtain ⟨ho, hs⟩ := sum_set hok (by omega) hy hne'
    intro e
    have := be32_inj (crcSum_range hok) (crcSum_range ho) e
    rw [bne_iff_ne] at hs
    exact hs this.symm
  · rw [List.take_set_of_le (by omega), frame_take h]
    intro e
    have e1 := congrArg (fun z => z[i - 124]?.getD 0) e
    simp only [List.getElem?_drop] at e1
    rw [show 124 + (i - 124) = i by omega, List.getElem?_set_self (by rw [frame_len h]; exact hi), Option.getD_some] at e1
    apply hne
    rw [e1]
    unfold frameOf
    rw [List.getElem?_append_right (by omega), hlen]
theorem get_flip {k o : Int} {l : List Int} {i : Nat} {y : Int} (hk : 0 ≤ k ∧ k < 256) (hl : okBytes l) (h : l.length ≤ 122) (hi : i < 128) (hy : 0 ≤ y ∧ y < 256) (hne : (frameOf k l)[i]?.getD 0 ≠ y) :
    getOf o ((frameOf k l).set i y) = (12, []) :=
  getOf_sum (by rw [List.length_set, frame_len h]) (flip_sum hk hl h hi hy hne)

/-! ## Kind -/
/-- The kind of a sector that is whole. -/
def kindOf (l : List Int) : Int × Bool := if (getOf (l[0]?.getD 0) l).1 = 0 then (l[0]?.getD 0, true) else (0, false)

set_option maxRecDepth 20000 in
set_option maxHeartbeats 400000 in
theorem kind_any (a : Option Addr) (n c : Nat) (l : List Int) (w : World) (hx : BS w w.heap.size a n l) (hn : CapOk n c) :
    Calls Try.prog 26 #[.slice a n c] w fun e w' => e = .returned (.tuple #[.int .u8 (kindOf l).1, .bool (kindOf l).2]) ∧ Below w.heap.size w w' := by
  obtain ⟨hn1, hn2, hn3⟩ := hn
  have hl := hx.len
  by_cases h128 : n = 128
  · subst h128
    by_cases hs : l.drop 124 = be32 (crcSum (l.take 124))
    · obtain ⟨b, o, rfl, hbl, hc0, hy0, hy1⟩ := hx.at_ (j := 0) (by omega)
      rw [Nat.add_zero] at hc0
      have HC := mkHid (check_128 _ c l w hx ⟨hn1, hn2⟩)
      rw [if_pos hs] at HC
      cases hb : bodyOf l with
      | none =>
        have e1 : kindOf l = (0, false) := by unfold kindOf; rw [getOf_none hl hs rfl hb]; rfl
        rw [e1]
        have HB := mkHid hb
        clear e1 hs hl hb
        go_enter Try.func26, Try.ntmps26
        go_wp2_with fail
        refine HC.out.mono ?_
        rintro e w1 ⟨rfl, hb1⟩
        have hs1 := hb1.size
        have hx1 := (hx.below hb1).more hs1
        go_wp2_with (go_at_call 43; refine (body_none _ _ _ _ hx1 hn1 HB.out).mono ?_; rintro e w' ⟨rfl, rfl⟩)
        go_ret2
        exact ⟨rfl, hb1⟩
      | some p =>
        have e1 : kindOf l = (l[0]?.getD 0, true) := by unfold kindOf; rw [getOf_some hl hs rfl hb]; rfl
        rw [e1]
        have HB := mkHid hb
        clear e1 hs hl hb
        go_enter Try.func26, Try.ntmps26
        go_wp2_with fail
        refine HC.out.mono ?_
        rintro e w1 ⟨rfl, hb1⟩
        have hs1 := hb1.size
        have hx1 := (hx.below hb1).more hs1
        have hc1 : w1.cell? ⟨b, o, none⟩ = some (.int .u8 (l[0]?.getD 0)) := (hb1.cell (p := ⟨b, o, none⟩) hbl).trans hc0
        clear hc0
        go_wp2_with fail
        refine (body_some _ _ _ _ _ hx1 hn1 HB.out).mono ?_
        rintro e w2 ⟨A, n', c', rfl, hown, hb2⟩
        have hc2 : w2.cell? ⟨b, o, none⟩ = some (.int .u8 (l[0]?.getD 0)) := (hb2.cell (p := ⟨b, o, none⟩) (by show b < _; omega)).trans hc1
        clear hc1 hown
        go_wp2_with fail
        go_ret2
        exact ⟨rfl, hb1.trans (hb2.mono hs1)⟩
    · have e1 : kindOf l = (0, false) := by unfold kindOf; rw [getOf_sum hl hs]; rfl
      rw [e1]
      have HC := mkHid (check_128 _ c l w hx ⟨hn1, hn2⟩)
      rw [if_neg hs] at HC
      clear e1 hs hl hx
      go_enter Try.func26, Try.ntmps26
      go_wp2_with fail
      refine HC.out.mono ?_
      rintro e w1 ⟨rfl, hb1⟩
      go_wp2_with fail
      go_ret2
      exact ⟨rfl, hb1⟩
  · have e1 : kindOf l = (0, false) := by unfold kindOf; rw [getOf_size (by omega)]; rfl
    rw [e1]
    have HC := mkHid (check_size a n c w h128 hn3)
    clear e1 hl hx h128
    go_enter Try.func26, Try.ntmps26
    go_wp2_with fail
    refine HC.out.mono ?_
    rintro e w1 ⟨rfl, rfl⟩
    go_wp2_with fail
    go_ret2
    exact ⟨rfl, Below.refl _ _⟩

end Go.Proofs.Ytncbckbcdopipaa
