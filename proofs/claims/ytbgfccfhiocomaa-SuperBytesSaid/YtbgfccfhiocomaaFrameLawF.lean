/- Plain laws on frames: a frame is read back; a frame in which one byte is another one is none. -/
import Derived.Test.YtbgfccfhiocomaaFrameBodyF
namespace Go.Proofs.Ytbgfccfhiocomaa
open Go.RowKit

theorem be32_len (n : Int) : (be32 n).length = 4 := rfl
theorem frame_len {k : Int} {l : List Int} (h : l.length ≤ 122) : (frameOf k l).length = 128 := by
  unfold frameOf; rw [List.length_append, frameHead_length h, be32_len]
theorem frame_take {k : Int} {l : List Int} (h : l.length ≤ 122) : (frameOf k l).take 124 = frameHead k l := by
  unfold frameOf; exact List.take_left' (frameHead_length h)
theorem frame_drop {k : Int} {l : List Int} (h : l.length ≤ 122) : (frameOf k l).drop 124 = be32 (crcSum (frameHead k l)) := by
  unfold frameOf; exact List.drop_left' (frameHead_length h)
theorem frame_0 (k : Int) (l : List Int) : (frameOf k l)[0]?.getD 0 = k := rfl
theorem frame_1 (k : Int) (l : List Int) : (frameOf k l)[1]?.getD 0 = (l.length : Int) := rfl
theorem frame_body {k : Int} {l : List Int} (h : l.length ≤ 122) : bodyOf (frameOf k l) = some l := by
  unfold bodyOf
  rw [frame_1, Int.toNat_natCast, frame_take h]
  have e1 : (frameHead k l).drop (2 + l.length) = List.replicate (122 - l.length) 0 := by
    unfold frameHead
    rw [Nat.add_comm, List.drop_succ_cons, List.drop_succ_cons, List.drop_left]
  have e2 : ((frameOf k l).take (2 + l.length)).drop 2 = l := by
    unfold frameOf frameHead
    rw [Nat.add_comm]
    simp only [List.cons_append, List.take_succ_cons, List.drop_succ_cons, List.drop_zero, List.append_assoc]
    exact List.take_left
  rw [e1, e2, if_neg]
  rintro (h1 | h1)
  · omega
  · rw [List.all_eq_false] at h1
    obtain ⟨x, hx, hn⟩ := h1
    have := (List.mem_replicate.1 hx).2
    subst this
    exact hn rfl

/-- THE LAW: a payload comes back from its frame. -/
theorem get_frame {k : Int} {l : List Int} (h : l.length ≤ 122) : getOf k (frameOf k l) = (0, l) :=
  getOf_some (frame_len h) (by rw [frame_drop h, frame_take h]) (frame_0 k l) (frame_body h)
/-- THE LAW: of another kind it is refused. -/
theorem get_other {k o : Int} {l : List Int} (h : l.length ≤ 122) (hne : o ≠ k) : getOf o (frameOf k l) = (13, []) :=
  getOf_kind (frame_len h) (by rw [frame_drop h, frame_take h]) (by rw [frame_0]; exact fun e => hne e.symm)

theorem be32_inj {m n : Int} (hm : 0 ≤ m ∧ m < 4294967296) (hn : 0 ≤ n ∧ n < 4294967296) (h : be32 m = be32 n) : m = n := by
  simp only [be32, List.cons.injEq, and_true] at h
  omega


/-! ## Kind -/


end Go.Proofs.Ytbgfccfhiocomaa
