/- The walk of frame.Put. -/
import Derived.Test.YtbgfccfhiocomaaSum
import Derived.Test.YtbgfccfhiocomaaFrameA
namespace Go.Proofs.Ytbgfccfhiocomaa
open Go.RowKit

/-- What stands ahead of a frame's sum; the frame. -/
def frameHead (k : Int) (l : List Int) : List Int := k :: (l.length : Int) :: (l ++ List.replicate (122 - l.length) 0)
def be32 (n : Int) : List Int := [n / 16777216, n / 65536 % 256, n / 256 % 256, n % 256]
def frameOf (k : Int) (l : List Int) : List Int := frameHead k l ++ be32 (crcSum (frameHead k l))
theorem frameHead_length {k : Int} {l : List Int} (h : l.length ≤ 122) : (frameHead k l).length = 124 := by simp [frameHead]; omega
theorem frameHead_ok {k : Int} {l : List Int} (hk : 0 ≤ k ∧ k < 256) (hl : okBytes l) (h : l.length ≤ 122) : okBytes (frameHead k l) := by
  intro x hx
  simp only [frameHead, List.mem_cons, List.mem_append, List.mem_replicate] at hx
  rcases hx with rfl | rfl | hx | ⟨_, rfl⟩
  · exact hk
  · omega
  · exact hl x hx
  · omega
theorem be32_ok {n : Int} (h0 : 0 ≤ n) (h1 : n < 4294967296) : okBytes (be32 n) := by
  intro x hx
  simp only [be32, List.mem_cons, List.not_mem_nil, or_false] at hx
  rcases hx with rfl | rfl | rfl | rfl <;> omega
theorem frameOf_ok {k : Int} {l : List Int} (hk : 0 ≤ k ∧ k < 256) (hl : okBytes l) (h : l.length ≤ 122) : okBytes (frameOf k l) :=
  (frameHead_ok hk hl h).append (be32_ok (crcSum_range (frameHead_ok hk hl h)).1 (crcSum_range (frameHead_ok hk hl h)).2)

/-- 128 noughts. -/
def Z128 : Array Value := Array.replicate 128 (u8 0)
theorem mk_frame (w : World) : (Instr.makeSlice 25 (.int .i64 124) (.int .i64 128)).run Try.prog w = .ok (.slice (some ⟨w.heap.size, 0, none⟩) 124 128) (w.alloc (.cells Z128 5)) := by kernel_rfl

/-- What is known of the world behind the make. -/
structure Made (w W1 : World) : Prop where
  eq : W1 = w.alloc (.cells Z128 5)
  size : W1.heap.size = w.heap.size + 1
  hh : W1.heap[w.heap.size]? = some (.cells Z128 5 (0, 0))
  c0 : W1.cell? ⟨w.heap.size, 0, none⟩ = some (.int .u8 0)
  c1 : W1.cell? ⟨w.heap.size, 1, none⟩ = some (.int .u8 0)
  f0 : W1.frozen? ⟨w.heap.size, 0, none⟩ = false
  f1 : W1.frozen? ⟨w.heap.size, 1, none⟩ = false
theorem made (w : World) : ∃ W1, w.alloc (.cells Z128 5) = W1 ∧ Made w W1 := by
  have hh : (w.alloc (.cells Z128 5)).heap[w.heap.size]? = some (.cells Z128 5 (0, 0)) := heap_alloc_new w _
  exact ⟨_, rfl, rfl, by simp, hh, (cell_of_row _ _ 0 _ _ _ hh).trans (by kernel_rfl), (cell_of_row _ _ 1 _ _ _ hh).trans (by kernel_rfl), frozen_of_row _ _ 0 _ _ hh, frozen_of_row _ _ 1 _ _ hh⟩

def putCur (k n : Int) : List Value := u8 k :: u8 n :: List.replicate 126 (u8 0)
/-- The frame's first 124 cells behind the copy, and four noughts. -/
theorem putCur_splice (k : Int) (l : List Int) (n : Nat) (hl : l.length = n) (hn : n ≤ 122) : splice (putCur k n) 2 (l.map u8) = (frameHead k l).map u8 ++ List.replicate 4 (u8 0) := by
  have hd : List.drop (2 + n) (u8 k :: u8 n :: List.replicate 126 (u8 0)) = List.replicate (122 - n) (u8 0) ++ List.replicate 4 (u8 0) := by
    rw [Nat.add_comm, List.drop_succ_cons, List.drop_succ_cons, List.drop_replicate, List.replicate_append_replicate]
    congr 1
    omega
  unfold splice putCur frameHead
  rw [List.length_map, hl, hd, ← List.append_assoc]
  simp only [List.map_cons, List.map_append, List.map_replicate, List.take_succ_cons, List.take_zero, List.cons_append, List.nil_append, List.append_assoc]

theorem put_state {w W1 : World} (hM : Made w W1) (k n : Int) :
    ((W1.setCell ⟨w.heap.size, 0, none⟩ (.int .u8 k)).setCell ⟨w.heap.size, 1, none⟩ (.int .u8 n)).heap[w.heap.size]? = some (.cells (putCur k n).toArray 5 (0, 0)) ∧
    Below w.heap.size w ((W1.setCell ⟨w.heap.size, 0, none⟩ (.int .u8 k)).setCell ⟨w.heap.size, 1, none⟩ (.int .u8 n)) := by
  constructor
  · rw [heap_setCell_same _ _ _ _ _ _ (heap_setCell_same _ _ _ _ _ _ hM.hh)]
    kernel_rfl
  · rw [hM.eq]
    exact (((Below.refl _ _).alloc (Nat.le_refl _) _).setCell (by simp) _).setCell (by simp) _

set_option maxHeartbeats 400000 in
theorem put_ok (k : Int) (a : Option Addr) (n c : Nat) (l : List Int) (w : World) (hx : BS w w.heap.size a n l) (hn : n ≤ 122) (hk : 0 ≤ k ∧ k < 256) :
    Calls Try.prog 36 #[.int .u8 k, .slice a n c] w fun e w' => ∃ A c', e = .returned (.tuple #[.slice A 128 c', .nilIface]) ∧ w'.ownsRow w.heap.size 5 1 (.slice A 128 c') 128 ((frameOf k l).map u8) ∧ Below w.heap.size w w' := by
  go_enter Try.func36, Try.ntmps36
  go_upto_region 5 with (at_make; refine wpList_make_run _ rfl _ _ 25 rfl (.int .i64 124) (.int .i64 128) _ (w.alloc (.cells Z128 5)) rfl rfl (mk_frame w) ?_; obtain ⟨W1, hW1, hM⟩ := made w; rw [hW1]; clear hW1; obtain ⟨c0, c1, f0, f1⟩ := And.intro hM.c0 (And.intro hM.c1 (And.intro hM.f0 hM.f1)))
  obtain ⟨hg2, hb2⟩ := put_state hM k n
  have HG2 := mkHid hg2
  clear hg2 c0 c1 f0 f1
  have hx2 := hx.below hb2
  go_wp2_with (first
    | (refine wpList_copy_splice rfl (.tmp 21) (.tmp 22) _ _ rfl 5 Try.underlying25 (by kernel_rfl) (some ⟨w.heap.size, 2, none⟩) a 122 126 n c rfl rfl w.heap.size 2 (putCur k n) 5 HG2.out (l.map u8) (by rw [List.length_map, hx.len]; exact (Nat.min_eq_left hn).symm) (fun h0 => ⟨rfl, hx2.1.news h0⟩) (by simp [putCur, hx.len]; omega) (u8_cells _) w.heap.size w hb2 (Nat.le_refl _) ?_
       intro W3 HG3 hb3
       rw [putCur_splice k l n hx.len hn] at HG3)
    | fail)
  have hl := hx.len
  have hown3 : W3.ownsRow w.heap.size 5 1 (.slice (some ⟨w.heap.size, 0, none⟩) 124 128) 124 ((frameHead k l).map u8) := by
    have h124 := frameHead_length (k := k) (l := l) (by omega)
    have ho := own_of_block W3 (n := 124) (cap := 128) (Nat.le_refl _) HG3.out (by omega) (by unfold maxLen; omega) (by simp [h124])
    rwa [List.toList_toArray, List.take_left' (by rw [List.length_map]; exact h124)] at ho
  have HO3 := mkHid hown3
  have hbs3 : BS W3 W3.heap.size (some ⟨w.heap.size, 0, none⟩) 124 (frameHead k l) := ⟨SL.of_own hown3, frameHead_ok hk hx.2 (by omega)⟩
  clear hown3 hl HG3
  have hbss := BSS.one (W := W3) (t := 25) (c := 128) hbs3 ⟨by omega, by unfold maxLen; omega, by omega⟩ rfl
  refine (sum_any _ 1 1 [frameHead k l] _ hbss (by unfold maxLen; omega)).mono ?_
  rintro e w' ⟨rfl, rfl⟩
  have hcr := crcSum_range (frameHead_ok hk hx.2 (by have := hx.len; omega))
  go_wp2_with fail
  refine (word_any _ _ (by simpa using hcr.1) (by simpa using hcr.2)).mono ?_
  rintro e w' ⟨rfl, rfl⟩
  clear hbss hbs3 hcr
  go_wp2_with (at_builtin; refine wpList_app _ rfl (.tmp 24) (.tmp 28) _ rfl w.heap.size el_u8 (some ⟨w.heap.size, 0, none⟩) 124 128 _ rfl ((HO3.out.alloc _).alloc _) (W3.heap.size + 2) (some ⟨W3.heap.size + 1, 0, none⟩) 4 4 ((be32 (crcSum (frameHead k l))).map u8) rfl (SL.of_block (heap_alloc2_new _ _ _) rfl (by omega)) (u8_cells _) (by unfold maxLen; omega) (by omega) (by have := hb3.size; simp; omega) ?_; intro A' c' w1 hown hgr hat)
  go_ret2
  refine ⟨A', c', rfl, by rw [← List.map_append] at hown; exact hown, ?_⟩
  exact ((hb3.alloc (by have := hb3.size; simp; omega) _).alloc (by have := hb3.size; simp; omega) _).grown hgr (by have := hb3.size; simp; omega) (fun q hq => by simp [Value.ownBlock] at hq; omega)

end Go.Proofs.Ytbgfccfhiocomaa
