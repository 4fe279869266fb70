/- frame.check, frame.body, frame.Get, frame.Kind by contract. -/
import Derived.Test.YtbgfccfhiocomaaFramePut
import Derived.Test.YtbgfccfhiocomaaSameF
namespace Go.Proofs.Ytbgfccfhiocomaa
open Go.RowKit

set_option maxHeartbeats 400000 in
theorem check_size (a : Option Addr) (n c : Nat) (w : World) (hne : n ≠ 128) (_hn : n ≤ 140737488355328) :
    Calls Try.prog 79 #[.slice a n c] w fun e w' => e = .returned (.iface 78 (.int .i64 11)) ∧ w = w' := by
  have h1 : ((n : Int) != 128) = true := by rw [bne_iff_ne]; omega
  clear hne
  go_enter Try.func79, Try.ntmps79
  go_wp2_with fail
  go_ret
  exact ⟨rfl, rfl⟩

set_option maxRecDepth 20000 in
set_option maxHeartbeats 400000 in
theorem check_128 (a : Option Addr) (c : Nat) (l : List Int) (w : World) (hx : BS w w.heap.size a 128 l) (hc : 128 ≤ c ∧ c ≤ maxLen) :
    Calls Try.prog 79 #[.slice a 128 c] w fun e w' => e = .returned (if l.drop 124 = be32 (crcSum (l.take 124)) then .nilIface else .iface 78 (.int .i64 12)) ∧ Below w.heap.size w w' := by
  obtain ⟨hc1, hc2⟩ := hc
  have hc4 : (124 : Int) ≤ c := by omega
  have hl := hx.len
  have ht := hx.take (k := 124) (by omega)
  have hd := hx.drop (k := 124) (cap := c) (by omega) hc1
  have hadd : (fun x : Addr => x.add 124) = fun x => { block := x.block, off := x.off + 124 } := by funext x; simp [Addr.add]
  rw [if_neg (by omega), hadd] at hd
  clear hadd
  have hcr := crcSum_range ht.2
  have hS : ∀ W : World, W.heap = (w.alloc (.cells #[.slice a 124 c] 25)).heap → BSS W W.heap.size (some ⟨w.heap.size, 0, none⟩) 1 [l.take 124] := by
    intro W hW
    have := BSS.one (t := 25) (c := c) (g := w.heap.size) ht ⟨by omega, hc2, by omega⟩ rfl
    rw [show W.heap.size = (w.alloc (.cells #[.slice a 124 c] 25)).heap.size by rw [hW]]
    exact this.keep fun b _ => by rw [hW]
  have hD : ∀ W : World, (∀ b, b < w.heap.size → W.heap[b]? = w.heap[b]?) → BS W w.heap.size (Option.map (fun x => { block := x.block, off := x.off + 124 }) a) 4 (l.drop 124) := fun W hW => hd.keep hW
  generalize hS0 : crcSum (l.take 124) = S at *
  have HSE := mkHid hS0
  clear hS0
  have hE : ∀ W : World, W.heap = ((w.alloc (.cells #[.slice a 124 c] 25)).alloc (.cells #[u8 (S / 16777216), u8 (S / 65536 % 256), u8 (S / 256 % 256), u8 (S % 256)] 5)).heap →
      BS W w.heap.size (Option.map (fun x => { block := x.block, off := x.off + 124 }) a) 4 (l.drop 124) ∧ BS W W.heap.size (some ⟨w.heap.size + 1, 0, none⟩) 4 (be32 S) := by
    intro W hW
    refine ⟨hD W fun b hb => by rw [hW, Below.heap_alloc _ _ _ (by simp; omega), Below.heap_alloc _ _ _ hb], ?_⟩
    have h2 := SL.of_block (B := w.heap.size + 2) (s := 1) (m := 4) (heap_alloc2_new w (.cells #[.slice a 124 c] 25) (.cells #[u8 (S / 16777216), u8 (S / 65536 % 256), u8 (S / 256 % 256), u8 (S % 256)] 5)) rfl (by omega)
    have h3 : BS _ (w.heap.size + 2) (some ⟨w.heap.size + 1, 0, none⟩) 4 (be32 S) := ⟨h2, be32_ok hcr.1 hcr.2⟩
    rw [show W.heap.size = w.heap.size + 2 by rw [hW]; simp]
    exact h3.keep fun b _ => by rw [hW]
  have HS := mkHid hS
  have HE := mkHid hE
  clear hS hE hD hd ht hx
  by_cases hq : l.drop 124 = be32 S
  · have HQ := mkHid (decide_eq_true hq)
    rw [if_pos hq]
    clear hq
    go_enter Try.func79, Try.ntmps79
    go_wp2_with fail
    go_region_held3 (fun _ => True) (trivial) (first
      | (go_at_call 74; refine (sum_any _ 1 1 _ _ (HS.out _ (by rfl)) (by unfold maxLen; omega)).mono ?_; rintro e w1 ⟨rfl, rfl⟩; rw [List.flatten_cons, List.flatten_nil, List.append_nil, HSE.out])
      | (go_at_call 73; refine (word_any _ _ (by simpa using hcr.1) (by simpa using hcr.2)).mono ?_; rintro e w1 ⟨rfl, rfl⟩)
      | (go_at_call 51; refine (equal_any _ _ _ _ _ _ _ _ _ _ _ (HE.out _ (by rfl)).1 (HE.out _ (by rfl)).2).mono ?_; rintro e w1 ⟨rfl, rfl⟩; rw [HQ.out]))
    all_goals go_wp2
    all_goals go_ret
    all_goals exact ⟨rfl, (((Below.refl _ _).alloc (Nat.le_refl _) _).alloc (by simp) _).drew⟩
  · have HQ := mkHid (decide_eq_false hq)
    rw [if_neg hq]
    clear hq
    go_enter Try.func79, Try.ntmps79
    go_wp2_with fail
    go_region_held3 (fun _ => True) (trivial) (first
      | (go_at_call 74; refine (sum_any _ 1 1 _ _ (HS.out _ (by rfl)) (by unfold maxLen; omega)).mono ?_; rintro e w1 ⟨rfl, rfl⟩; rw [List.flatten_cons, List.flatten_nil, List.append_nil, HSE.out])
      | (go_at_call 73; refine (word_any _ _ (by simpa using hcr.1) (by simpa using hcr.2)).mono ?_; rintro e w1 ⟨rfl, rfl⟩)
      | (go_at_call 51; refine (equal_any _ _ _ _ _ _ _ _ _ _ _ (HE.out _ (by rfl)).1 (HE.out _ (by rfl)).2).mono ?_; rintro e w1 ⟨rfl, rfl⟩; rw [HQ.out]))
    all_goals go_wp2
    all_goals go_ret
    all_goals exact ⟨rfl, (((Below.refl _ _).alloc (Nat.le_refl _) _).alloc (by simp) _).drew⟩

end Go.Proofs.Ytbgfccfhiocomaa
