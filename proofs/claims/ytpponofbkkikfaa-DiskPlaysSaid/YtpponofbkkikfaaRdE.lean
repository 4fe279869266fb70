/- The document's disk: Pending, Flush by contract. -/
import Derived.Test.YtpponofbkkikfaaRdD
namespace Go.Proofs.Ytpponofbkkikfaa
open Go.RowKit

set_option maxRecDepth 20000 in
set_option maxHeartbeats 1000000 in
theorem rpending_any (F : Nat → Prop) (g : Nat) (ss : List Sec) (w : World) (h : RD w F g ss) :
    Calls Try.prog 28 #[.pointer (some ⟨g, 0, none⟩)] w (RetI w (pend ss)) := by
  obtain ⟨A, n, c, cs, h⟩ := h
  have hnl := h.nl
  obtain ⟨hc1, hc2⟩ := own_cap h.row
  have HD := mkHid h
  have hlen := h.len
  unfold pend
  rw [hlen]
  clear h hlen
  go_enter Try.func28, Try.ntmps28
  go_wp2_with fail
  go_loopw [4, 3] (fun i out wr => ∃ (q : Nat) (O : Option Addr) (L C : Nat), q ≤ n ∧ i = .int .i64 q ∧ out = .slice O L C ∧ L = (pendN ss q).length ∧ wr.ownsRow w.heap.size 3 1 (.slice O L C) L ((pendN ss q).map i64v) ∧ Below w.heap.size w wr) (fun i _ _ => n - (intOf i).toNat)
  case atStart => exact ⟨0, none, 0, 0, Nat.zero_le _, rfl, rfl, rfl, World.ownsRow_nil _ _ _ _, Below.refl _ _⟩
  case round =>
    obtain ⟨q, O, L, C, hq, rfl, rfl, hL, ho, hb⟩ := hrel
    have hsz := hb.size
    have hLq : L ≤ q := by rw [hL]; exact pendN_len ss q
    have hdr := HD.out.below hb
    have c0 := cell_of_row wr g 0 _ _ _ hdr.blk
    simp at c0
    have HL := mkHid hL
    have HO := mkHid ho
    have HB := mkHid hb
    by_cases hlt : q < n
    · obtain ⟨r, s, a, vc, rfl, hs', q0, _, hvc, h9, _, _, _⟩ := hdr.at_ hlt
      have hwt : waits ss q = decide (0 < s.wait.length) := by unfold waits; rw [hs']; rfl
      have HWT := mkHid hwt
      generalize s.wait.length = wn at *
      clear hL ho hb hs' hwt hdr
      rcases Nat.eq_zero_or_pos wn with h0 | h0
      · subst h0
        go_wp2_with fail
        go_roundw
        case rel =>
          refine ⟨q + 1, O, L, C, by omega, by go_num, rfl, ?_, ?_, HB.out⟩
          · rw [pendN_succ, HWT.out]; simpa using HL.out
          · rw [pendN_succ, HWT.out]; simpa using HO.out
        case measure => simp [intOf]; omega
      · have hwp : (1 : Int) < (wn : Int) + 1 := by omega
        go_wp2_with (at_builtin; refine wpList_app _ rfl (.tmp 24) (.tmp 26) _ rfl w.heap.size el_int O L C _ rfl (HO.out.alloc _) (wr.heap.size + 1) (some ⟨wr.heap.size, 0, none⟩) 1 1 [i64v q] rfl (SL.one _ _) (fun u hu => by obtain rfl := List.mem_singleton.1 hu; rfl) (by unfold maxLen; omega) (by omega) (by simp; omega) ?_; intro O' C' w3 ho3 hg3 hat3; have HO3 := mkHid ho3; have HG3 := mkHid hg3; clear ho3 hg3 hat3)
        go_roundw
        case rel =>
          refine ⟨q + 1, O', L + 1, C', by omega, by go_num, rfl, ?_, ?_, (HB.out.alloc hsz _).grown HG3.out (by simp; omega) (own_base HO.out)⟩
          · rw [pendN_succ, HWT.out, decide_eq_true h0]; simpa using HL.out
          · rw [pendN_succ, HWT.out, decide_eq_true h0]; simpa using HO3.out
        case measure => simp [intOf]; omega
    · obtain rfl : q = n := by omega
      clear hL ho hb hdr
      go_wp2_with fail
      go_ret
      obtain rfl := HL.out
      exact ⟨O, C, rfl, HO.out, HB.out⟩

/-- One sector has one value in a new row. -/
theorem RDr.one {w W : World} {F : Nat → Prop} {g r n c i : Nat} {cs : List Value} {ss : List Sec} {s : Sec} {a' : Option Addr} {c' : Nat} {l : List Int} (h : RDr w F g (some ⟨r, 0, none⟩) n c cs ss) (hs : ss[i]? = some s) (hg : GB w F a' l) (hc : 128 ≤ c' ∧ c' ≤ maxLen)
    (hW : W.heap = ((w.setCell ⟨r, i * 2, none⟩ (.slice (some ⟨w.heap.size, 0, none⟩) 1 1)).alloc (.cells #[.slice a' 128 c'] 30)).heap) (ho : W.os = w.os ∧ W.tape = w.tape ∧ W.output = w.output) :
    Turn F w W ∧ ∃ F', (∃ cs', RDr W F' g (some ⟨r, 0, none⟩) n c cs' (ss.set i ⟨l, [], s.bad⟩)) ∧ ∀ b, F' b → F b ∨ w.heap.size ≤ b := by
  have hrF : F r := h.fr r rfl
  rw [← World.setCell_alloc_past _ _ _ _ (h.lt r hrF)] at hW
  have hrlt := h.lt r hrF
  have hb : Below w.heap.size w (w.alloc (.cells #[.slice a' 128 c'] 30)) := (Below.refl _ _).alloc (Nat.le_refl _) _
  have hv : VB (w.alloc (.cells #[.slice a' 128 c'] 30)) (fun b => F b ∨ b = w.heap.size) (some ⟨w.heap.size, 0, none⟩) (Sec.vals ⟨l, [], s.bad⟩) :=
    VB.one (.inr rfl) (heap_alloc_new w _) hc (hg.keep (fun b hb' => hb.block b (h.lt b hb')) fun b hb' => .inl hb')
  have hp := (h.below hb).put (F' := fun b => F b ∨ b = w.heap.size) (s' := ⟨l, [], s.bad⟩) (c' := 1) rfl hs (fun b hb => .inl hb) (fun b hb' => by
    rcases hb' with e | e
    · have := h.lt b e; simp; omega
    · rw [e]; simp) hv rfl ⟨Nat.le_refl _, by unfold maxLen; omega⟩ (by simp)
  have hsz : W.heap.size = w.heap.size + 1 := by rw [hW, set_size]; simp
  refine ⟨⟨ho.1, ho.2.1, ho.2.2, by omega, fun k hk hf => ?_⟩, _, ⟨_, hp.keep (by rw [hW]; exact Nat.le_refl _) fun b _ => by rw [hW]; rfl⟩, fun b hb' => hb'.imp id fun e => by omega⟩
  rw [hW]
  exact (heap_setCell_other _ _ _ _ fun e => hf (by have e : k = r := e; rw [e]; exact hrF)).trans (Below.heap_alloc _ _ _ hk)

set_option maxRecDepth 20000 in
set_option maxHeartbeats 2000000 in
theorem rflush_any (F : Nat → Prop) (g : Nat) (ss : List Sec) (w : World) (h : RD w F g ss) :
    Calls Try.prog 37 #[.pointer (some ⟨g, 0, none⟩)] w fun e w' => e = .returned (.int .i64 (pend ss).length) ∧ Turn F w w' ∧ ∃ F', RD w' F' g (flushed ss) ∧ ∀ b, F' b → F b ∨ w.heap.size ≤ b := by
  have HP := mkHid (rpending_any F g ss w h)
  have hpl : (pend ss).length ≤ 4096 := Nat.le_trans (pendN_len ss _) h.nl
  obtain ⟨A, n, c, cs, h⟩ := h
  have hnl := h.nl
  obtain ⟨hc1, hc2⟩ := own_cap h.row
  have HD := mkHid h
  have hlen := h.len
  clear h
  go_enter Try.func37, Try.ntmps37
  go_wp2_with fail
  refine HP.out.mono ?_
  rintro e w1 ⟨PA, pc, rfl, _, hb1⟩
  have HB1 := mkHid hb1
  clear hb1
  go_wp2_with fail
  go_loopw [4] (fun i wr => ∃ (q : Nat) (F' : Nat → Prop) (cs : List Value), q ≤ n ∧ i = .int .i64 q ∧ Turn F w wr ∧ RDr wr F' g A n c cs (flN ss q) ∧ ∀ b, F' b → F b ∨ w.heap.size ≤ b) (fun i _ => n - (intOf i).toNat)
  case atStart => exact ⟨0, F, cs, Nat.zero_le _, rfl, Turn.of_below HB1.out, by simpa [flN] using HD.out.below HB1.out, fun b hb => .inl hb⟩
  case round =>
    clear HB1 HD HP
    obtain ⟨q, F', cs, hq, rfl, ht, hd, hF⟩ := hrel
    have c0 := cell_of_row wr g 0 _ _ _ hd.blk
    simp at c0
    have HT := mkHid ht
    have HF := mkHid hF
    by_cases hlt : q < n
    · obtain ⟨r, s, a, vc, rfl, hs', q0, q1, hvc, h9, hv, hFr, hrg⟩ := hd.at_ hlt
      obtain ⟨b, a', c', l, rfl, hFb, kc, hc', hl, hgb⟩ := hv.at_ (j := s.wait.length) (by rw [s.vals_len]; omega)
      rw [s.vals_last] at hl
      injection hl with hl
      subst hl
      have HON := mkHid (fun (W : World) => hd.one (W := W) hs' hgb hc')
      rw [flN_get (by omega)] at hs'
      have HST := mkHid (flN_set hs')
      have hrlt := hd.lt r hFr
      have hglt := hd.lt g hd.fg
      have hblt := hd.lt b hFb
      have hfz : wr.frozen? ⟨r, q * 2, none⟩ = false := by
        obtain ⟨cur, hcur⟩ := own_type hd.row (b := r) rfl
        exact frozen_of_row wr r _ _ _ hcur
      have HS := mkHid (show ∀ Z : World, (∀ k, k < wr.heap.size → k ≠ r → Z.heap[k]? = wr.heap[k]?) → Z.cell? ⟨g, 0, none⟩ = some (.slice (some ⟨r, 0, none⟩) n c) ∧ Z.cell? ⟨b, s.wait.length, none⟩ = some (.slice a' 128 c') from fun Z hZ => ⟨(World.cell?_of_block (w := wr) (hZ g hglt (fun e => hrg e.symm))).trans c0, (World.cell?_of_block (w := wr) (hZ b hblt (fun e => by
        obtain ⟨cur, hcur⟩ := own_type hd.row (b := r) rfl
        obtain ⟨b', cur', fr, e1, _, e2, _⟩ := hv
        injection e1 with e1
        injection e1 with e1
        rw [← e1, e, hcur] at e2
        simp at e2))).trans kc⟩)
      clear hs' hd hv hgb ht hF
      generalize s.wait.length = wn at *
      have hwr : IntKind.i64.wrap ((wn : Int) + 1 - 1) = (wn : Int) := by rw [IntKind.wrap_i64]; omega
      have hwr2 : IntKind.i64.wrap (wn : Int) = (wn : Int) := by rw [IntKind.wrap_i64]; omega
      have hj0 : (0 : Int) ≤ (wn : Int) := by omega
      have hj1 : (wn : Int) < (wn : Int) + 1 := by omega
      go_wp2_with fail
      go_region_held3 (fun s => s.cell? ⟨g, 0, none⟩ = some (.slice (some ⟨r, 0, none⟩) n c) ∧ s.cell? ⟨b, wn, none⟩ = some (.slice a' 128 c')) (first | assumption | exact HS.out _ (fun _ _ _ => rfl) | exact HS.out _ (fun k hk _ => Below.heap_alloc _ _ _ hk) | exact HS.out _ (fun k hk hkr => (Below.heap_alloc _ _ _ (by rw [set_size]; exact hk)).trans (heap_setCell_other _ _ _ _ hkr))) (fail)
      go_wp2_with fail
      go_roundw
      case rel =>
        obtain ⟨k1, F'', ⟨cs', k2⟩, k3⟩ := HON.out ((wr.setCell ⟨r, q * 2, none⟩ (.slice (some ⟨wr.heap.size, 0, none⟩) 1 1)).alloc (.cells #[.slice a' 128 c'] 30)).drew rfl ⟨rfl, rfl, rfl⟩
        refine ⟨q + 1, F'', cs', by omega, by go_num, HT.out.trans k1 HF.out, ?_, fun b hb => (k3 b hb).elim (HF.out b) fun h => .inr (Nat.le_trans HT.out.size h)⟩
        rw [← HST.out]
        exact k2
      case measure => simp [intOf]; omega
    · obtain rfl : q = n := by omega
      rw [← hlen, flN_all] at hd
      have HD := mkHid hd
      clear hd ht hF
      go_wp2_with fail
      go_ret
      exact ⟨rfl, HT.out, F', ⟨_, _, _, _, HD.out⟩, HF.out⟩

end Go.Proofs.Ytpponofbkkikfaa
