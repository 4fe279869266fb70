/- The document's disk: Write by contract. -/
import Derived.Test.YtpponofbkkikfaaRdC
namespace Go.Proofs.Ytpponofbkkikfaa
open Go.RowKit

set_option maxRecDepth 20000 in
theorem rwrite_no (F : Nat → Prop) (g : Nat) (ss : List Sec) (i : Int) (a : Option Addr) (m c : Nat) (w : World) (h : RD w F g ss) (hi : I64 i) (hh : hasOf ss.length i = false) :
    Calls Try.prog 36 #[.pointer (some ⟨g, 0, none⟩), .int .i64 i, .slice a m c] w fun e w' => e = .returned (.int .i64 20) ∧ w = w' := by
  have H := mkHid (rhas_any F g ss i w h hi)
  rw [hh] at H
  clear h hi hh
  go_enter Try.func36, Try.ntmps36
  go_wp2_with fail
  refine H.out.mono ?_
  rintro e w1 ⟨rfl, rfl⟩
  go_wp2_with fail
  go_ret
  exact ⟨rfl, rfl⟩

set_option maxRecDepth 20000 in
theorem rwrite_size (F : Nat → Prop) (g : Nat) (ss : List Sec) (i : Int) (a : Option Addr) (m c : Nat) (w : World) (h : RD w F g ss) (hi : I64 i) (hh : hasOf ss.length i = true) (hm : m ≠ 128) :
    Calls Try.prog 36 #[.pointer (some ⟨g, 0, none⟩), .int .i64 i, .slice a m c] w fun e w' => e = .returned (.int .i64 11) ∧ w = w' := by
  have H := mkHid (rhas_any F g ss i w h hi)
  rw [hh] at H
  have hmb : ((m : Int) != 128) = true := by simp; omega
  clear h hi hh
  go_enter Try.func36, Try.ntmps36
  go_wp2_with fail
  refine H.out.mono ?_
  rintro e w1 ⟨rfl, rfl⟩
  go_wp2_with fail
  go_ret
  exact ⟨rfl, rfl⟩

/-- Behind the stores of a Write. -/
theorem RDr.wrote {w w1 w2 w3 : World} {F : Nat → Prop} {g r n c i : Nat} {cs : List Value} {ss : List Sec} {s : Sec} {l : List Int} {xs : List Value} {k c1 c3 cc : Nat} {A1 A3 CA : Option Addr} {o : Obj} (h : RDr w F g (some ⟨r, 0, none⟩) n c cs ss) (hs : ss[i]? = some s) (hk : s.wait.length = k)
    (hxs : ∀ (j : Nat) (l : List Int), s.vals[j]? = some l → ∃ (a' : Option Addr) (c' : Nat), xs[j]? = some (.slice a' 128 c') ∧ (128 ≤ c' ∧ c' ≤ maxLen) ∧ GB w F a' l) (hxl : xs.length = k + 1) (hw : k < 1000000)
    (ho1 : w1.ownsRow w.heap.size 30 1 (.slice A1 (k + 1) c1) (k + 1) xs) (hg1 : w.grownBy w1 none)
    (ho2 : w2.ownsRow w1.heap.size 5 1 (.slice CA 128 cc) 128 (l.map u8)) (hl : okBytes l) (hb2 : Below w1.heap.size w1 w2)
    (ho3 : w3.ownsRow w.heap.size 30 1 (.slice A3 (k + 1 + 1) c3) (k + 1 + 1) (xs ++ [.slice CA 128 cc])) (hg3 : (w2.alloc o).grownBy w3 (Value.slice A1 (k + 1) c1).ownBlock) :
    Turn F w (w3.setCell ⟨r, i * 2, none⟩ (.slice A3 (k + 1 + 1) c3)) ∧ ∃ F', RD (w3.setCell ⟨r, i * 2, none⟩ (.slice A3 (k + 1 + 1) c3)) F' g (ss.set i { s with wait := s.wait ++ [l] }) ∧ ∀ b, F' b → F b ∨ w.heap.size ≤ b := by
  subst hk
  have s1 := hg1.size
  have s2 := hb2.size
  have s3 : w2.heap.size + 1 ≤ w3.heap.size := by have := hg3.size; simpa using this
  have hcc := own_cap ho2
  have hown : ∀ b, (Value.slice A1 (s.wait.length + 1) c1).ownBlock = some b → w.heap.size ≤ b ∧ b < w1.heap.size := fun b hb => ho1.lt b hb
  have k3 : ∀ b, b < w2.heap.size → (Value.slice A1 (s.wait.length + 1) c1).ownBlock ≠ some b → w3.heap[b]? = w2.heap[b]? := fun b hb hne => (hg3.block b (by simp; omega) (fun e => hne e.symm)).trans (Below.heap_alloc _ _ _ hb)
  have hbel : Below w.heap.size w w3 := ⟨hg3.os.trans (hb2.os.trans hg1.os), hg3.tape.trans (hb2.tape.trans hg1.tape), hg3.output.trans (hb2.output.trans hg1.output), by omega, fun b hb => (k3 b (by omega) fun e => by have := hown b e; omega).trans ((hb2.block b (by omega)).trans (hg1.block b hb (by simp)))⟩
  have hd3 := h.below hbel
  have hold : ∀ (a' : Option Addr) (l' : List Int), GB w F a' l' → GB w3 (fun b => F b ∨ (w.heap.size ≤ b ∧ b < w3.heap.size)) a' l' := fun a' l' hg => hg.keep (fun b hb => hbel.block b (h.lt b hb)) fun b hb => .inl hb
  have hnew : GB w3 (fun b => F b ∨ (w.heap.size ≤ b ∧ b < w3.heap.size)) CA l := (GB.of_own ho2 hl).keep (fun b hb => k3 b hb.2 fun e => by have := hown b e; omega) fun b hb => .inr ⟨by omega, by omega⟩
  have hv : VB w3 (fun b => F b ∨ (w.heap.size ≤ b ∧ b < w3.heap.size)) A3 (Sec.vals { s with wait := s.wait ++ [l] }) := by
    refine VB.of_own ho3 (by omega) (fun b h1 h2 => .inr ⟨h1, h2⟩) fun j l' hj => ?_
    have hvv : Sec.vals { s with wait := s.wait ++ [l] } = s.vals ++ [l] := rfl
    rw [hvv] at hj
    by_cases hjl : j < s.wait.length + 1
    · rw [List.getElem?_append_left (by rw [s.vals_len]; exact hjl)] at hj
      obtain ⟨a', c', e1, e2, e3⟩ := hxs j l' hj
      exact ⟨a', c', by rw [List.getElem?_append_left (by omega)]; exact e1, e2, hold _ _ e3⟩
    · have hj2 := (List.getElem?_eq_some_iff.1 hj).1
      rw [List.length_append, s.vals_len, List.length_singleton] at hj2
      obtain rfl : j = s.wait.length + 1 := by omega
      rw [List.getElem?_append_right (by rw [s.vals_len]; omega), s.vals_len, Nat.sub_self] at hj
      injection hj with hj
      subst hj
      exact ⟨CA, cc, by rw [List.getElem?_append_right (by omega), hxl, Nat.sub_self]; rfl, hcc, hnew⟩
  have hp := hd3.put (F' := fun b => F b ∨ (w.heap.size ≤ b ∧ b < w3.heap.size)) (s' := { s with wait := s.wait ++ [l] }) (a := A3) (c' := c3) rfl hs (fun b hb => .inl hb) (fun b hb => hb.elim (hd3.lt b) fun e => e.2) hv rfl (by have := own_cap ho3; simpa using this) (by simp; omega)
  have hle : ({ s with wait := s.wait ++ [l] } : Sec).wait.length + 1 = s.wait.length + 1 + 1 := by simp
  rw [hle] at hp
  refine ⟨⟨hbel.os, hbel.tape, hbel.output, by rw [set_size]; exact hbel.size, fun b hb hf => (heap_setCell_other _ _ _ _ fun e => hf ?_).trans (hbel.block b hb)⟩, _, ⟨_, _, _, _, hp⟩, fun b hb => hb.imp id fun e => e.1⟩
  have e : b = r := e
  exact e ▸ h.fr r rfl

set_option maxRecDepth 20000 in
set_option maxHeartbeats 2000000 in
theorem rwrite_ok (F : Nat → Prop) (g : Nat) (ss : List Sec) (i : Nat) (s : Sec) (a : Option Addr) (c0 : Nat) (l : List Int) (w : World) (h : RD w F g ss) (hs : ss[i]? = some s) (hx : BS w w.heap.size a 128 l) (hw : s.wait.length < 1000000) :
    Calls Try.prog 36 #[.pointer (some ⟨g, 0, none⟩), .int .i64 i, .slice a 128 c0] w fun e w' => e = .returned (.int .i64 0) ∧ Turn F w w' ∧ ∃ F', RD w' F' g (ss.set i { s with wait := s.wait ++ [l] }) ∧ ∀ b, F' b → F b ∨ w.heap.size ≤ b := by
  have hil := (List.getElem?_eq_some_iff.1 hs).1
  have hnl := h.nl
  have H := mkHid (rhas_any F g ss i w h ⟨by omega, by omega⟩)
  rw [show hasOf ss.length (i : Int) = true from decide_eq_true ⟨by omega, by omega⟩] at H
  obtain ⟨A, n, c, cs, h⟩ := h
  have hlen := h.len
  obtain ⟨r, s', va, vc, rfl, hs', q0, q1, hvc, hw6, hv, hFr, hrg⟩ := h.at_ (j := i) (by omega)
  rw [hs] at hs'
  injection hs' with hs'
  subst hs'
  obtain ⟨hc1, hc2⟩ := own_cap h.row
  have d0 := cell_of_row w g 0 _ _ _ h.blk
  simp at d0
  have hglt := h.lt g h.fg
  have hrlt := h.lt r hFr
  obtain ⟨xs, hsl, hx1, hxs⟩ := hv.sl h.lt
  have hxl : xs.length = s.wait.length + 1 := by have := hsl.1; rw [s.vals_len] at this; omega
  have hll : l.length = 128 := hx.len
  have HW := mkHid (fun w1 w2 w3 c1 c3 cc A1 A3 CA o => h.wrote (w1 := w1) (w2 := w2) (w3 := w3) (l := l) (xs := xs) (c1 := c1) (c3 := c3) (cc := cc) (A1 := A1) (A3 := A3) (CA := CA) (o := o) hs rfl hxs hxl hw)
  have HPC := mkHid (show ∀ s1 : World, s1.heap[g]? = w.heap[g]? → s1.heap[r]? = w.heap[r]? → s1.cell? ⟨g, 0, none⟩ = some (.slice (some ⟨r, 0, none⟩) n c) ∧ s1.cell? ⟨r, i * 2, none⟩ = some (.slice va (s.wait.length + 1) vc) ∧ s1.frozen? ⟨r, i * 2, none⟩ = false from fun s1 h1 h2 => by
    refine ⟨cell_of_row s1 g 0 _ _ _ (h1.trans h.blk), (World.cell?_of_block (w := w) h2).trans q0, ?_⟩
    obtain ⟨cur, hcur⟩ := own_type h.row (b := r) rfl
    exact frozen_of_row s1 r _ _ _ (h2.trans hcur))
  rw [s.vals_len] at hsl
  have HSL := mkHid hsl
  have HX1 := mkHid hx1
  have HX := mkHid hx
  have hin : i < n := by omega
  have hwl : s.wait.length < 1000000 := hw
  generalize s.wait.length = k at *
  clear h hs hlen hxs hv hsl hx1 hx hil hw q1
  go_enter Try.func36, Try.ntmps36
  go_wp2_with fail
  refine H.out.mono ?_
  rintro e w1 ⟨rfl, rfl⟩
  go_wp2_with (at_builtin; refine wpList_app0 _ rfl (.tmp 15) (.tmp 23) _ rfl w.heap.size el_bs rfl w.heap.size va (k + 1) vc xs rfl HSL.out HX1.out (by unfold maxLen; omega) (by omega) (Nat.le_refl _) ?_; intro A1 c1 w1 ho1 hg1 hat1; have hq1g : w1.heap[g]? = w.heap[g]? := hg1.block g hglt (by simp); have hq1r : w1.heap[r]? = w.heap[r]? := hg1.block r hrlt (by simp); obtain ⟨f0, f1, f2⟩ := HPC.out w1 hq1g hq1r; have HO1 := mkHid ho1; have HG1 := mkHid hg1; have HQ1 := mkHid (And.intro hq1g hq1r); have hsz1 := hg1.size; clear ho1 hg1 hat1 hq1g hq1r)
  have HXA := mkHid (show ∀ W : World, W.heap = w1.heap → BS W W.heap.size a 128 l from fun W hW => by
    rw [hW]
    exact (HX.out.keep fun b hb => by rw [hW]; exact HG1.out.block b hb (by simp)).more hsz1)
  have HK1 := mkHid (show ∀ b, (Value.slice A1 (k + 1) c1).ownBlock = some b → w.heap.size ≤ b from fun b hb => (HO1.out.lt b hb).1)
  go_region_law (first
    | (go_simp; go_at_call 12; refine (copy_any a 128 c0 l _ (HXA.out _ (by rfl)) (by omega)).mono ?_; rintro e w2 ⟨CA, cc, rfl, hcl, hb2⟩; rw [hll] at hcl ⊢; have hk2 : w2.heap[g]? = w.heap[g]? := (hb2.block g (Nat.lt_of_lt_of_le hglt hsz1)).trans HQ1.out.1; have hr2 : w2.heap[r]? = w.heap[r]? := (hb2.block r (Nat.lt_of_lt_of_le hrlt hsz1)).trans HQ1.out.2; have hs2 : w1.heap.size ≤ w2.heap.size := hb2.size; obtain ⟨a0, a1, a2⟩ := HPC.out w2 hk2 hr2; obtain ⟨b0, b1, b2⟩ := HPC.out (w2.alloc (.cells #[.slice CA 128 cc] 30)) ((Below.heap_alloc _ _ _ (by omega)).trans hk2) ((Below.heap_alloc _ _ _ (by omega)).trans hr2); have HK2 := mkHid (And.intro hk2 hr2); have HCL := mkHid hcl; have HB2 := mkHid hb2; clear hcl hb2 hk2 hr2)
    | (refine step_app _ rfl (.tmp 30) (.tmp 33) _ rfl w.heap.size el_bs A1 (k + 1) c1 xs rfl (own_keep HO1.out (fun b hb => (Below.heap_alloc _ _ b (by omega)).trans (HB2.out.block b hb))) (w2.heap.size + 1) (some ⟨w2.heap.size, 0, none⟩) 1 1 [.slice CA 128 cc] rfl (SL.of_block (heap_alloc_new w2 _) rfl (by omega)) (fun u hu => by obtain rfl := List.mem_singleton.1 hu; rfl) (by unfold maxLen; omega) (by omega) (by simp; omega) ?_; intro A3 c3 w3 ho3 hg3 hat3; obtain ⟨e0, e1, e2⟩ := HPC.out w3 (((hg3.block g (by simp; omega) (fun e => by have := HK1.out _ e.symm; omega)).trans (Below.heap_alloc w2 _ g (by omega))).trans HK2.out.1) (((hg3.block r (by simp; omega) (fun e => by have := HK1.out _ e.symm; omega)).trans (Below.heap_alloc w2 _ r (by omega))).trans HK2.out.2); have HO3 := mkHid ho3; have HG3 := mkHid hg3; clear ho3 hg3 hat3))
  all_goals go_wp2
  all_goals go_ret
  all_goals exact ⟨rfl, HW.out _ _ _ _ _ _ _ _ _ _ HO1.out HG1.out HCL.out HX.out.2 (Below.mk HB2.out.os HB2.out.tape HB2.out.output HB2.out.size HB2.out.block) HO3.out HG3.out⟩

end Go.Proofs.Ytpponofbkkikfaa
