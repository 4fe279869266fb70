/- portageref02.Copy by contract; portagelaw03.awake answers true. -/
import Derived.Test.YtpponofbkkikfaaDkG
namespace Go.Proofs.Ytpponofbkkikfaa
open Go.RowKit

theorem copy_any (a : Option Addr) (n c : Nat) (l : List Int) (w : World) (hx : BS w w.heap.size a n l) (hn : n ≤ 140737488355328) :
    Calls Try.prog 12 #[.slice a n c] w (RetB w l) := by
  have hln := hx.len
  subst hln
  go_enter Try.func12, Try.ntmps12
  go_wp2_with (at_builtin; refine wpList_app0 _ rfl (.tmp 4) (.tmp 5) _ rfl w.heap.size el_u8 rfl w.heap.size a l.length c _ rfl hx.1 (u8_cells _) (by unfold maxLen; omega) (by omega) (Nat.le_refl _) ?_; intro A' c' w1 hown hg hat)
  go_ret
  exact ⟨A', c', rfl, hown, (Below.refl _ _).grown hg (Nat.le_refl _) (fun k hk => by cases hk)⟩

/-- The law's own view: a disk whose blocks all came behind w; what was there is as it was. -/
structure LD (w wr : World) (F : Nat → Prop) (g : Nat) (ss : List Sec) : Prop where
  d : DK wr F g ss
  lo : ∀ b, F b → w.heap.size ≤ b
  bel : Below w.heap.size w wr
theorem LD.below {w wr w1 : World} {F : Nat → Prop} {g : Nat} {ss : List Sec} (h : LD w wr F g ss) (hb : Below wr.heap.size wr w1) : LD w w1 F g ss := ⟨h.d.below hb, h.lo, h.bel.trans (hb.mono h.bel.size)⟩
theorem LD.keep {w wr w1 : World} {F : Nat → Prop} {g : Nat} {ss : List Sec} (h : LD w wr F g ss) (hk : ∀ b, F b → w1.heap[b]? = wr.heap[b]?) (hb : Below w.heap.size wr w1) : LD w w1 F g ss := ⟨h.d.keep hb.size hk, h.lo, h.bel.trans hb⟩
theorem LD.turn {w wr w1 : World} {F F' : Nat → Prop} {g : Nat} {ss ss' : List Sec} (h : LD w wr F g ss) (ht : Turn F wr w1) (hd : DK w1 F' g ss') (hF : ∀ b, F' b → F b ∨ wr.heap.size ≤ b) : LD w w1 F' g ss' :=
  ⟨hd, fun b hb => by
    rcases hF b hb with e | e
    · exact h.lo b e
    · exact Nat.le_trans h.bel.size e, h.bel.trans (ht.below h.lo h.bel.size)⟩

def one7 : List Int := zeros.set 5 7
set_option maxRecDepth 20000 in
set_option maxHeartbeats 1000000 in
theorem awake_any (w : World) : Calls Try.prog 10 #[] w fun e w' => e = .returned (.bool true) ∧ Below w.heap.size w w' := by
  have HN := mkHid (newDisk_any 3 w (by omega) (by omega))
  go_enter Try.func10, Try.ntmps10
  go_wp2_with fail
  refine HN.out.mono ?_
  rintro e w1 ⟨g, F, rfl, hd, hF, hb1⟩
  have HD := mkHid hd
  have HF := mkHid hF
  have HB1 := mkHid hb1
  clear hd hF hb1 HN
  go_wp2_with fail
  refine (size_any F g _ w1 HD.out).mono ?_
  rintro e w2 ⟨rfl, rfl⟩
  rw [show (List.replicate 3 sec0).length = 3 from rfl]
  have hs1 := HB1.out.size
  go_wp2_with (at_make; refine wpList_make128 w1 rfl rfl w.heap.size hs1 ?_; intro wm hm1 hm2; have hfz := frozen_of_own hm1 5; obtain ⟨r', e1, _, _, hcell⟩ := own_cells hm1 (by omega); injection e1 with e1; injection e1 with e1; subst e1; have c5 := hcell 5 (by omega); have HM1 := mkHid hm1; have HM2 := mkHid hm2; clear hm1 hm2 hcell)
  have hbW : Below w1.heap.size w1 (wm.setCell ⟨w1.heap.size, 5, none⟩ (.int .u8 7)) := ((Below.refl _ _).grown HM2.out (Nat.le_refl _) (fun k hk => by cases hk)).setCell (p := ⟨w1.heap.size, 5, none⟩) (Nat.le_refl _) _
  have HL1 := mkHid ((show LD w w1 F g (List.replicate 3 sec0) from ⟨HD.out, HF.out, HB1.out⟩).below hbW)
  have ho7 := own_set (v := u8 7) (p := 5) HM1.out (by omega)
  rw [← List.map_set] at ho7
  have h7 : okBytes (zeros.set 5 7) := fun x hx => by
    rcases List.mem_or_eq_of_mem_set hx with h | h
    · exact zeros_ok x h
    · omega
  refine (write_ok F g _ 1 sec0 _ _ one7 _ HL1.out.d rfl ⟨SL.of_own ho7, h7⟩ (by simp [sec0])).mono ?_
  rintro e w3 ⟨rfl, ht3, F3, hd3, hF3⟩
  have HL3 := mkHid (HL1.out.turn ht3 hd3 hF3)
  clear ht3 hd3 hF3 hbW ho7 h7 HM1 HM2 HL1 hfz c5
  go_wp2_with fail
  refine (read_ok F3 g _ 1 ⟨zeros, [one7], false⟩ w3 HL3.out.d rfl rfl).mono ?_
  rintro e w4 ⟨A4, c4, rfl, ho4, _, _, hb4⟩
  obtain ⟨r4, rfl, _, _, hcell⟩ := own_cells ho4 (by omega)
  have c5 := hcell 5 (by omega)
  rw [show (Sec.last ⟨zeros, [one7], false⟩)[5]?.getD 0 = 7 from rfl] at c5
  have HL4 := mkHid (HL3.out.below hb4)
  clear ho4 hb4 hcell HL3
  go_wp2_with fail
  refine (wait_ok F3 g _ 1 ⟨zeros, [one7], false⟩ w4 HL4.out.d rfl).mono ?_
  rintro e w5 ⟨rfl, rfl⟩
  rw [show (Sec.wait ⟨zeros, [one7], false⟩).length = 1 from rfl]
  go_wp2_with fail
  go_ret
  exact ⟨rfl, HL4.out.bel⟩

end Go.Proofs.Ytpponofbkkikfaa
