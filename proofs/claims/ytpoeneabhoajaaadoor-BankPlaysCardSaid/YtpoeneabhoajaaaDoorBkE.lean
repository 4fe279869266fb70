/- The bank's Sizes, Flush by contract; the law's awake. -/
import Derived.Test.YtpoeneabhoajaaaDoorBkD
namespace Go.Proofs.YtpoeneabhoajaaaDoor
open Go.RowKit

def sizeO : Option (List Sec) → Int
  | some ss => ss.length
  | none => 0
def Bst.sizes (s : Bst) : List Int := s.ds.map sizeO
theorem sizes_ok (s : Bst) (h : ∀ (j : Nat) (ss : List Sec), s.ds[j]? = some (some ss) → ss.length ≤ 4096) : ∀ x ∈ s.sizes, I64 x := fun x hx => by
  obtain ⟨o, ho, rfl⟩ := List.mem_map.1 hx
  obtain ⟨j, hj, rfl⟩ := List.getElem_of_mem ho
  cases hs : s.ds[j] with
  | none => unfold I64 sizeO; simp only; omega
  | some ss =>
    have := h j ss (by rw [List.getElem?_eq_getElem hj, hs])
    unfold I64 sizeO
    simp only
    omega
theorem BO.sz {w : World} {F : Nat → Prop} {g : Nat} {s : Bst} (h : BO w F g s) : ∀ (j : Nat) (ss : List Sec), s.ds[j]? = some (some ss) → ss.length ≤ 4096 := fun j ss hj => by
  obtain ⟨A, n, c, ps, Fs, h⟩ := h
  obtain ⟨p, _, hd⟩ := h.dk j ss hj
  exact hd.nl

set_option maxRecDepth 20000 in
set_option maxHeartbeats 1000000 in
theorem sizes_any (F : Nat → Prop) (g : Nat) (s : Bst) (w : World) (h : BO w F g s) :
    Calls Tryd.prog 10 #[.pointer (some ⟨g, 0, none⟩)] w (RetI w s.sizes) := by
  have HSO := mkHid (sizes_ok s h.sz)
  obtain ⟨A, n, c, ps, Fs, h⟩ := h
  have hn8 := h.n8
  obtain ⟨hc1, hc2⟩ := own_cap h.row
  have c0 := cell_of_row w g 0 _ _ _ h.blk
  simp at c0
  have HB := mkHid h
  have HLEN := mkHid h.len
  clear h
  go_enter Tryd.func10, Tryd.ntmps10
  go_wp2_with fail
  go_loopw [12, 3] (fun i out wr => ∃ (q : Nat) (O : Option Addr) (C : Nat), q ≤ n ∧ i = .int .i64 q ∧ out = .slice O q C ∧ Hid (wr.ownsRow w.heap.size 3 1 (.slice O q C) q ((s.sizes.take q).map i64v)) ∧ Hid (Below w.heap.size w wr)) (fun i _ _ => n - (intOf i).toNat)
  case atStart => exact ⟨0, none, 0, Nat.zero_le _, rfl, rfl, mkHid (World.ownsRow_nil _ _ _ _), mkHid (Below.refl _ _)⟩
  case round =>
    clear c0
    obtain ⟨q, O, C, hq, rfl, rfl, HO, HBW⟩ := hrel
    have hsz := HBW.out.size
    by_cases hlt : q < n
    · have hb := HB.out.below HBW.out
      obtain ⟨r, o, rfl, hp, hcell, _⟩ := hb.at_ hlt
      obtain ⟨od, hod⟩ : ∃ od, s.ds[q]? = some od := ⟨_, List.getElem?_eq_getElem (by rw [HLEN.out]; exact hlt)⟩
      have HTK := mkHid (show s.sizes.take (q + 1) = s.sizes.take q ++ [sizeO od] by
        unfold Bst.sizes
        rw [List.take_add_one, List.getElem?_map, hod]
        rfl)
      cases od with
      | none =>
        have hno := hb.no q hod
        rw [hp] at hno
        injection hno with hno
        subst hno
        simp only [ptrO] at hcell
        clear hb hp hod
        go_wp2_with (at_builtin; refine wpList_app _ rfl (.tmp 20) (.tmp 22) _ rfl w.heap.size el_int O q C _ rfl (HO.out.alloc _) (wr.heap.size + 1) (some ⟨wr.heap.size, 0, none⟩) 1 1 [i64v 0] rfl (SL.one _ _) (fun u hu => by obtain rfl := List.mem_singleton.1 hu; rfl) (by unfold maxLen; omega) (by omega) (by simp; omega) ?_; intro O' C' w3 ho3 hg3 hat3; have HO3 := mkHid ho3; have HG3 := mkHid hg3; clear ho3 hg3 hat3)
        go_roundw
        case rel => exact ⟨q + 1, O', C', by omega, by go_num, rfl, mkHid (by rw [HTK.out, List.map_append]; exact HO3.out), mkHid ((HBW.out.alloc hsz _).grown HG3.out (by simp; omega) (own_base HO.out))⟩
        case measure => simp [intOf]; omega
      | some ss =>
        obtain ⟨p, hp', hdk⟩ := hb.dk q ss hod
        rw [hp] at hp'
        injection hp' with hp'
        subst hp'
        simp only [ptrO, ptrV] at hcell
        have HDK := mkHid hdk
        clear hb hp hod hdk
        go_wp2_with fail
        refine (size_any _ p ss wr HDK.out).mono ?_
        rintro e w1 ⟨rfl, rfl⟩
        go_wp2_with (at_builtin; refine wpList_app _ rfl (.tmp 20) (.tmp 22) _ rfl w.heap.size el_int O q C _ rfl (HO.out.alloc _) (wr.heap.size + 1) (some ⟨wr.heap.size, 0, none⟩) 1 1 [i64v ss.length] rfl (SL.one _ _) (fun u hu => by obtain rfl := List.mem_singleton.1 hu; rfl) (by unfold maxLen; omega) (by omega) (by simp; omega) ?_; intro O' C' w3 ho3 hg3 hat3; have HO3 := mkHid ho3; have HG3 := mkHid hg3; clear ho3 hg3 hat3)
        go_roundw
        case rel => exact ⟨q + 1, O', C', by omega, by go_num, rfl, mkHid (by rw [HTK.out, List.map_append]; exact HO3.out), mkHid ((HBW.out.alloc hsz _).grown HG3.out (by simp; omega) (own_base HO.out))⟩
        case measure => simp [intOf]; omega
    · obtain rfl : q = n := by omega
      have hl : s.sizes.length = q := by unfold Bst.sizes; rw [List.length_map]; exact HLEN.out
      have ho := HO.out
      rw [List.take_of_length_le (Nat.le_of_eq hl)] at ho
      have HO' := mkHid ho
      have HL := mkHid hl
      clear ho hl
      go_wp2_with fail
      go_ret
      have ho := HO'.out
      rw [← HL.out] at ho ⊢
      exact ⟨O, C, rfl, ho, HBW.out⟩

/-! ## Flush -/
def Bst.flush1E (s : Bst) (i : Int) : Int := if s.liveE i ≠ 0 then s.liveE i else s.countE
def Bst.flush1 (s : Bst) (i : Int) : Bst := if s.liveE i ≠ 0 then s else if s.countE ≠ 0 then s.counted else { s.counted with ds := s.ds.set i.toNat (some (flushed (s.sec i))) }
/-- What is left behind a Flush, its code, and the device that had it. -/
def flushA : Bst → List Int → Bst × Int × Int
  | s, [] => (s, 0, 0)
  | s, i :: l => if s.flush1E i ≠ 0 then (s.flush1 i, s.flush1E i, i) else flushA (s.flush1 i) l

/-- One device is flushed, or why not. -/
def RetF (F : Nat → Prop) (g : Nat) (s : Bst) (i : Int) (w w' : World) : Prop := Turn F w w' ∧ ∃ F', BO w' F' g (s.flush1 i) ∧ ∀ b, F' b → F b ∨ w.heap.size ≤ b
/-- What Flush answers, and leaves. -/
def RetFl (F : Nat → Prop) (g : Nat) (w : World) (R : Bst × Int × Int) (e : Ending) (w' : World) : Prop :=
  ∃ v, e = .returned v ∧ EV w.heap.size w' v opFlush R.2.2 0 R.2.1 ∧ Turn F w w' ∧ ∃ F', BO w' F' g R.1 ∧ ∀ b, F' b → F b ∨ w.heap.size ≤ b
theorem counted_done (s : Bst) : s.counted.done ≤ s.done + 1 ∧ s.done ≤ s.counted.done := by
  unfold Bst.counted
  split
  · exact ⟨by simp only; omega, Int.le_refl _⟩
  · exact ⟨Int.le_refl _, by simp only; omega⟩
theorem flush1_done (s : Bst) (i : Int) : (s.flush1 i).done ≤ s.done + 1 ∧ s.done ≤ (s.flush1 i).done := by
  unfold Bst.flush1
  have := counted_done s
  split
  · omega
  · split <;> exact this

set_option maxRecDepth 20000 in
set_option maxHeartbeats 2000000 in
theorem bflush_any (F : Nat → Prop) (g : Nat) (s : Bst) (a : Option Addr) (m k : Nat) (l : List Int) (w : World) (h : BO w F g s) (hx : IS w w.heap.size a m l) (hout : ∀ ad : Addr, a = some ad → ¬ F ad.block) (hd : 0 ≤ s.done ∧ s.done ≤ 1000000) (hm : m ≤ 1000000) :
    Calls Tryd.prog 33 #[.pointer (some ⟨g, 0, none⟩), .slice a m k] w (RetFl F g w (flushA s l)) := by
  have HX := mkHid hx
  have HO := mkHid hout
  have HBO := mkHid h
  have HL := mkHid hx.len
  clear h hx hout
  obtain ⟨hd0, hd1⟩ := hd
  go_enter Tryd.func33, Tryd.ntmps33
  go_wp2_with fail
  go_loopw [11] (fun i wr => ∃ (q : Nat) (F' : Nat → Prop) (t : Bst), q ≤ m ∧ i = .int .i64 q ∧ 0 ≤ t.done ∧ t.done ≤ 1000000 + q ∧ Hid (flushA t (l.drop q) = flushA s l) ∧ Hid (Turn F w wr) ∧ Hid (BO wr F' g t) ∧ Hid (∀ b, F' b → F b ∨ w.heap.size ≤ b)) (fun i _ => m - (intOf i).toNat)
  case atStart => exact ⟨0, F, s, Nat.zero_le _, rfl, hd0, by omega, mkHid rfl, mkHid (Turn.of_below (Below.refl _ _)), HBO, mkHid fun b hb => .inl hb⟩
  case round =>
    clear HBO
    obtain ⟨q, F', t, hq, rfl, ht0, ht1, HFL, HT, HB, HF⟩ := hrel
    by_cases hlt : q < m
    · obtain ⟨b, o, rfl, hb, hcell, hI⟩ := (HX.out.turn HT.out HO.out).at_ hlt
      have HDR := mkHid (show l.drop q = (l[q]?.getD 0) :: l.drop (q + 1) by
        have := HL.out
        rw [List.drop_eq_getElem_cons (by omega), List.getElem?_eq_getElem (by omega)]
        rfl)
      generalize l[q]?.getD 0 = x at *
      have HI := mkHid hI
      have HFA := mkHid (show (if t.flush1E x ≠ 0 then (t.flush1 x, t.flush1E x, x) else flushA (t.flush1 x) (l.drop (q + 1))) = flushA s l from by
        rw [← HFL.out, HDR.out]; rfl)
      obtain ⟨A, n, c, ps, Fs, hbk⟩ := HB.out
      have HBK := mkHid hbk
      clear hI hbk
      by_cases hlv : t.liveE x = 0
      case neg =>
        have HE := mkHid (show t.flush1E x = t.liveE x ∧ t.flush1 x = t from ⟨if_pos hlv, if_pos hlv⟩)
        have HNE := mkHid hlv
        have HCV := mkHid (show cv (t.liveE x) = codeV (t.liveE x) from if_neg hlv)
        have HFA' := mkHid (show flushA s l = (t, t.liveE x, x) by rw [← HFA.out, HE.out.1, if_pos hlv, HE.out.2])
        clear hlv
        go_wp2_with fail
        refine (live_any F' g A n c ps Fs t x wr HBK.out HI.out).mono ?_
        rintro e w1 ⟨rfl, ⟨_, rfl⟩ | ⟨h1, _⟩⟩
        · go_wp2_with fail
          have hw := wrap_cv opFlush x 0 (t.liveE x) wr
          rw [HCV.out] at hw
          refine hw.mono ?_
          rintro e w2 ⟨v, rfl, hv, hb2⟩
          have HV := mkHid (hv.base HT.out.size)
          have HB2 := mkHid hb2
          clear hv hb2 hw
          go_wp2_with fail
          go_ret
          refine ⟨v, rfl, by rw [HFA'.out]; exact HV.out, HT.out.trans (Turn.of_below (F := F) HB2.out) fun b hb => .inl hb, F', by rw [HFA'.out]; exact HB.out.below HB2.out, HF.out⟩
        · exact absurd h1 HNE.out
      obtain ⟨j, ss, rfl, hj, hsec⟩ := live_dev hlv
      have HLV := mkHid hlv
      have HJ := mkHid hj
      have HSEC := mkHid hsec
      clear hlv hj hsec
      have HLE := mkHid (show ∀ e w1, RetD wr g ps (j : Int) (t.liveE j) e w1 → wr = w1 ∧ ∃ p, ps[j]? = some (some p) ∧ e = .returned (.tuple #[ptrV p, .nilIface]) from fun e w1 hr => by
        obtain ⟨h1, ⟨h2, _⟩ | ⟨_, p, h3, h4⟩⟩ := hr
        · exact absurd HLV.out h2
        · rw [Int.toNat_natCast] at h3
          exact ⟨h1, p, h3, h4⟩)
      go_wp2_with fail
      refine (live_any F' g A n c ps Fs t j wr HBK.out HI.out).mono ?_
      intro e w1 hr
      obtain ⟨rfl, p, hp, rfl⟩ := HLE.out e w1 hr
      have HP := mkHid hp
      clear hp hr
      go_wp2_with fail
      refine (count_any F' g A n c ps Fs t wr HBK.out ⟨ht0, by omega⟩).mono ?_
      rintro e w1 ⟨rfl, ht1', hb1⟩
      have HT1 := mkHid ht1'
      have HB1 := mkHid hb1
      clear ht1' hb1
      by_cases hce : t.countE = 0
      case neg =>
        have HE := mkHid (show t.flush1E j = t.countE ∧ t.flush1 j = t.counted from ⟨if_neg (by rw [HLV.out]; simp), by unfold Bst.flush1; rw [if_neg (by rw [HLV.out]; simp), if_pos hce]⟩)
        have HFA' := mkHid (show flushA s l = (t.counted, t.countE, (j : Int)) by rw [← HFA.out, HE.out.1, if_pos hce, HE.out.2])
        have HCV := mkHid (show cv t.countE = codeV t.countE from if_neg hce)
        have hw := wrap_cv opFlush j 0 t.countE w1
        rw [HCV.out] at hw ⊢
        have HW := mkHid hw
        clear hce hw
        go_wp2_with fail
        refine HW.out.mono ?_
        rintro e w2 ⟨v, rfl, hv, hb2⟩
        have HV := mkHid (hv.base (Nat.le_trans HT.out.size HT1.out.size))
        have HB2 := mkHid hb2
        clear hv hb2
        go_wp2_with fail
        go_ret
        refine ⟨v, rfl, by rw [HFA'.out]; exact HV.out, (HT.out.trans HT1.out HF.out).trans (Turn.of_below (F := F) HB2.out) fun b hb => .inl hb, F', by rw [HFA'.out]; exact BO.below ⟨A, n, c, ps, Fs, HB1.out⟩ HB2.out, HF.out⟩
      have HE := mkHid (show t.flush1E j = 0 ∧ t.flush1 j = { t.counted with ds := t.counted.ds.set j (some (flushed ss)) } from ⟨by unfold Bst.flush1E; rw [if_neg (by rw [HLV.out]; simp), hce], by unfold Bst.flush1; rw [if_neg (by rw [HLV.out]; simp), if_neg (by rw [hce]; simp), HSEC.out, counted_ds, Int.toNat_natCast]⟩)
      rw [show cv t.countE = .nilIface from if_pos hce]
      have HJ1 := mkHid (show t.counted.ds[j]? = some (some ss) by rw [counted_ds]; exact HJ.out)
      have HDK1 := mkHid (show DK w1 (Fs j) p ss from by
        obtain ⟨p', h5, h6⟩ := HB1.out.dk j ss HJ1.out
        rw [HP.out] at h5
        injection h5 with h5
        injection h5 with h5
        rw [h5]
        exact h6)
      clear hce
      go_wp2_with fail
      refine (flush_any (Fs j) p ss w1 HDK1.out).mono ?_
      rintro e w2 ⟨rfl, ht2, hd2⟩
      obtain ⟨k1, F3, k2, k3⟩ := HB1.out.disk HJ1.out HP.out ht2 hd2 (fun b hb => .inl hb)
      have K1 := mkHid k1
      have K2 := mkHid k2
      have K3 := mkHid k3
      clear ht2 hd2 k1 k2 k3
      go_wp2_with fail
      go_roundw
      case rel =>
        have hdn := flush1_done t j
        refine ⟨q + 1, F3, t.flush1 j, by omega, by go_num, by omega, by omega, mkHid ?_, mkHid ((HT.out.trans HT1.out HF.out).trans K1.out HF.out), mkHid (by rw [HE.out.2]; exact K2.out), mkHid fun b hb => (K3.out b hb).elim (HF.out b) fun e => .inr (Nat.le_trans (Nat.le_trans HT.out.size HT1.out.size) e)⟩
        rw [← HFA.out, HE.out.1]
        rfl
      case measure => simp [intOf]; omega
    · obtain rfl : q = m := by omega
      have HFA := mkHid (show flushA s l = (t, 0, 0) by rw [← HFL.out, List.drop_of_length_le (Nat.le_of_eq HL.out)]; rfl)
      go_wp2_with fail
      go_ret
      refine ⟨.nilIface, rfl, by rw [HFA.out]; exact ⟨fun _ => rfl, fun e => absurd rfl e⟩, HT.out, F', by rw [HFA.out]; exact HB.out, HF.out⟩

set_option maxRecDepth 20000 in
theorem awake_any (w : World) : Calls Tryd.prog 6 #[] w fun e w' => e = .returned (.bool true) ∧ Below w.heap.size w w' := by
  go_enter Tryd.func6, Tryd.ntmps6
  go_wp2_with fail
  refine (newBank_any w).mono ?_
  rintro e w1 ⟨g, F, rfl, hb, hF, hb1⟩
  have HB := mkHid hb
  have HF := mkHid hF
  have HB1 := mkHid hb1
  clear hb hF hb1
  go_wp2_with fail
  refine (add_any F g bst0 4 w1 HB.out (by unfold I64; omega)).mono ?_
  rintro e w2 ⟨i, v, rfl, hi, _, hv, ht, F2, hb2, hF2⟩
  obtain rfl : i = 0 := hi rfl
  obtain rfl : v = .nilIface := hv.1 rfl
  have HB2 := mkHid hb2
  have HT2 := mkHid (HB1.out.trans (ht.below HF.out HB1.out.size))
  clear hi hv ht hb2 hF2
  go_wp2_with fail
  refine (sizes_any F2 g (bst0.added 4) w2 HB2.out).mono ?_
  rintro e w3 ⟨A, c, rfl, ho, hb3⟩
  rw [show (bst0.added 4).sizes = [4] from rfl] at ho ⊢
  obtain ⟨r, hr, _, _, hcell⟩ := (show ∃ r, A = some ⟨r, 0, none⟩ ∧ True ∧ True ∧ w3.cell? ⟨r, 0, none⟩ = some (.int .i64 4) from by
    obtain ⟨r, cap, hv, _, _⟩ := ho.form (by decide)
    have ha : A = some ⟨r, 0, none⟩ := by injection hv
    subst ha
    have hc := ho.cells (g := r) rfl 0 (.int .i64 4) rfl
    have e1 : (⟨r, 0, none⟩ : Addr).add 0 = ⟨r, 0, none⟩ := by unfold Addr.add; split <;> simp_all
    rw [e1] at hc
    exact ⟨r, rfl, trivial, trivial, hc⟩)
  subst hr
  have HB3 := mkHid hb3
  rw [show [(4 : Int)].length = 1 from rfl]
  clear ho hb3
  go_wp2_with fail
  go_ret
  exact ⟨rfl, HT2.out.trans (HB3.out.mono HT2.out.size)⟩

end Go.Proofs.YtpoeneabhoajaaaDoor
