/- The bank's Grow, Pending by contract. -/
import Derived.Test.YtpoeneabhoajaaaDoorBrC
namespace Go.Proofs.YtpoeneabhoajaaaDoor
open Go.RowKit

abbrev opGrow : ByteArray := ⟨#[103, 114, 111, 119]⟩
set_option maxRecDepth 20000 in
theorem bgrow_any (F : Nat → Prop) (g : Nat) (s : Bst) (i k : Int) (w : World) (h : BO w F g s) (hi : I64 i) (hk : I64 k) :
    Calls Tryd.prog 24 #[.pointer (some ⟨g, 0, none⟩), .int .i64 i, .int .i64 k] w (RetE F g (s.grown i k) opGrow i 0 (s.growE i k) w) := by
  obtain ⟨A, n, c, ps, Fs, h⟩ := h
  have HL := mkHid (live_any F g A n c ps Fs s i w h hi)
  have HB := mkHid h
  have HK := mkHid hk
  clear h hi hk
  by_cases hl : s.liveE i = 0
  case neg =>
    have HE := mkHid (show s.growE i k = s.liveE i ∧ s.grown i k = s from ⟨if_pos hl, if_pos hl⟩)
    have HNE := mkHid hl
    have hw := wrap_cv opGrow i 0 (s.liveE i) w
    rw [show cv (s.liveE i) = codeV (s.liveE i) from if_neg hl] at hw
    have HW := mkHid hw
    clear hl hw
    go_enter Tryd.func24, Tryd.ntmps24
    go_wp2_with fail
    refine HL.out.mono ?_
    intro e w1 hr
    obtain ⟨rfl, rfl⟩ := hr.no HNE.out
    clear hr
    go_wp2_with fail
    refine HW.out.mono ?_
    rintro e w2 ⟨v, rfl, hv, hb2⟩
    have HV := mkHid hv
    have HB2 := mkHid hb2
    clear hv hb2
    go_wp2_with fail
    go_ret
    exact ⟨v, rfl, by rw [HE.out.1]; exact HV.out, Turn.of_below HB2.out, F, by rw [HE.out.2]; exact BO.below ⟨A, n, c, ps, Fs, HB.out⟩ HB2.out, fun b hb => .inl hb⟩
  obtain ⟨j, ss, rfl, hj, hsec⟩ := live_dev hl
  rw [hl] at HL
  have HE := mkHid (show s.growE j k = rgres ss.length k ∧ s.grown j k = { s with ds := s.ds.set j (some (gnext ss k)) } from ⟨by unfold Bst.growE; rw [if_neg (by rw [hl]; simp), hsec], by unfold Bst.grown; rw [if_neg (by rw [hl]; simp), hsec, Int.toNat_natCast]⟩)
  have HJ := mkHid hj
  clear hl hj hsec
  go_enter Tryd.func24, Tryd.ntmps24
  go_wp2_with fail
  refine HL.out.mono ?_
  intro e w1 hr
  obtain ⟨rfl, p, hp, rfl, hdk⟩ := RetD.ok HB.out HJ.out hr
  have HDK := mkHid hdk
  have HP := mkHid hp
  clear hp hdk hr
  go_wp2_with fail
  refine (grow_all (Fs j) p ss k w HDK.out HK.out).mono ?_
  rintro e w1 ⟨rfl, ht1, F1, hd1, hF1⟩
  obtain ⟨k1, F3, k2, k3⟩ := HB.out.disk HJ.out HP.out ht1 hd1 hF1
  have K1 := mkHid k1
  have K2 := mkHid k2
  have K3 := mkHid k3
  rw [gres_cv]
  clear ht1 hd1 hF1 k1 k2 k3
  go_wp2_with fail
  refine (wrap_cv opGrow j 0 (rgres ss.length k) w1).mono ?_
  rintro e w2 ⟨v, rfl, hv, hb2⟩
  have HV := mkHid (hv.base K1.out.size)
  have HB2 := mkHid hb2
  clear hv hb2
  go_wp2_with fail
  go_ret
  exact ⟨v, rfl, by rw [HE.out.1]; exact HV.out, K1.out.trans (Turn.of_below (F := F3) HB2.out) K3.out, F3, by rw [HE.out.2]; exact K2.out.below HB2.out, K3.out⟩

/-- How many sectors of the devices wait. -/
def pendB : List (Option (List Sec)) → Nat
  | [] => 0
  | none :: r => pendB r
  | some ss :: r => (pend ss).length + pendB r
theorem pendB_app : ∀ (a b : List (Option (List Sec))), pendB (a ++ b) = pendB a + pendB b
  | [], b => by simp [pendB]
  | none :: r, b => by rw [List.cons_append, pendB, pendB, pendB_app r b]
  | some ss :: r, b => by rw [List.cons_append, pendB, pendB, pendB_app r b, Nat.add_assoc]
theorem pendB_none {d : List (Option (List Sec))} {q : Nat} (h : d[q]? = some none) : pendB (d.take (q + 1)) = pendB (d.take q) := by
  rw [List.take_add_one, h, Option.toList_some, pendB_app]; simp [pendB]
theorem pendB_some {d : List (Option (List Sec))} {q : Nat} {ss : List Sec} (h : d[q]? = some (some ss)) : pendB (d.take (q + 1)) = pendB (d.take q) + (pend ss).length := by
  rw [List.take_add_one, h, Option.toList_some, pendB_app]; simp [pendB]

set_option maxRecDepth 20000 in
theorem bpending_any (F : Nat → Prop) (g : Nat) (s : Bst) (w : World) (h : BO w F g s) :
    Calls Tryd.prog 43 #[.pointer (some ⟨g, 0, none⟩)] w fun e w' => e = .returned (.int .i64 (pendB s.ds)) ∧ Below w.heap.size w w' := by
  obtain ⟨A, n, c, ps, Fs, h⟩ := h
  have hn8 := h.n8
  obtain ⟨hc1, hc2⟩ := own_cap h.row
  have c0 := cell_of_row w g 0 _ _ _ h.blk
  simp at c0
  have HLEN := mkHid h.len
  have HB := mkHid h
  clear h
  go_enter Tryd.func43, Tryd.ntmps43
  go_wp2_with fail
  go_loopw [11, 3] (fun i t wr => ∃ (q T : Nat), q ≤ n ∧ i = .int .i64 q ∧ t = .int .i64 T ∧ T ≤ q * 4096 ∧ Hid (T = pendB (s.ds.take q)) ∧ Hid (Below w.heap.size w wr)) (fun i _ _ => n - (intOf i).toNat)
  case atStart => exact ⟨0, 0, Nat.zero_le _, rfl, rfl, by omega, mkHid rfl, mkHid (Below.refl _ _)⟩
  case round =>
    clear c0
    obtain ⟨q, T, hq, rfl, rfl, hT, HT, HW⟩ := hrel
    by_cases hlt : q < n
    · have hb := HB.out.below HW.out
      obtain ⟨r, o, rfl, hp, hcell, _⟩ := hb.at_ hlt
      obtain ⟨od, hod⟩ : ∃ od, s.ds[q]? = some od := ⟨_, List.getElem?_eq_getElem (by rw [HLEN.out]; exact hlt)⟩
      cases od with
      | none =>
        have hno := hb.no q hod
        rw [hp] at hno
        injection hno with hno
        subst hno
        simp only [ptrO] at hcell
        have HP := mkHid (pendB_none hod)
        clear hb hp hod
        go_wp2_with fail
        go_roundw
        case rel => exact ⟨q + 1, T, by omega, by go_num, rfl, by omega, mkHid (by rw [HP.out]; exact HT.out), HW⟩
        case measure => simp [intOf]; omega
      | some ss =>
        obtain ⟨p, hp', hdk⟩ := hb.dk q ss hod
        rw [hp] at hp'
        injection hp' with hp'
        subst hp'
        simp only [ptrO, ptrV] at hcell
        have HDK := mkHid hdk
        have hpl : (pend ss).length ≤ 4096 := Nat.le_trans (pendN_len ss _) hdk.nl
        have HP := mkHid (pendB_some hod)
        clear hb hp hod hdk
        go_wp2_with fail
        refine (pending_any (Fs q) p ss wr HDK.out).mono ?_
        rintro e w1 ⟨PA, pc, rfl, _, hb1⟩
        have HB1 := mkHid hb1
        clear hb1
        go_wp2_with fail
        go_roundw
        case rel => exact ⟨q + 1, T + (pend ss).length, by omega, by go_num, by go_num, by omega, mkHid (by rw [HP.out, HT.out]), mkHid (HW.out.trans (HB1.out.mono HW.out.size))⟩
        case measure => simp [intOf]; omega
    · obtain rfl : q = n := by omega
      have HL := mkHid (show s.ds.take q = s.ds from List.take_of_length_le (by rw [HLEN.out]; exact Nat.le_refl _))
      go_wp2_with fail
      go_ret
      exact ⟨ret_int (by first | rfl | rw [HT.out, HL.out]), HW.out⟩

set_option maxRecDepth 20000 in
theorem rbpending_any (F : Nat → Prop) (g : Nat) (s : Bst) (w : World) (h : RBO w F g s) :
    Calls Tryd.prog 44 #[.pointer (some ⟨g, 0, none⟩)] w fun e w' => e = .returned (.int .i64 (pendB s.ds)) ∧ Below w.heap.size w w' := by
  obtain ⟨A, n, c, ps, Fs, h⟩ := h
  have hn8 := h.n8
  obtain ⟨hc1, hc2⟩ := own_cap h.row
  have HLEN := mkHid h.len
  have HB := mkHid h
  clear h
  go_enter Tryd.func44, Tryd.ntmps44
  go_wp2_with fail
  go_loopw [4, 3] (fun i t wr => ∃ (q T : Nat), q ≤ n ∧ i = .int .i64 q ∧ t = .int .i64 T ∧ T ≤ q * 4096 ∧ Hid (T = pendB (s.ds.take q)) ∧ Hid (Below w.heap.size w wr)) (fun i _ _ => n - (intOf i).toNat)
  case atStart => exact ⟨0, 0, Nat.zero_le _, rfl, rfl, by omega, mkHid rfl, mkHid (Below.refl _ _)⟩
  case round =>
    obtain ⟨q, T, hq, rfl, rfl, hT, HT, HW⟩ := hrel
    have hb := HB.out.below HW.out
    have c0 := cell_of_row wr g 0 _ _ _ hb.blk
    simp at c0
    by_cases hlt : q < n
    · obtain ⟨r, o, rfl, hp, hcell, _⟩ := hb.at_ hlt
      obtain ⟨od, hod⟩ : ∃ od, s.ds[q]? = some od := ⟨_, List.getElem?_eq_getElem (by rw [HLEN.out]; exact hlt)⟩
      cases od with
      | none =>
        have hno := hb.no q hod
        rw [hp] at hno
        injection hno with hno
        subst hno
        simp only [ptrO] at hcell
        have HP := mkHid (pendB_none hod)
        clear hb hp hod
        go_wp2_with fail
        go_roundw
        case rel => exact ⟨q + 1, T, by omega, by go_num, rfl, by omega, mkHid (by rw [HP.out]; exact HT.out), HW⟩
        case measure => simp [intOf]; omega
      | some ss =>
        obtain ⟨p, hp', hdk⟩ := hb.dk q ss hod
        rw [hp] at hp'
        injection hp' with hp'
        subst hp'
        simp only [ptrO, ptrV] at hcell
        have HDK := mkHid hdk
        have hpl : (pend ss).length ≤ 4096 := Nat.le_trans (pendN_len ss _) hdk.nl
        have HP := mkHid (pendB_some hod)
        clear hb hp hod hdk
        go_wp2_with fail
        refine (rpending_any (Fs q) p ss wr HDK.out).mono ?_
        rintro e w1 ⟨PA, pc, rfl, _, hb1⟩
        have HB1 := mkHid hb1
        clear hb1
        go_wp2_with fail
        go_roundw
        case rel => exact ⟨q + 1, T + (pend ss).length, by omega, by go_num, by go_num, by omega, mkHid (by rw [HP.out, HT.out]), mkHid (HW.out.trans (HB1.out.mono HW.out.size))⟩
        case measure => simp [intOf]; omega
    · obtain rfl : q = n := by omega
      have HL := mkHid (show s.ds.take q = s.ds from List.take_of_length_le (by rw [HLEN.out]; exact Nat.le_refl _))
      clear hb
      go_wp2_with fail
      go_ret
      exact ⟨ret_int (by first | rfl | rw [HT.out, HL.out]), HW.out⟩

end Go.Proofs.YtpoeneabhoajaaaDoor
