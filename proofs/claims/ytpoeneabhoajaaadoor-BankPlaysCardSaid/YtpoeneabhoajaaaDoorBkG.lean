/- The bank's Read, Detach, Bad by contract. -/
import Derived.Test.YtpoeneabhoajaaaDoorDpE4
namespace Go.Proofs.YtpoeneabhoajaaaDoor
open Go.RowKit

theorem RetD.no {w w1 : World} {g : Nat} {ps : List (Option Nat)} {i c : Int} {e : Ending} (h : RetD w g ps i c e w1) (hc : c ≠ 0) : w = w1 ∧ e = .returned (.tuple #[.pointer none, codeV c]) := by
  obtain ⟨h1, ⟨_, h2⟩ | ⟨h2, _⟩⟩ := h
  · exact ⟨h1, h2⟩
  · exact absurd h2 hc
theorem RetD.ok {w w1 : World} {F : Nat → Prop} {g : Nat} {A : Option Addr} {n c : Nat} {ps : List (Option Nat)} {Fs : Nat → Nat → Prop} {s : Bst} {j : Nat} {ss : List Sec} {e : Ending} (hb : BK w F g A n c ps Fs s) (hj : s.ds[j]? = some (some ss)) (h : RetD w g ps (j : Int) 0 e w1) :
    w = w1 ∧ ∃ p, ps[j]? = some (some p) ∧ e = .returned (.tuple #[ptrV p, .nilIface]) ∧ DK w (Fs j) p ss := by
  obtain ⟨h1, ⟨h2, _⟩ | ⟨_, p, h3, h4⟩⟩ := h
  · exact absurd rfl h2
  · rw [Int.toNat_natCast] at h3
    obtain ⟨p', h5, h6⟩ := hb.dk j ss hj
    rw [h3] at h5
    injection h5 with h5
    injection h5 with h5
    subst h5
    exact ⟨h1, p, h3, h4, h6⟩
theorem dev_dev {s : Bst} {i : Int} (h : s.devE i = 0) : ∃ (k : Nat) (ss : List Sec), i = k ∧ s.ds[k]? = some (some ss) ∧ s.sec i = ss := by
  rcases dev_cases s i with ⟨_, h2⟩ | ⟨_, _, _, h2⟩ | ⟨k, ss, h1, h2, _, h3⟩
  · rw [h2] at h; cases h
  · rw [h2] at h; cases h
  · exact ⟨k, ss, h1, h2, h3⟩

abbrev opRead : ByteArray := ⟨#[114, 101, 97, 100]⟩
abbrev opDetach : ByteArray := ⟨#[100, 101, 116, 97, 99, 104]⟩
abbrev opBad : ByteArray := ⟨#[98, 97, 100]⟩
abbrev opFill : ByteArray := ⟨#[102, 105, 108, 108]⟩

def Bst.rdE (s : Bst) (i k : Int) : Int := if s.liveE i ≠ 0 then s.liveE i else rdN (s.sec i) k
def Bst.rdL (s : Bst) (i k : Int) : List Int := if s.liveE i ≠ 0 then [] else Go.Proofs.YtpoeneabhoajaaaDoor.rdL (s.sec i) k
theorem rdE_cv (ss : List Sec) (k : Int) : Go.Proofs.YtpoeneabhoajaaaDoor.rdE ss k = cv (rdN ss k) := rfl
/-- What Read answers. -/
def RetR (s : Bst) (i k : Int) (w : World) (e : Ending) (w' : World) : Prop :=
  ∃ (A : Option Addr) (m c : Nat) (v : Value), e = .returned (.tuple #[.slice A m c, v]) ∧ m = (s.rdL i k).length ∧ m ≤ 128 ∧ BS w' w'.heap.size A m (s.rdL i k) ∧ EV w.heap.size w' v opRead i k (s.rdE i k) ∧ Below w.heap.size w w'

set_option maxRecDepth 20000 in
theorem bread_any (F : Nat → Prop) (g : Nat) (s : Bst) (i k : Int) (w : World) (h : BO w F g s) (hi : I64 i) (hk : I64 k) :
    Calls Tryd.prog 27 #[.pointer (some ⟨g, 0, none⟩), .int .i64 i, .int .i64 k] w (RetR s i k w) := by
  obtain ⟨A, n, c, ps, Fs, h⟩ := h
  have HL := mkHid (live_any F g A n c ps Fs s i w h hi)
  have HB := mkHid h
  have HK := mkHid hk
  clear h hi hk
  by_cases hl : s.liveE i = 0
  case neg =>
    have HE := mkHid (show s.rdE i k = s.liveE i ∧ s.rdL i k = [] from ⟨if_pos hl, if_pos hl⟩)
    have HNE := mkHid hl
    have hw := wrap_cv opRead i k (s.liveE i) w
    rw [show cv (s.liveE i) = codeV (s.liveE i) from if_neg hl] at hw
    have HW := mkHid hw
    clear hl hw
    go_enter Tryd.func27, Tryd.ntmps27
    go_wp2_with fail
    refine HL.out.mono ?_
    intro e w1 hr
    obtain ⟨rfl, rfl⟩ := hr.no HNE.out
    clear hr
    go_wp2_with fail
    refine HW.out.mono ?_
    rintro e w2 ⟨v, rfl, hv, hb2⟩
    have HV := mkHid hv
    have HB2 := mkHid hb2
    clear hv hb2
    go_wp2_with fail
    go_ret2
    exact ⟨none, 0, 0, v, rfl, by rw [HE.out.2]; rfl, by omega, by rw [HE.out.2]; exact BS.nil, by rw [HE.out.1]; exact HV.out, HB2.out⟩
  obtain ⟨j, ss, rfl, hj, hsec⟩ := live_dev hl
  rw [hl] at HL
  have HE := mkHid (show s.rdE j k = rdN ss k ∧ s.rdL j k = Go.Proofs.YtpoeneabhoajaaaDoor.rdL ss k from ⟨by unfold Bst.rdE; rw [if_neg (by rw [hl]; simp), hsec], by unfold Bst.rdL; rw [if_neg (by rw [hl]; simp), hsec]⟩)
  have HJ := mkHid hj
  clear hl hj hsec
  go_enter Tryd.func27, Tryd.ntmps27
  go_wp2_with fail
  refine HL.out.mono ?_
  intro e w1 hr
  obtain ⟨rfl, p, hp, rfl, hdk⟩ := RetD.ok HB.out HJ.out hr
  have HDK := mkHid hdk
  clear hp hdk hr
  go_wp2_with fail
  refine (read_all (Fs j) p ss k w HDK.out HK.out).mono ?_
  rintro e w1 ⟨A1, m1, c1, hm1, hm2, rfl, ho1, hok, hb1⟩
  have HM1 := mkHid hm1
  have HO1 := mkHid ho1
  have HOK := mkHid hok
  have HB1 := mkHid hb1
  clear hm1 ho1 hok hb1
  rw [rdE_cv]
  go_wp2_with fail
  refine (wrap_cv opRead j k (rdN ss k) w1).mono ?_
  rintro e w2 ⟨v, rfl, hv, hb2⟩
  have HV := mkHid (hv.base HB1.out.size)
  have HB2 := mkHid hb2
  clear hv hb2
  go_wp2_with fail
  go_ret2
  exact ⟨A1, m1, c1, v, rfl, by rw [HE.out.2]; exact HM1.out, hm2, by rw [HE.out.2]; exact ⟨SL.of_own (own_below HO1.out HB2.out), HOK.out⟩, by rw [HE.out.1]; exact HV.out, HB1.out.trans (HB2.out.mono HB1.out.size)⟩

/-! ## Detach -/
def Bst.detached (s : Bst) (i : Int) : Bst := if s.liveE i ≠ 0 then s else { s with ds := s.ds.set i.toNat none }
theorem BK.detach {w : World} {F : Nat → Prop} {g r : Nat} {n c : Nat} {ps : List (Option Nat)} {Fs : Nat → Nat → Prop} {s : Bst} (h : BK w F g (some ⟨r, 0, none⟩) n c ps Fs s) {j : Nat} (hj : j < n) :
    Turn F w (w.setCell ⟨r, j, none⟩ (.pointer none)) ∧ BO (w.setCell ⟨r, j, none⟩ (.pointer none)) F g { s with ds := s.ds.set j none } := by
  have hk : ∀ b, b ≠ r → (w.setCell ⟨r, j, none⟩ (.pointer none)).heap[b]? = w.heap[b]? := fun b hb => heap_setCell_other _ _ _ _ hb
  have hz : (w.setCell ⟨r, j, none⟩ (.pointer none)).heap.size = w.heap.size := by simp [World.setCell]
  have hrF := h.fr r rfl
  have hgr : g ≠ r := fun e => h.rg (by rw [e]; rfl)
  have hlen := h.len
  refine ⟨turn_only hrF hk ⟨rfl, rfl, rfl, hz⟩, some ⟨r, 0, none⟩, n, c, ps.set j none, Fs, (hk g hgr).trans h.blk, ?_, by rw [List.length_set]; exact h.len, fun i s1 hi => ?_, fun i hi => ?_, h.fs, h.ap, h.fg, h.fr, fun b hb => by rw [hz]; exact h.lt b hb, h.n8, h.lf⟩
  · have := own_set (v := ptrO none) h.row hj
    rw [List.map_set]
    exact this
  · simp only at hi
    by_cases hij : j = i
    · subst hij
      rw [List.getElem?_set_self (by omega)] at hi
      cases hi
    · rw [List.getElem?_set_ne hij] at hi
      obtain ⟨p, h1, h2⟩ := h.dk i s1 hi
      exact ⟨p, by rw [List.getElem?_set_ne hij]; exact h1, h2.keep (Nat.le_of_eq hz.symm) fun b hb => hk b fun e => (h.fs i b hb).2.2 (by rw [e]; rfl)⟩
  · simp only at hi
    by_cases hij : j = i
    · subst hij
      exact List.getElem?_set_self (by rw [h.lp]; exact hj)
    · rw [List.getElem?_set_ne hij] at hi
      rw [List.getElem?_set_ne hij]
      exact h.no i hi
/-- A call that answers a fault, and leaves the bank t. -/
def RetE (F : Nat → Prop) (g : Nat) (t : Bst) (op : ByteArray) (i k c : Int) (w : World) (e : Ending) (w' : World) : Prop :=
  ∃ v, e = .returned v ∧ EV w.heap.size w' v op i k c ∧ Turn F w w' ∧ ∃ F', BO w' F' g t ∧ ∀ b, F' b → F b ∨ w.heap.size ≤ b

set_option maxRecDepth 20000 in
theorem detach_any (F : Nat → Prop) (g : Nat) (s : Bst) (i : Int) (w : World) (h : BO w F g s) (hi : I64 i) :
    Calls Tryd.prog 9 #[.pointer (some ⟨g, 0, none⟩), .int .i64 i] w (RetE F g (s.detached i) opDetach i 0 (s.liveE i) w) := by
  obtain ⟨A, n, c, ps, Fs, h⟩ := h
  have HL := mkHid (live_any F g A n c ps Fs s i w h hi)
  have HB := mkHid h
  by_cases hl : s.liveE i = 0
  case neg =>
    have HE := mkHid (show s.detached i = s from if_pos hl)
    have HNE := mkHid hl
    have hw := wrap_cv opDetach i 0 (s.liveE i) w
    rw [show cv (s.liveE i) = codeV (s.liveE i) from if_neg hl] at hw
    have HW := mkHid hw
    clear hl hw h hi
    go_enter Tryd.func9, Tryd.ntmps9
    go_wp2_with fail
    refine HL.out.mono ?_
    intro e w1 hr
    obtain ⟨rfl, rfl⟩ := hr.no HNE.out
    clear hr
    go_wp2_with fail
    refine HW.out.mono ?_
    rintro e w2 ⟨v, rfl, hv, hb2⟩
    have HV := mkHid hv
    have HB2 := mkHid hb2
    clear hv hb2
    go_wp2_with fail
    go_ret
    exact ⟨v, rfl, HV.out, Turn.of_below HB2.out, F, by rw [HE.out]; exact BO.below ⟨A, n, c, ps, Fs, HB.out⟩ HB2.out, fun b hb => .inl hb⟩
  obtain ⟨j, ss, rfl, hj, hsec⟩ := live_dev hl
  have HE := mkHid (show s.detached j = { s with ds := s.ds.set j none } from by unfold Bst.detached; rw [if_neg (by rw [hl]; simp), Int.toNat_natCast])
  have HLV := mkHid hl
  rw [hl] at HL
  have HJ := mkHid hj
  have hjn : j < n := by rw [← h.len]; exact (List.getElem?_eq_some_iff.1 hj).1
  obtain ⟨r, q, rfl, hq, hcell, hfz⟩ := h.at_ hjn
  obtain ⟨v0, hv0⟩ : ∃ v, ptrO q = v := ⟨_, rfl⟩
  rw [hv0] at hcell
  have c0 := cell_of_row w g 0 _ _ _ h.blk
  simp at c0
  have HF := mkHid (h.detach hjn)
  have hn8 := h.n8
  obtain ⟨hc1, hc2⟩ := own_cap h.row
  clear hl hj hsec h hi hq hv0
  go_enter Tryd.func9, Tryd.ntmps9
  go_wp2_with fail
  refine HL.out.mono ?_
  intro e w1 hr
  obtain ⟨rfl, p, hp, rfl, hdk⟩ := RetD.ok HB.out HJ.out hr
  clear hp hdk hr
  go_wp2_with fail
  refine (wrap_nil opDetach j 0 _).mono ?_
  rintro e w2 ⟨rfl, rfl⟩
  go_wp2_with fail
  go_ret
  refine ⟨.nilIface, rfl, ⟨fun _ => rfl, fun e => absurd HLV.out e⟩, HF.out.1, F, ?_, fun b hb => .inl hb⟩
  rw [HE.out]
  exact HF.out.2

/-! ## Bad -/
def bnext (ss : List Sec) (k : Int) (on : Bool) : List Sec := match ss[k.toNat]? with
  | some x => ss.set k.toNat { x with bad := on }
  | none => ss
def Bst.badE (s : Bst) (i k : Int) : Int := if s.devE i ≠ 0 then s.devE i else if hasOf (s.sec i).length k = false then 20 else 0
def Bst.badded (s : Bst) (i k : Int) (on : Bool) : Bst := if s.badE i k ≠ 0 then s else { s with ds := s.ds.set i.toNat (some (bnext (s.sec i) k on)) }

set_option maxRecDepth 20000 in
theorem bbad_any (F : Nat → Prop) (g : Nat) (s : Bst) (i k : Int) (on : Bool) (w : World) (h : BO w F g s) (hi : I64 i) (hk : I64 k) :
    Calls Tryd.prog 37 #[.pointer (some ⟨g, 0, none⟩), .int .i64 i, .int .i64 k, .bool on] w (RetE F g (s.badded i k on) opBad i k (s.badE i k) w) := by
  obtain ⟨A, n, c, ps, Fs, h⟩ := h
  have HL := mkHid (device_any F g A n c ps Fs s i w h hi)
  have HB := mkHid h
  have HK := mkHid hk
  clear h hi hk
  by_cases hl : s.devE i = 0
  case neg =>
    have HE := mkHid (show s.badE i k = s.devE i ∧ s.badded i k on = s from ⟨if_pos hl, if_pos (by unfold Bst.badE; rw [if_pos hl]; exact hl)⟩)
    have HNE := mkHid hl
    have hw := wrap_cv opBad i k (s.devE i) w
    rw [show cv (s.devE i) = codeV (s.devE i) from if_neg hl] at hw
    have HW := mkHid hw
    clear hl hw
    go_enter Tryd.func37, Tryd.ntmps37
    go_wp2_with fail
    refine HL.out.mono ?_
    intro e w1 hr
    obtain ⟨rfl, rfl⟩ := hr.no HNE.out
    clear hr
    go_wp2_with fail
    refine HW.out.mono ?_
    rintro e w2 ⟨v, rfl, hv, hb2⟩
    have HV := mkHid hv
    have HB2 := mkHid hb2
    clear hv hb2
    go_wp2_with fail
    go_ret
    exact ⟨v, rfl, by rw [HE.out.1]; exact HV.out, Turn.of_below HB2.out, F, by rw [HE.out.2]; exact BO.below ⟨A, n, c, ps, Fs, HB.out⟩ HB2.out, fun b hb => .inl hb⟩
  obtain ⟨j, ss, rfl, hj, hsec⟩ := dev_dev hl
  rw [hl] at HL
  have HJ := mkHid hj
  have HLV := mkHid hl
  have HSEC := mkHid hsec
  clear hl hj hsec
  cases hh : hasOf ss.length k with
  | false =>
    have HE := mkHid (show s.badE j k = 20 ∧ s.badded j k on = s from by
      have h1 : s.badE j k = 20 := by unfold Bst.badE; rw [if_neg (by rw [HLV.out]; simp), HSEC.out, if_pos hh]
      exact ⟨h1, if_pos (by rw [h1]; decide)⟩)
    have HH := mkHid hh
    clear hh
    go_enter Tryd.func37, Tryd.ntmps37
    go_wp2_with fail
    refine HL.out.mono ?_
    intro e w1 hr
    obtain ⟨rfl, p, hp, rfl, hdk⟩ := RetD.ok HB.out HJ.out hr
    have HDK := mkHid hdk
    clear hp hdk hr
    go_wp2_with fail
    refine (bad_no (Fs j) p ss k on w HDK.out HK.out HH.out).mono ?_
    rintro e w1 ⟨rfl, rfl⟩
    go_wp2_with fail
    refine (wrap_cv opBad j k 20 w).mono ?_
    rintro e w2 ⟨v, rfl, hv, hb2⟩
    have HV := mkHid hv
    have HB2 := mkHid hb2
    clear hv hb2
    go_wp2_with fail
    go_ret
    exact ⟨v, rfl, by rw [HE.out.1]; exact HV.out, Turn.of_below HB2.out, F, by rw [HE.out.2]; exact BO.below ⟨A, n, c, ps, Fs, HB.out⟩ HB2.out, fun b hb => .inl hb⟩
  | true =>
    have HE := mkHid (show s.badE j k = 0 ∧ s.badded j k on = { s with ds := s.ds.set j (some (bnext ss k on)) } from by
      have h1 : s.badE j k = 0 := by unfold Bst.badE; rw [if_neg (by rw [HLV.out]; simp), HSEC.out, if_neg (by rw [hh]; simp)]
      refine ⟨h1, ?_⟩
      unfold Bst.badded
      rw [if_neg (by rw [h1]; simp), HSEC.out, Int.toNat_natCast])
    obtain ⟨K, rfl, hK⟩ := hasOf_nat hh
    have HX := mkHid (List.getElem?_eq_getElem (l := ss) (i := K) hK)
    have HBN := mkHid (show bnext ss (K : Int) on = ss.set K { ss[K] with bad := on } by unfold bnext; rw [Int.toNat_natCast, HX.out])
    clear hh
    go_enter Tryd.func37, Tryd.ntmps37
    go_wp2_with fail
    refine HL.out.mono ?_
    intro e w1 hr
    obtain ⟨rfl, p, hp, rfl, hdk⟩ := RetD.ok HB.out HJ.out hr
    have HDK := mkHid hdk
    have HP := mkHid hp
    clear hp hdk hr
    go_wp2_with fail
    refine (bad_ok (Fs j) p ss K _ on w HDK.out HX.out).mono ?_
    rintro e w1 ⟨rfl, ht1, hd1⟩
    obtain ⟨k1, F3, k2, k3⟩ := HB.out.disk HJ.out HP.out ht1 hd1 (fun b hb => .inl hb)
    have K1 := mkHid k1
    have K2 := mkHid k2
    have K3 := mkHid k3
    clear ht1 hd1 k1 k2 k3
    go_wp2_with fail
    refine (wrap_nil opBad j K w1).mono ?_
    rintro e w2 ⟨rfl, rfl⟩
    go_wp2_with fail
    go_ret
    refine ⟨.nilIface, rfl, ⟨fun _ => rfl, fun e => absurd HE.out.1 e⟩, K1.out, F3, ?_, K3.out⟩
    rw [HE.out.2, HBN.out]
    exact K2.out

end Go.Proofs.YtpoeneabhoajaaaDoor
