/- The document's bank: Read, Write, Grow, Detach, Bad, Fill by contract. -/
import Derived.Test.YtpoeneabhoajaaaDoorBrB
import Derived.Test.YtpoeneabhoajaaaDoorBkF
import Derived.Test.YtpoeneabhoajaaaDoorBkH
namespace Go.Proofs.YtpoeneabhoajaaaDoor
open Go.RowKit

/-- A call of the document's bank that answers an error's number, and leaves the bank t. -/
def RetN (F : Nat → Prop) (g : Nat) (t : Bst) (c : Int) (w : World) (e : Ending) (w' : World) : Prop :=
  e = .returned (.int .i64 c) ∧ Turn F w w' ∧ ∃ F', RBO w' F' g t ∧ ∀ b, F' b → F b ∨ w.heap.size ≤ b
theorem RetN.none {F : Nat → Prop} {g : Nat} {t s : Bst} {c c' : Int} {w : World} (h : RBO w F g s) (ht : t = s) (hc : c = c') : RetN F g t c w (.returned (.int .i64 c')) w := by
  subst hc
  subst ht
  exact ⟨rfl, Turn.of_below (Below.refl _ _), F, h, fun b hb => .inl hb⟩
/-- What the document's Read answers. -/
def RetRR (s : Bst) (i k : Int) (w : World) (e : Ending) (w' : World) : Prop :=
  ∃ (A : Option Addr) (m c : Nat), e = .returned (.tuple #[.slice A m c, .int .i64 (s.rdE i k)]) ∧ m = (s.rdL i k).length ∧ BS w' w'.heap.size A m (s.rdL i k) ∧ Below w.heap.size w w'
theorem I64.nat {k : Nat} (h : k ≤ 9223372036854775807) : I64 (k : Int) := ⟨by omega, by omega⟩

set_option maxRecDepth 20000 in
theorem rbread_any (F : Nat → Prop) (g : Nat) (s : Bst) (i k : Int) (w : World) (h : RBO w F g s) (hi : I64 i) (hk : I64 k) :
    Calls Tryd.prog 28 #[.pointer (some ⟨g, 0, none⟩), .int .i64 i, .int .i64 k] w (RetRR s i k w) := by
  obtain ⟨A, n, c, ps, Fs, h⟩ := h
  have HL := mkHid (rlook_up F g A n c ps Fs s i w h hi)
  have HK := mkHid hk
  by_cases hl : s.liveE i = 0
  case neg =>
    have HE := mkHid (show s.rdE i k = s.liveE i ∧ s.rdL i k = [] from ⟨if_pos hl, if_pos hl⟩)
    have hlb : (s.liveE i != 0) = true := by simpa using hl
    clear hl h hi hk
    go_enter Tryd.func28, Tryd.ntmps28
    go_wp2_with fail
    refine HL.out.mono ?_
    rintro e w1 ⟨rfl, rfl⟩
    go_wp2_with fail
    go_ret2
    exact ⟨none, 0, 0, by rw [HE.out.1]; rfl, by rw [HE.out.2]; rfl, by rw [HE.out.2]; exact BS.nil, Below.refl _ _⟩
  obtain ⟨j, ss, rfl, hj, hsec⟩ := live_dev hl
  rw [hl] at HL
  have HE := mkHid (show s.rdE j k = rdN ss k ∧ s.rdL j k = Go.Proofs.YtpoeneabhoajaaaDoor.rdL ss k from ⟨by unfold Bst.rdE; rw [if_neg (by rw [hl]; simp), hsec], by unfold Bst.rdL; rw [if_neg (by rw [hl]; simp), hsec]⟩)
  obtain ⟨r, p, rfl, hp, hcell, hd, hjn⟩ := h.dev hj
  have c0 := cell_of_row w g 0 _ _ _ h.blk
  have hn8 := h.n8
  simp at c0
  simp only [ptrV] at hcell
  have HR := mkHid (rread_all (Fs j) p ss k w hd hk)
  clear hl hj hsec h hi hk hp hd
  go_enter Tryd.func28, Tryd.ntmps28
  go_wp2_with fail
  refine HL.out.mono ?_
  rintro e w1 ⟨rfl, rfl⟩
  go_wp2_with fail
  refine HR.out.mono ?_
  rintro e w1 ⟨A1, m1, c1, hm1, rfl, hbs, hb1⟩
  have HM1 := mkHid hm1
  have HBS := mkHid hbs
  have HB1 := mkHid hb1
  clear hm1 hbs hb1
  go_wp2_with fail
  go_ret2
  exact ⟨A1, m1, c1, by rw [HE.out.1]; rfl, by rw [HE.out.2]; exact HM1.out, by rw [HE.out.2]; exact HBS.out, HB1.out⟩

def Bst.growE (s : Bst) (i k : Int) : Int := if s.liveE i ≠ 0 then s.liveE i else rgres (s.sec i).length k
def Bst.grown (s : Bst) (i k : Int) : Bst := if s.liveE i ≠ 0 then s else { s with ds := s.ds.set i.toNat (some (gnext (s.sec i) k)) }
theorem gres_cv (n : Nat) (k : Int) : gres n k = cv (rgres n k) := by
  unfold gres rgres
  split <;> rfl

set_option maxRecDepth 20000 in
theorem rbgrow_any (F : Nat → Prop) (g : Nat) (s : Bst) (i k : Int) (w : World) (h : RBO w F g s) (hi : I64 i) (hk : I64 k) :
    Calls Tryd.prog 25 #[.pointer (some ⟨g, 0, none⟩), .int .i64 i, .int .i64 k] w (RetN F g (s.grown i k) (s.growE i k) w) := by
  have HN := mkHid (fun (t : Bst) (c : Int) (ht : s.grown i k = t) (hts : t = s) (hc : s.growE i k = c) => RetN.none h (ht.trans hts) hc)
  obtain ⟨A, n, c, ps, Fs, h⟩ := h
  have HL := mkHid (rlook_up F g A n c ps Fs s i w h hi)
  by_cases hl : s.liveE i = 0
  case neg =>
    have HE := mkHid (show s.growE i k = s.liveE i ∧ s.grown i k = s from ⟨if_pos hl, if_pos hl⟩)
    have hlb : (s.liveE i != 0) = true := by simpa using hl
    clear hl h hi hk
    go_enter Tryd.func25, Tryd.ntmps25
    go_wp2_with fail
    refine HL.out.mono ?_
    rintro e w1 ⟨rfl, rfl⟩
    go_wp2_with fail
    go_ret
    exact HN.out s _ HE.out.2 rfl HE.out.1
  obtain ⟨j, ss, rfl, hj, hsec⟩ := live_dev hl
  rw [hl] at HL
  have HE := mkHid (show s.growE j k = rgres ss.length k ∧ s.grown j k = { s with ds := s.ds.set j (some (gnext ss k)) } from ⟨by unfold Bst.growE; rw [if_neg (by rw [hl]; simp), hsec], by unfold Bst.grown; rw [if_neg (by rw [hl]; simp), hsec, Int.toNat_natCast]⟩)
  obtain ⟨r, p, rfl, hp, hcell, hd, hjn⟩ := h.dev hj
  have c0 := cell_of_row w g 0 _ _ _ h.blk
  have hn8 := h.n8
  simp at c0
  simp only [ptrV] at hcell
  have HR := mkHid (rgrow_all (Fs j) p ss k w hd hk)
  have HB := mkHid h
  have HJ := mkHid hj
  have HP := mkHid hp
  clear hl hj hsec h hi hk hp hd HN
  go_enter Tryd.func25, Tryd.ntmps25
  go_wp2_with fail
  refine HL.out.mono ?_
  rintro e w1 ⟨rfl, rfl⟩
  go_wp2_with fail
  refine HR.out.mono ?_
  rintro e w1 ⟨rfl, ht1, F1, hd1, hF1⟩
  obtain ⟨k1, F3, k2, k3⟩ := HB.out.disk HJ.out HP.out ht1 hd1 hF1
  have K1 := mkHid k1
  have K2 := mkHid k2
  have K3 := mkHid k3
  clear ht1 hd1 hF1 k1 k2 k3
  go_wp2_with fail
  go_ret
  exact ⟨ret_int (by rw [HE.out.1]), K1.out, F3, by rw [HE.out.2]; exact K2.out, K3.out⟩

theorem RBK.detach {w : World} {F : Nat → Prop} {g r : Nat} {n c : Nat} {ps : List (Option Nat)} {Fs : Nat → Nat → Prop} {s : Bst} (h : RBK w F g (some ⟨r, 0, none⟩) n c ps Fs s) {j : Nat} (hj : j < n) :
    Turn F w (w.setCell ⟨r, j, none⟩ (.pointer none)) ∧ RBO (w.setCell ⟨r, j, none⟩ (.pointer none)) F g { s with ds := s.ds.set j none } := by
  have hk : ∀ b, b ≠ r → (w.setCell ⟨r, j, none⟩ (.pointer none)).heap[b]? = w.heap[b]? := fun b hb => heap_setCell_other _ _ _ _ hb
  have hz : (w.setCell ⟨r, j, none⟩ (.pointer none)).heap.size = w.heap.size := by simp [World.setCell]
  have hrF := h.fr r rfl
  have hgr : g ≠ r := fun e => h.rg (by rw [e]; rfl)
  have hlen := h.len
  refine ⟨turn_only hrF hk ⟨rfl, rfl, rfl, hz⟩, some ⟨r, 0, none⟩, n, c, ps.set j none, Fs, (hk g hgr).trans h.blk, ?_, by rw [List.length_set]; exact h.len, fun i s1 hi => ?_, fun i hi => ?_, h.fs, h.ap, h.fg, h.fr, fun b hb => by rw [hz]; exact h.lt b hb, h.n8, h.lf⟩
  · have := own_set (v := ptrO none) h.row hj
    rw [List.map_set]
    exact this
  · simp only at hi
    by_cases hij : j = i
    · subst hij
      rw [List.getElem?_set_self (by omega)] at hi
      cases hi
    · rw [List.getElem?_set_ne hij] at hi
      obtain ⟨p, h1, h2⟩ := h.dk i s1 hi
      exact ⟨p, by rw [List.getElem?_set_ne hij]; exact h1, h2.keep (Nat.le_of_eq hz.symm) fun b hb => hk b fun e => (h.fs i b hb).2.2 (by rw [e]; rfl)⟩
  · simp only at hi
    by_cases hij : j = i
    · subst hij
      exact List.getElem?_set_self (by rw [h.lp]; exact hj)
    · rw [List.getElem?_set_ne hij] at hi
      rw [List.getElem?_set_ne hij]
      exact h.no i hi

set_option maxRecDepth 20000 in
theorem rdetach_any (F : Nat → Prop) (g : Nat) (s : Bst) (i : Int) (w : World) (h : RBO w F g s) (hi : I64 i) :
    Calls Tryd.prog 26 #[.pointer (some ⟨g, 0, none⟩), .int .i64 i] w (RetN F g (s.detached i) (s.liveE i) w) := by
  have HN := mkHid (fun (t : Bst) (c : Int) (ht : s.detached i = t) (hts : t = s) (hc : s.liveE i = c) => RetN.none h (ht.trans hts) hc)
  obtain ⟨A, n, c, ps, Fs, h⟩ := h
  have HL := mkHid (rlook_up F g A n c ps Fs s i w h hi)
  by_cases hl : s.liveE i = 0
  case neg =>
    have HE := mkHid (show s.detached i = s from if_pos hl)
    have hlb : (s.liveE i == 0) = false := by simpa using hl
    clear hl h hi
    go_enter Tryd.func26, Tryd.ntmps26
    go_wp2_with fail
    refine HL.out.mono ?_
    rintro e w1 ⟨rfl, rfl⟩
    go_wp2_with fail
    go_ret
    exact HN.out s _ HE.out rfl rfl
  obtain ⟨j, ss, rfl, hj, hsec⟩ := live_dev hl
  have HE := mkHid (show s.liveE j = 0 ∧ s.detached j = { s with ds := s.ds.set j none } from ⟨hl, by unfold Bst.detached; rw [if_neg (by rw [hl]; simp), Int.toNat_natCast]⟩)
  rw [hl] at HL
  have hjn : j < n := by rw [← h.len]; exact (List.getElem?_eq_some_iff.1 hj).1
  obtain ⟨r, q, rfl, hq, hcell, hfz⟩ := h.at_ hjn
  obtain ⟨v0, hv0⟩ : ∃ v, ptrO q = v := ⟨_, rfl⟩
  rw [hv0] at hcell
  have c0 := cell_of_row w g 0 _ _ _ h.blk
  simp at c0
  have HF := mkHid (h.detach hjn)
  have hn8 := h.n8
  clear hl hj hsec h hi hq hv0 HN
  go_enter Tryd.func26, Tryd.ntmps26
  go_wp2_with fail
  refine HL.out.mono ?_
  rintro e w1 ⟨rfl, rfl⟩
  go_wp2_with fail
  go_ret
  exact ⟨ret_int (by rw [HE.out.1]), HF.out.1, F, by rw [HE.out.2]; exact HF.out.2, fun b hb => .inl hb⟩

set_option maxRecDepth 20000 in
theorem rbbad_any (F : Nat → Prop) (g : Nat) (s : Bst) (i k : Int) (on : Bool) (w : World) (h : RBO w F g s) (hi : I64 i) (hk : I64 k) :
    Calls Tryd.prog 38 #[.pointer (some ⟨g, 0, none⟩), .int .i64 i, .int .i64 k, .bool on] w (RetN F g (s.badded i k on) (s.badE i k) w) := by
  have HN := mkHid (fun (t : Bst) (c : Int) (ht : s.badded i k on = t) (hts : t = s) (hc : s.badE i k = c) => RetN.none h (ht.trans hts) hc)
  obtain ⟨A, n, c, ps, Fs, h⟩ := h
  have HL := mkHid (rlook_dev F g A n c ps Fs s i w h hi)
  by_cases hl : s.devE i = 0
  case neg =>
    have HE := mkHid (show s.badE i k = s.devE i ∧ s.badded i k on = s from ⟨if_pos hl, if_pos (by unfold Bst.badE; rw [if_pos hl]; exact hl)⟩)
    have hlb : (s.devE i != 0) = true := by simpa using hl
    clear hl h hi hk
    go_enter Tryd.func38, Tryd.ntmps38
    go_wp2_with fail
    refine HL.out.mono ?_
    rintro e w1 ⟨rfl, rfl⟩
    go_wp2_with fail
    go_ret
    exact HN.out s _ HE.out.2 rfl HE.out.1
  obtain ⟨j, ss, rfl, hj, hsec⟩ := dev_dev hl
  rw [hl] at HL
  obtain ⟨r, p, rfl, hp, hcell, hd, hjn⟩ := h.dev hj
  have c0 := cell_of_row w g 0 _ _ _ h.blk
  have hn8 := h.n8
  simp at c0
  simp only [ptrV] at hcell
  have HR := mkHid (rhas_any (Fs j) p ss k w hd hk)
  cases hh : hasOf ss.length k with
  | false =>
    have HE := mkHid (show s.badE j k = 20 ∧ s.badded j k on = s from by
      have h1 : s.badE j k = 20 := by unfold Bst.badE; rw [if_neg (by rw [hl]; simp), hsec, if_pos hh]
      exact ⟨h1, if_pos (by rw [h1]; decide)⟩)
    rw [hh] at HR
    clear hl hj hsec h hi hk hp hd hh
    go_enter Tryd.func38, Tryd.ntmps38
    go_wp2_with fail
    refine HL.out.mono ?_
    rintro e w1 ⟨rfl, rfl⟩
    go_wp2_with fail
    refine HR.out.mono ?_
    rintro e w1 ⟨rfl, rfl⟩
    go_wp2_with fail
    go_ret
    exact HN.out s _ HE.out.2 rfl HE.out.1
  | true =>
    rw [hh] at HR
    have HE := mkHid (show s.badE j k = 0 ∧ s.badded j k on = { s with ds := s.ds.set j (some (bnext ss k on)) } from by
      have h1 : s.badE j k = 0 := by unfold Bst.badE; rw [if_neg (by rw [hl]; simp), hsec, if_neg (by rw [hh]; simp)]
      refine ⟨h1, ?_⟩
      unfold Bst.badded
      rw [if_neg (by rw [h1]; simp), hsec, Int.toNat_natCast])
    obtain ⟨K, rfl, hK⟩ := hasOf_nat hh
    have hX := List.getElem?_eq_getElem (l := ss) (i := K) hK
    have HBN := mkHid (show bnext ss (K : Int) on = ss.set K { ss[K] with bad := on } by unfold bnext; rw [Int.toNat_natCast, hX])
    obtain ⟨A3, n3, c3, cs3, hr3⟩ := hd
    have hl3 := hr3.len
    have hnl := hr3.nl
    obtain ⟨r3, s3, va, vc, rfl, hs3, q0, q1, _, _, _, hFr, hrg⟩ := hr3.at_ (j := K) (by omega)
    have d0 := cell_of_row w p 0 _ _ _ hr3.blk
    simp at d0
    have fz : w.frozen? ⟨r3, K * 2 + 1, none⟩ = false := by
      obtain ⟨cur, hcur⟩ := own_type hr3.row (b := r3) rfl
      exact frozen_of_row w r3 _ _ _ hcur
    have ht : Turn (Fs j) w (w.setCell ⟨r3, K * 2 + 1, none⟩ (.bool on)) := turn_only hFr (fun b hb => heap_setCell_other _ _ _ _ hb) ⟨rfl, rfl, rfl, by simp [World.setCell]⟩
    have hd' : RD (w.setCell ⟨r3, K * 2 + 1, none⟩ (.bool on)) (Fs j) p (ss.set K { ss[K] with bad := on }) := ⟨_, _, _, _, hr3.bad rfl hX⟩
    have HF := mkHid (h.disk hj hp ht hd' fun b hb => .inl hb)
    have hKn : K < n3 := by omega
    clear hl hj hsec h hi hk hp hh hX hr3 hs3 hFr hrg ht hd' HN hl3
    go_enter Tryd.func38, Tryd.ntmps38
    go_wp2_with fail
    refine HL.out.mono ?_
    rintro e w1 ⟨rfl, rfl⟩
    go_wp2_with fail
    refine HR.out.mono ?_
    rintro e w1 ⟨rfl, rfl⟩
    go_wp2_with fail
    go_ret
    obtain ⟨k1, F3, k2, k3⟩ := HF.out
    exact ⟨ret_int (by rw [HE.out.1]), k1, F3, by rw [HE.out.2, HBN.out]; exact k2, k3⟩

set_option maxRecDepth 20000 in
theorem rbfill_any (F : Nat → Prop) (g : Nat) (s : Bst) (i : Int) (a : Option Addr) (m k0 : Nat) (l : List Int) (w : World) (h : RBO w F g s) (hi : I64 i) (hx : BS w w.heap.size a m l) (hm2 : m ≤ 140737488355328) :
    Calls Tryd.prog 40 #[.pointer (some ⟨g, 0, none⟩), .int .i64 i, .slice a m k0] w (RetN F g (s.filledB i l) (s.devE i) w) := by
  have HN := mkHid (fun (t : Bst) (c : Int) (ht : s.filledB i l = t) (hts : t = s) (hc : s.devE i = c) => RetN.none h (ht.trans hts) hc)
  obtain ⟨A, n, c, ps, Fs, h⟩ := h
  have HL := mkHid (rlook_dev F g A n c ps Fs s i w h hi)
  by_cases hl : s.devE i = 0
  case neg =>
    have HE := mkHid (show s.filledB i l = s from if_pos hl)
    have hlb : (s.devE i == 0) = false := by simpa using hl
    clear hl h hi hx
    go_enter Tryd.func40, Tryd.ntmps40
    go_wp2_with fail
    refine HL.out.mono ?_
    rintro e w1 ⟨rfl, rfl⟩
    go_wp2_with fail
    go_ret
    exact HN.out s _ HE.out rfl rfl
  obtain ⟨j, ss, rfl, hj, hsec⟩ := dev_dev hl
  have HE := mkHid (show s.devE j = 0 ∧ s.filledB j l = { s with ds := s.ds.set j (some (filled ss l)) } from ⟨hl, by unfold Bst.filledB; rw [if_neg (by rw [hl]; simp), hsec, Int.toNat_natCast]⟩)
  rw [hl] at HL
  obtain ⟨r, p, rfl, hp, hcell, hd, hjn⟩ := h.dev hj
  have c0 := cell_of_row w g 0 _ _ _ h.blk
  have hn8 := h.n8
  simp at c0
  simp only [ptrV] at hcell
  have HC := mkHid (fun (W : World) (hW : W.heap = w.heap) => copy_any a m k0 l W ((hx.keep (w' := W) fun b _ => by rw [hW]).more (by rw [hW]; exact Nat.le_refl _)) hm2)
  have hok := hx.2
  have hln := hx.len
  have HB := mkHid h
  have HD := mkHid hd
  have HJ := mkHid hj
  have HP := mkHid hp
  have HOK := mkHid hok
  have HLM := mkHid (show l.length ≤ 140737488355328 by omega)
  have hgl := h.lt g h.fg
  have hrl := h.lt r (h.fr r rfl)
  have hng : ¬ Fs j g := fun hf => (h.fs j g hf).2.1 rfl
  have hnr : ¬ Fs j r := fun hf => (h.fs j r hf).2.2 rfl
  have HKZ := mkHid (show ∀ Z : World, (∀ b, b < w.heap.size → ¬ Fs j b → Z.heap[b]? = w.heap[b]?) → Z.cell? ⟨g, 0, none⟩ = some (.slice (some ⟨r, 0, none⟩) n c) ∧ Z.cell? ⟨r, j, none⟩ = some (.pointer (some ⟨p, 0, none⟩)) from fun Z hZ => ⟨(World.cell?_of_block (w := w) (hZ g hgl hng)).trans c0, (World.cell?_of_block (w := w) (hZ r hrl hnr)).trans hcell⟩)
  clear hng hnr hgl hrl
  have hj0 : (0 : Int) ≤ (j : Int) := by omega
  have hj1 : (j : Int) < (n : Int) := by omega
  clear hl hj hsec h hi hp hd hx hok HN hln
  go_enter Tryd.func40, Tryd.ntmps40
  go_wp2_with fail
  refine HL.out.mono ?_
  rintro e w1 ⟨rfl, rfl⟩
  go_wp2_with fail
  go_region_held3 (fun Z => Z.cell? ⟨g, 0, none⟩ = some (.slice (some ⟨r, 0, none⟩) n c) ∧ Z.cell? ⟨r, j, none⟩ = some (.pointer (some ⟨p, 0, none⟩))) (first | exact gk3 | exact gk | exact ⟨c0, hcell⟩) (first
    | (go_at_call 70; (with_reducible refine (rfill_any (Fs j) p ss CA l.length ck l w2 HD2.out HX2.out HO2.out HLM.out).mono ?_); rintro e w3 ⟨rfl, ht3, F3, hd3, hF3⟩; have gk3 := HKZ.out w3 (fun b hb hn => (ht3.block b (Nat.lt_of_lt_of_le hb HBX.out.size) hn).trans (HBX.out.block b hb)))
    | (go_at_call 22; refine (HC.out _ (by rfl)).mono ?_; rintro e w2 ⟨CA, ck, rfl, hco, hb2⟩; have hbx : Below w.heap.size w w2 := Below.mk hb2.os hb2.tape hb2.output hb2.size hb2.block; have HX2 := mkHid (show BS w2 w2.heap.size CA l.length l from ⟨SL.of_own hco, HOK.out⟩); have HO2 := mkHid (fun (_ : 0 < l.length) => own_out hco HD.out.lt); have HD2 := mkHid (HD.out.below hbx); have gk := HKZ.out w2 (fun b hb _ => hbx.block b hb); have HBX := mkHid hbx; clear hco hb2 hbx))
  have ht : Turn (Fs j) w w3 := (Turn.of_below (F := Fs j) HBX.out).trans (Turn.mk ht3.os ht3.tape ht3.output ht3.size ht3.block) fun b hb => .inl hb
  obtain ⟨k1, F4, k2, k3⟩ := HB.out.disk HJ.out HP.out ht hd3 fun b hb => (hF3 b hb).imp id fun e => Nat.le_trans HBX.out.size e
  have K1 := mkHid k1
  have K2 := mkHid k2
  have K3 := mkHid k3
  clear k1 k2 k3 ht ht3 hd3 hF3 gk gk3
  go_wp2_with fail
  go_ret
  exact ⟨ret_int (by rw [HE.out.1]), K1.out, F4, by rw [HE.out.2]; exact K2.out, K3.out⟩

set_option maxRecDepth 20000 in
set_option maxHeartbeats 2000000 in
theorem rbwrite_any (F : Nat → Prop) (g : Nat) (s : Bst) (i k : Int) (a : Option Addr) (m c0 : Nat) (l : List Int) (w : World) (h : RBO w F g s) (hi : I64 i) (hk : I64 k) (hx : BS w w.heap.size a m l) (hout : 0 < m → ∀ ad : Addr, a = some ad → ¬ F ad.block) (hd : 0 ≤ s.done ∧ s.done ≤ 1000000000) (hw : s.few 999999) :
    Calls Tryd.prog 31 #[.pointer (some ⟨g, 0, none⟩), .int .i64 i, .int .i64 k, .slice a m c0] w (RetN F g (s.wrote i k l) (s.wrE i k m) w) := by
  have HLN := mkHid hx.len
  have HX := mkHid hx
  have HO := mkHid hout
  have HW := mkHid hw
  have HN := mkHid (fun (t : Bst) (c : Int) (ht : s.wrote i k l = t) (hts : t = s) (hc : s.wrE i k m = c) => RetN.none h (ht.trans hts) hc)
  obtain ⟨A, n, c, ps, Fs, h⟩ := h
  have HL := mkHid (rlook_up F g A n c ps Fs s i w h hi)
  have HC := mkHid (rcount_any F g A n c ps Fs s w h hd)
  clear hx hout hw hd
  by_cases hl : s.liveE i = 0
  case neg =>
    have HE := mkHid (show s.wrE i k m = s.liveE i ∧ s.wrote i k l = s from ⟨if_pos hl, if_pos (.inl hl)⟩)
    have hlb : (s.liveE i != 0) = true := by simpa using hl
    clear hl h hi hk
    go_enter Tryd.func31, Tryd.ntmps31
    go_wp2_with fail
    refine HL.out.mono ?_
    rintro e w1 ⟨rfl, rfl⟩
    go_wp2_with fail
    go_ret
    exact HN.out s _ HE.out.2 rfl HE.out.1
  obtain ⟨j, ss, rfl, hj, hsec⟩ := live_dev hl
  rw [hl] at HL
  obtain ⟨r, p, rfl, hp, hcell, hd, hjn⟩ := h.dev hj
  have e0 := cell_of_row w g 0 _ _ _ h.blk
  have hn8 := h.n8
  simp at e0
  simp only [ptrV] at hcell
  have HR := mkHid (rhas_any (Fs j) p ss k w hd hk)
  cases hh : hasOf ss.length k with
  | false =>
    have HE := mkHid (show s.wrE j k m = 20 ∧ s.wrote j k l = s from ⟨by unfold Bst.wrE; rw [if_neg (by rw [hl]; simp), hsec, if_pos hh], if_pos (.inr (.inl (by rw [hsec]; exact hh)))⟩)
    rw [hh] at HR
    clear hl hj hsec h hi hk hp hd hh
    go_enter Tryd.func31, Tryd.ntmps31
    go_wp2_with fail
    refine HL.out.mono ?_
    rintro e w1 ⟨rfl, rfl⟩
    go_wp2_with fail
    refine HR.out.mono ?_
    rintro e w1 ⟨rfl, rfl⟩
    go_wp2_with fail
    go_ret
    exact HN.out s _ HE.out.2 rfl HE.out.1
  | true =>
  rw [hh] at HR
  by_cases hm : m = 128
  case neg =>
    have HE := mkHid (show s.wrE j k m = 11 ∧ s.wrote j k l = s from ⟨by unfold Bst.wrE; rw [if_neg (by rw [hl]; simp), hsec, if_neg (by rw [hh]; simp), if_pos hm], if_pos (.inr (.inr (by rw [HLN.out]; exact hm)))⟩)
    have hmb : ((m : Int) != 128) = true := by simp; omega
    clear hl hj hsec h hi hk hp hd hh hm
    go_enter Tryd.func31, Tryd.ntmps31
    go_wp2_with fail
    refine HL.out.mono ?_
    rintro e w1 ⟨rfl, rfl⟩
    go_wp2_with fail
    refine HR.out.mono ?_
    rintro e w1 ⟨rfl, rfl⟩
    go_wp2_with fail
    go_ret
    exact HN.out s _ HE.out.2 rfl HE.out.1
  subst hm
  by_cases hce : s.countE = 0
  case neg =>
    have HE := mkHid (show s.wrE j k 128 = s.countE ∧ s.wrote j k l = s.counted from ⟨by unfold Bst.wrE; rw [if_neg (by rw [hl]; simp), hsec, if_neg (by rw [hh]; simp), if_neg (by simp)], by unfold Bst.wrote; rw [if_neg (by rw [hl, hsec, hh, HLN.out]; simp), if_pos hce]⟩)
    have hcb : (s.countE != 0) = true := by simpa using hce
    clear hl hj hsec h hi hk hp hd hh hce
    go_enter Tryd.func31, Tryd.ntmps31
    go_wp2_with fail
    refine HL.out.mono ?_
    rintro e w1 ⟨rfl, rfl⟩
    go_wp2_with fail
    refine HR.out.mono ?_
    rintro e w1 ⟨rfl, rfl⟩
    go_wp2_with fail
    refine HC.out.mono ?_
    rintro e w1 ⟨rfl, ht1, hb1⟩
    have HT1 := mkHid ht1
    have HB1 := mkHid hb1
    clear ht1 hb1
    go_wp2_with fail
    go_ret
    exact ⟨ret_int (by rw [HE.out.1]), HT1.out, F, by rw [HE.out.2]; exact ⟨_, _, _, _, _, HB1.out⟩, fun b hb => .inl hb⟩
  have HE := mkHid (show s.wrE j k 128 = 0 ∧ s.wrote j k l = { s.counted with ds := s.counted.ds.set j (some (wnext ss k l)) } from ⟨by unfold Bst.wrE; rw [if_neg (by rw [hl]; simp), hsec, if_neg (by rw [hh]; simp), if_neg (by simp), hce], by unfold Bst.wrote; rw [if_neg (by rw [hl, hsec, hh, HLN.out]; simp), if_neg (by rw [hce]; simp), hsec, counted_ds, Int.toNat_natCast]⟩)
  rw [hce] at HC
  have HJ1 := mkHid (show s.counted.ds[j]? = some (some ss) by rw [counted_ds]; exact hj)
  have HP := mkHid hp
  have HH := mkHid hh
  have HI := mkHid hk
  have HWS := mkHid (show ∀ x ∈ ss, x.wait.length < 1000000 from fun x hx => by have := HW.out j ss hj x hx; omega)
  clear hl hj hsec h hi hk hp hd hh hce
  go_enter Tryd.func31, Tryd.ntmps31
  go_wp2_with fail
  refine HL.out.mono ?_
  rintro e w1 ⟨rfl, rfl⟩
  go_wp2_with fail
  refine HR.out.mono ?_
  rintro e w1 ⟨rfl, rfl⟩
  go_wp2_with fail
  refine HC.out.mono ?_
  rintro e w1 ⟨rfl, ht1, hb1⟩
  have HT1 := mkHid ht1
  have HB1 := mkHid hb1
  obtain ⟨r', p', hA', hp', hcell1, hd1, _⟩ := hb1.dev HJ1.out
  injection hA' with hA'
  injection hA' with hA'
  subst hA'
  rw [HP.out] at hp'
  injection hp' with hp'
  injection hp' with hp'
  subst hp'
  simp only [ptrV] at hcell1
  have g0 := cell_of_row w1 g 0 _ _ _ hb1.blk
  simp at g0
  have HX1 := mkHid (HX.out.turn0 ht1 HO.out)
  have HD1 := mkHid hd1
  clear ht1 hb1 e0 hcell hd1
  go_wp2_with fail
  refine (rwrite_all (Fs j) p ss k a 128 c0 l w1 HD1.out HI.out HX1.out HWS.out).mono ?_
  rintro e w2 ⟨rfl, ht2, F2, hd2, hF2⟩
  obtain ⟨k1, F3, k2, k3⟩ := HB1.out.disk HJ1.out HP.out ht2 hd2 hF2
  have hwr : rres ss.length k 128 = 0 := by unfold rres; rw [if_neg (by rw [HH.out]; simp), if_neg (by simp)]
  rw [hwr]
  have K1 := mkHid k1
  have K2 := mkHid k2
  have K3 := mkHid k3
  clear ht2 hd2 hF2 k1 k2 k3 hwr
  go_wp2_with fail
  go_ret
  exact ⟨ret_int (by rw [HE.out.1]), HT1.out.trans K1.out fun b hb => .inl hb, F3, by rw [HE.out.2]; exact K2.out, fun b hb => (K3.out b hb).imp id fun e => Nat.le_trans HT1.out.size e⟩

end Go.Proofs.YtpoeneabhoajaaaDoor
