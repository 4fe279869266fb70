/- Disk.Crash by contract. -/
import Derived.Test.YtpoeneabhoajaaaDoorDkH4
namespace Go.Proofs.YtpoeneabhoajaaaDoor
open Go.RowKit

/-- What a crash leaves of a sector, by its pick. -/
def crashS (p : Int) (s : Sec) : Sec := ⟨if 0 < p then s.wait[(min p s.wait.length).toNat - 1]?.getD s.good else s.good, [], s.bad⟩
/-- Sector by sector, in the order of the list. -/
def crashL : List Int → List Int → List Sec → List Sec
  | [], _, ss => ss
  | i :: is, ps, ss => crashL is (ps.drop 1) (match ss[i.toNat]? with | some s => ss.set i.toNat (crashS (ps[0]?.getD 0) s) | none => ss)
def crashed (ss : List Sec) (ps : List Int) : List Sec := crashL (pend ss) ps ss

theorem IS.drop {w : World} {B n cap : Nat} {a : Option Addr} {l : List Int} (h : IS w B a n l) (hk : 1 ≤ n) (hc : n ≤ cap) : IS w B (if cap = 1 then a else a.map (·.add 1)) (n - 1) (l.drop 1) :=
  ⟨by have := h.1.drop (k := 1) hk hc; rwa [Nat.one_mul, ← List.map_drop] at this, fun x hx => h.2 x (List.mem_of_mem_drop hx)⟩
theorem pend_get {ss : List Sec} {k : Nat} {x : Int} (h : (pend ss)[k]? = some x) : ∃ i : Nat, x = i ∧ i < ss.length ∧ waits ss i = true := by
  unfold pend pendN at h
  rw [List.getElem?_map] at h
  cases hf : ((List.range ss.length).filter (waits ss))[k]? with
  | none => rw [hf] at h; cases h
  | some i =>
    rw [hf] at h
    injection h with h
    have := List.mem_filter.1 (List.mem_of_getElem? hf)
    exact ⟨i, h.symm, List.mem_range.1 this.1, this.2⟩

/-- What waited is gone. -/
theorem SecOk.unwait {w : World} {F : Nat → Prop} {p : Nat} {q : Option Nat} {s : Sec} (h : SecOk w F p q s) : SecOk (w.setCell ⟨p, 1, none⟩ (.slice none 0 0)) F p none ⟨s.good, [], s.bad⟩ := by
  obtain ⟨ga, gc, wa, wn, wc, vs, h1, h2, h3, h4, _⟩ := h
  have k2 := heap_setCell_same _ _ 1 _ _ (.slice none 0 0) h1
  exact ⟨ga, gc, none, 0, 0, [], k2, h2, h3, h4.only h1 fun b hb => heap_setCell_other _ _ _ _ hb, World.ownsRow_nil _ _ _ _, rfl, fun k hk => (by cases hk), rfl, by omega, fun i l hl => (by simp at hl)⟩
theorem set_size (w : World) (a : Addr) (v : Value) : (w.setCell a v).heap.size = w.heap.size := by simp [World.setCell]
/-- A draw turns nothing. -/
theorem SecOk.drew {w : World} {F : Nat → Prop} {p : Nat} {q : Option Nat} {s : Sec} (h : SecOk w F p q s) : SecOk w.drew F p q s := h.keep (fun _ _ => rfl) fun _ hb => hb

/-- The state of the crash's loop. -/
structure CR (w wr : World) (F : Nat → Prop) (g : Nat) (A : Option Addr) (n c : Nat) (ps : List Nat) (qs : List (Option Nat)) (ss0 ss : List Sec) (P : List Int) (k : Nat) (l0 l : List Int) : Prop where
  t : Turn F w wr
  d : DKr wr F g A n c ps qs ss
  fin : crashL (P.drop k) l ss = crashL P l0 ss0
  keep : ∀ (t i : Nat), k ≤ t → P[t]? = some (i : Int) → ss[i]? = ss0[i]?
theorem pend_inj {ss : List Sec} {t t' : Nat} {x : Int} (h : (pend ss)[t]? = some x) (h' : (pend ss)[t']? = some x) : t = t' := by
  unfold pend pendN at h h'
  rw [List.getElem?_map] at h h'
  obtain ⟨i, hi, rfl⟩ := Option.map_eq_some_iff.1 h
  obtain ⟨j, hj, e⟩ := Option.map_eq_some_iff.1 h'
  have hp : ((List.range ss.length).filter (waits ss)).Pairwise (· < ·) := List.Pairwise.filter _ List.pairwise_lt_range
  rw [List.pairwise_iff_getElem] at hp
  obtain ⟨ht, hi'⟩ := List.getElem?_eq_some_iff.1 hi
  obtain ⟨ht', hj'⟩ := List.getElem?_eq_some_iff.1 hj
  rcases Nat.lt_trichotomy t t' with c | c | c
  · have := hp t t' ht ht' c
    omega
  · exact c
  · have := hp t' t ht' ht c
    omega
theorem CR.step {w wr w2 : World} {F : Nat → Prop} {g : Nat} {A : Option Addr} {n c : Nat} {ps : List Nat} {qs : List (Option Nat)} {ss0 ss : List Sec} {P : List Int} {k : Nat} {l0 l : List Int} (h : CR w wr F g A n c ps qs ss0 ss P k l0 l) {i p : Nat} {s : Sec} (hP : P.drop k = (i : Int) :: P.drop (k + 1)) (hPk : P[k]? = some (i : Int)) (hinj : ∀ (t t' : Nat) (x : Int), P[t]? = some x → P[t']? = some x → t = t')
    (hp1 : ps[i]? = some p) (hfp : F p) (hs : ss[i]? = some s) (hk : ∀ b, b ≠ p → w2.heap[b]? = wr.heap[b]?) (ho : w2.os = wr.os ∧ w2.tape = wr.tape ∧ w2.output = wr.output ∧ w2.heap.size = wr.heap.size) (hsec : SecOk w2 F p none (crashS (l[0]?.getD 0) s)) :
    Turn F wr w2 ∧ CR w w2 F g A n c ps (qs.set i none) ss0 (ss.set i (crashS (l[0]?.getD 0) s)) P (k + 1) l0 (l.drop 1) := by
  obtain ⟨k1, k2⟩ := h.d.only hp1 hfp hk ho hsec (fun k hk => by cases hk)
  refine ⟨k1, h.t.trans k1 fun b hb => .inl hb, k2, ?_, fun t j ht hj => ?_⟩
  · have := h.fin
    rw [hP, crashL, Int.toNat_natCast, hs] at this
    exact this
  · have hji : i ≠ j := fun e => by
      subst e
      have := hinj t k _ hj hPk
      omega
    rw [List.getElem?_set_ne hji]
    exact h.keep t j (by omega) hj
/-- A slice of ints that lies outside of what may turn. -/
theorem IS.turn {w w' : World} {F : Nat → Prop} {n : Nat} {a : Option Addr} {l : List Int} (h : IS w w.heap.size a n l) (ht : Turn F w w') (ho : ∀ ad : Addr, a = some ad → ¬ F ad.block) : IS w' w'.heap.size a n l :=
  ⟨⟨h.1.1, fun j hj => by
    obtain ⟨b, o, ha, hb, hc⟩ := h.1.2 j hj
    exact ⟨b, o, ha, Nat.lt_of_lt_of_le hb ht.size, (World.cell?_of_block (w := w) (ht.block b hb (ho _ ha))).trans hc⟩⟩, h.2⟩
theorem out_drop {F : Nat → Prop} {a : Option Addr} {cap : Nat} (h : ∀ ad : Addr, a = some ad → ¬ F ad.block) : ∀ ad : Addr, (if cap = 1 then a else a.map (·.add 1)) = some ad → ¬ F ad.block := fun ad e => by
  split at e
  · exact h ad e
  · rcases a with _ | a'
    · cases e
    · simp only [Option.map_some, Option.some.injEq] at e
      subst e
      exact h a' rfl

set_option maxRecDepth 20000 in
set_option maxHeartbeats 4000000 in
theorem crash_any (F : Nat → Prop) (g : Nat) (ss : List Sec) (a : Option Addr) (np cp : Nat) (l : List Int) (w : World) (h : DK w F g ss) (hx : IS w w.heap.size a np l) (hout : ∀ ad : Addr, a = some ad → ¬ F ad.block) (hc : np ≤ cp ∧ cp ≤ 9223372036854775807) :
    Calls Tryd.prog 67 #[.pointer (some ⟨g, 0, none⟩), .slice a np cp] w fun e w' => e = .returned (.tuple #[]) ∧ Turn F w w' ∧ DK w' F g (crashed ss l) := by
  have HP := mkHid (pending_any F g ss w h)
  have hpl : (pend ss).length ≤ 4096 := Nat.le_trans (pendN_len ss _) h.nl
  have hpok := pendN_ok ss ss.length h.nl
  obtain ⟨A, n, c, ps, qs, h⟩ := h
  have hnl := h.nl
  have hlen := h.len
  obtain ⟨hc1, hc2⟩ := own_cap h.row
  have HD := mkHid h
  have HX := mkHid hx
  have HO := mkHid hout
  have HPO := mkHid hpok
  obtain ⟨hcp1, hcp2⟩ := hc
  clear h hx hout hpok
  go_enter Tryd.func67, Tryd.ntmps67
  go_wp2_with fail
  refine HP.out.mono ?_
  rintro e w1 ⟨PA, pc, rfl, hop, hb1⟩
  have HOP := mkHid hop
  have HCR := mkHid (show CR w w1 F g A n c ps qs ss ss (pend ss) 0 l l from ⟨Turn.of_below hb1, HD.out.below hb1, rfl, fun _ _ _ _ => rfl⟩)
  have hNF : ∀ b, (Value.slice PA (pend ss).length pc).ownBlock = some b → ¬ F b := fun b hb hf => by
    have h1 := HD.out.lt b hf
    have h2 := (hop.lt b hb).1
    omega
  have HNF := mkHid hNF
  have HX1 := mkHid ((HX.out.below hb1).more hb1.size)
  clear hop hb1 hNF
  generalize hPP : pend ss = P at *
  have HPP := mkHid hPP
  have HINJ := mkHid (show ∀ (t t' : Nat) (x : Int), P[t]? = some x → P[t']? = some x → t = t' from fun t t' x h1 h2 => by rw [← hPP] at h1 h2; exact pend_inj h1 h2)
  clear hPP
  go_wp2_with fail
  go_loopw [1, 11] (fun pk i wr => ∃ (k : Nat) (a : Option Addr) (np cp : Nat) (l' : List Int) (qs : List (Option Nat)) (ss' : List Sec), k ≤ P.length ∧ i = .int .i64 k ∧ pk = .slice a np cp ∧ (np ≤ cp ∧ cp ≤ 9223372036854775807) ∧ IS wr wr.heap.size a np l' ∧ (∀ ad : Addr, a = some ad → ¬ F ad.block) ∧
    CR w wr F g A n c ps qs ss ss' P k l l' ∧ wr.ownsRow w.heap.size 3 1 (.slice PA P.length pc) P.length (P.map i64v)) (fun _ i _ => P.length - (intOf i).toNat)
  case atStart => exact ⟨0, a, np, cp, l, qs, ss, Nat.zero_le _, rfl, rfl, ⟨hcp1, hcp2⟩, HX1.out, HO.out, HCR.out, HOP.out⟩
  case round =>
    clear HCR HX1 HX HO HP HD HOP hcp1 hcp2
    obtain ⟨k, a, np, cp, l', qs, ss', hk, rfl, rfl, ⟨hcp1, hcp2⟩, hx, hout, hcr, hop⟩ := hrel
    have HX := mkHid hx
    have HO := mkHid hout
    have HCR := mkHid hcr
    have HOP := mkHid hop
    clear hx hout hcr hop
    by_cases hlt : k < P.length
    · obtain ⟨i, hi, hin, hwt⟩ := pend_get (ss := ss) (k := k) (x := P[k]) (by rw [HPP.out, List.getElem?_eq_getElem hlt])
      have hsl : SL wr wr.heap.size 1 PA P.length (P.map i64v) := SL.of_own HOP.out
      obtain ⟨b, o, hPA, hb, hcell⟩ := hsl.2 k (by omega)
      rw [List.getElem?_map, List.getElem?_eq_getElem hlt] at hcell
      simp only [Option.map_some, Option.getD_some, i64v, hi] at hcell
      subst hPA
      have hln' : ss'.length = n := HCR.out.d.len
      obtain ⟨r, p, qq, s, rfl, hp, hp1, hq1, hs', hso⟩ := HCR.out.d.at_ (j := i) (by omega)
      have HSO := mkHid hso
      have HP1 := mkHid hp1
      have HQ1 := mkHid hq1
      have HS' := mkHid hs'
      have hpk : P.drop k = (i : Int) :: P.drop (k + 1) := by rw [List.drop_eq_getElem_cons hlt, hi]
      have HPK := mkHid hpk
      have d0 := cell_of_row wr g 0 _ _ _ HCR.out.d.blk
      simp at d0
      have hcapP := own_cap HOP.out
      have hss : ss[i]? = some s := by rw [← HCR.out.keep k i (Nat.le_refl _) (by rw [List.getElem?_eq_getElem hlt, hi]), hs']
      have hwl : 0 < s.wait.length := by
        unfold waits at hwt
        rw [hss] at hwt
        simpa using hwt
      obtain ⟨ga, gc, wa, wn, wc, vs, h1, h2, h3, h4, h5, h6, h7, h8, h9, h10⟩ := hso
      obtain ⟨e0, e1, e2⟩ := facts3 h1
      have f := fun q => frozen_of_row wr p q _ _ h1
      have HF2 := mkHid h2
      have HKI := mkHid (show P[k]? = some (i : Int) by rw [List.getElem?_eq_getElem hlt, hi])
      have hwn : 0 < wn := by omega
      have hcapw := own_cap h5
      obtain ⟨rw_, cap, hv, _, _⟩ := h5.form hwn
      have hwa : wa = some ⟨rw_, 0, none⟩ := by injection hv
      subst hwa
      have HEL := mkHid (show ∀ j, j < wn → ∃ a c l, s.wait[j]? = some l ∧ wr.cell? ⟨rw_, j, none⟩ = some (.slice a 128 c) ∧ (128 ≤ c ∧ c ≤ maxLen) ∧ GB wr F a l from fun j hj => by
        have hl := List.getElem?_eq_getElem (l := s.wait) (i := j) (by omega)
        obtain ⟨a, c, k1, k2, k3⟩ := h10 j _ hl
        have hc := h5.cells (g := rw_) rfl _ _ k1
        have e1 : (⟨rw_, 0, none⟩ : Addr).add j = ⟨rw_, j, none⟩ := by unfold Addr.add; split <;> simp_all
        rw [e1] at hc
        exact ⟨a, c, _, hl, hc, k2, k3⟩)
      have hne : rw_ ≠ p := fun e => by
        obtain ⟨cur, h'⟩ := own_type h5 (b := rw_) rfl
        rw [e, h1] at h'
        simp at h'
      have HSE := mkHid (show ∀ (v : Value) (J : Nat) (u : Value), wr.cell? ⟨rw_, J, none⟩ = some u → (wr.setCell ⟨p, 0, none⟩ v).drew.drew.cell? ⟨p, 1, none⟩ = some (.slice (some ⟨rw_, 0, none⟩) wn wc) ∧ (wr.setCell ⟨p, 0, none⟩ v).drew.drew.cell? ⟨rw_, J, none⟩ = some u ∧ (wr.setCell ⟨p, 0, none⟩ v).drew.drew.frozen? ⟨p, 0, none⟩ = false from fun v J u hu => by
        have k1 := heap_setCell_same _ _ 0 _ _ v h1
        exact ⟨cell_of_row (wr.setCell ⟨p, 0, none⟩ v) p 1 _ _ _ k1, (World.cell?_of_block (w := wr) (heap_setCell_other _ _ _ _ hne)).trans hu, frozen_of_row (wr.setCell ⟨p, 0, none⟩ v) p 0 _ _ k1⟩)
      have HWL := mkHid h8
      have HUN := mkHid HSO.out.unwait
      clear hp1 hq1 hs' hsl hpk hi hwt hss h1 h2 h3 h4 h5 h6 h7 h8 h9 h10 hv hwl
      rcases Nat.eq_zero_or_pos np with h0 | h0
      · subst h0
        have hl0 : l' = [] := List.eq_nil_of_length_eq_zero HX.out.len
        go_wp2_with fail
        go_roundw
        case rel =>
          have hst := HCR.out.step HPK.out HKI.out HINJ.out HP1.out HF2.out HS'.out (w2 := wr.setCell ⟨p, 1, none⟩ (.slice none 0 0)) (fun b hb => heap_setCell_other _ _ _ _ hb) ⟨rfl, rfl, rfl, by simp [World.setCell]⟩ (by rw [hl0]; exact HUN.out)
          exact ⟨k + 1, a, 0, cp, l'.drop 1, _, _, by omega, by go_num, rfl, ⟨hcp1, hcp2⟩, by have := HX.out.turn hst.1 HO.out; rw [hl0] at this ⊢; exact this, HO.out, hst.2, own_turn HOP.out hst.1 HNF.out⟩
        case measure => simp [intOf]; omega
      · obtain ⟨b2, o2, rfl, hb2, hx0, hxI⟩ := HX.out.at_ (j := 0) h0
        have hdrop : (if cp = 1 then some (⟨b2, o2, none⟩ : Addr) else (some (⟨b2, o2, none⟩ : Addr)).map (·.add 1)) = (if cp = 1 then some ⟨b2, o2, none⟩ else some ⟨b2, o2 + 1, none⟩) := by simp [Addr.add]
        have hdr := HX.out.drop h0 hcp1
        have hod := out_drop (cap := cp) HO.out
        rw [hdrop] at hdr hod
        have HDR := mkHid hdr
        have HOD := mkHid hod
        clear hdr hod hdrop
        rw [Nat.add_zero] at hx0
        generalize hX : l'[0]?.getD 0 = X at *
        have HXX := mkHid hX
        obtain ⟨x0, x1⟩ := hxI
        have HX0 := mkHid hx0
        clear hX
        have hnp : (0 : Int) < (np : Int) := by omega
        have hnp1 : (1 : Int) ≤ (np : Int) := by omega
        by_cases hXp : 0 < X
        · have HXP := mkHid hXp
          by_cases hXw : X < wn
          · obtain ⟨J, hJ⟩ : ∃ J : Nat, X = (J : Int) + 1 := ⟨(X - 1).toNat, by omega⟩
            subst hJ
            obtain ⟨a3, c3, l3, hl3, hc3, hcc3, hgb3⟩ := HEL.out J (by omega)
            have HS0 := mkHid (And.intro (show wr.drew.cell? ⟨p, 1, none⟩ = _ from e1) (And.intro (show wr.drew.cell? ⟨rw_, J, none⟩ = some (.slice a3 128 c3) from hc3) (show wr.drew.frozen? ⟨p, 0, none⟩ = false from f 0)))
            have HG3 := mkHid hgb3
            have HSE3 := mkHid (HSE.out (.slice a3 128 c3) J _ hc3)
            have HCS := mkHid (show crashS ((J : Int) + 1) s = ⟨l3, [], s.bad⟩ from by
              unfold crashS
              rw [if_pos (by omega), show (min ((J : Int) + 1) (s.wait.length : Int)).toNat - 1 = J by have := HWL.out; omega, hl3]
              rfl)
            have HXY := mkHid (show l'[0]?.getD 0 = ((J : Int) + 1) from HXX.out)
            clear hl3 hc3 hgb3 HEL
            go_wp2_with fail
            go_region_held3 (fun s => s.cell? ⟨b2, o2, none⟩ = some (.int .i64 ((J : Int) + 1))) (first | exact HX0.out | assumption) (fail)
            generalize (if cp = 1 then some (⟨b2, o2, none⟩ : Addr) else some ⟨b2, o2 + 1, none⟩) = a' at HDR HOD ⊢
            go_wp2_with fail
            have hif : (if (wn : Int) < (J : Int) + 1 then (wn : Int) else (J : Int) + 1) = (J : Int) + 1 := if_neg (by omega)
            have hwr1 : IntKind.i64.wrap ((J : Int) + 1 - 1) = (J : Int) := by rw [IntKind.wrap_i64]; omega
            have hwr2 : IntKind.i64.wrap (J : Int) = (J : Int) := by rw [IntKind.wrap_i64]; omega
            have hj0 : (0 : Int) ≤ (J : Int) := by omega
            have hj1 : (J : Int) < (wn : Int) := by omega
            go_region_held3 (fun s => s.cell? ⟨p, 1, none⟩ = some (.slice (some ⟨rw_, 0, none⟩) wn wc) ∧ s.cell? ⟨rw_, J, none⟩ = some (.slice a3 128 c3) ∧ s.frozen? ⟨p, 0, none⟩ = false) (first | exact HS0.out | assumption | exact HSE3.out) (fail)
            go_wp2_with fail
            go_roundw
            case rel =>
              have hst := HCR.out.step HPK.out HKI.out HINJ.out HP1.out HF2.out HS'.out (w2 := ((wr.drew.drew.setCell ⟨p, 0, none⟩ (.slice a3 128 c3)).setCell ⟨p, 1, none⟩ (.slice none 0 0))) (fun b hb => (heap_setCell_other _ _ _ _ hb).trans (heap_setCell_other _ _ _ _ hb)) ⟨rfl, rfl, rfl, (set_size _ _ _).trans (set_size _ _ _)⟩ (by rw [HXY.out, HCS.out]; exact HSO.out.drew.drew.flush hcc3 (HG3.out.keep (fun _ _ => rfl) fun _ hb => hb))
              exact ⟨k + 1, _, np - 1, cp - 1, l'.drop 1, _, _, by omega, by go_num, rfl, ⟨by omega, by omega⟩, HDR.out.turn hst.1 HOD.out, HOD.out, hst.2, own_turn HOP.out hst.1 HNF.out⟩
            case measure => simp [intOf]; omega
          · obtain ⟨J, hJ⟩ : ∃ J : Nat, wn = J + 1 := ⟨wn - 1, by omega⟩
            subst hJ
            obtain ⟨a3, c3, l3, hl3, hc3, hcc3, hgb3⟩ := HEL.out J (by omega)
            have HS0 := mkHid (And.intro (show wr.drew.cell? ⟨p, 1, none⟩ = _ from e1) (And.intro (show wr.drew.cell? ⟨rw_, J, none⟩ = some (.slice a3 128 c3) from hc3) (show wr.drew.frozen? ⟨p, 0, none⟩ = false from f 0)))
            have HG3 := mkHid hgb3
            have HSE3 := mkHid (HSE.out (.slice a3 128 c3) J _ hc3)
            have HCS := mkHid (show crashS X s = ⟨l3, [], s.bad⟩ from by
              unfold crashS
              rw [if_pos (by omega), show (min X (s.wait.length : Int)).toNat - 1 = J by have := HWL.out; omega, hl3]
              rfl)
            have HXY := mkHid (show l'[0]?.getD 0 = X from HXX.out)
            clear hl3 hc3 hgb3 HEL
            go_wp2_with fail
            go_region_held3 (fun s => s.cell? ⟨b2, o2, none⟩ = some (.int .i64 X)) (first | exact HX0.out | assumption) (fail)
            generalize (if cp = 1 then some (⟨b2, o2, none⟩ : Addr) else some ⟨b2, o2 + 1, none⟩) = a' at HDR HOD ⊢
            go_wp2_with fail
            have hif : (if (J : Int) + 1 < X then (J : Int) + 1 else X) = (J : Int) + 1 := by split <;> omega
            have hwr1 : IntKind.i64.wrap ((J : Int) + 1 - 1) = (J : Int) := by rw [IntKind.wrap_i64]; omega
            have hwr2 : IntKind.i64.wrap (J : Int) = (J : Int) := by rw [IntKind.wrap_i64]; omega
            have hj0 : (0 : Int) ≤ (J : Int) := by omega
            have hj1 : (J : Int) < (J : Int) + 1 := by omega
            go_region_held3 (fun s => s.cell? ⟨p, 1, none⟩ = some (.slice (some ⟨rw_, 0, none⟩) (J + 1) wc) ∧ s.cell? ⟨rw_, J, none⟩ = some (.slice a3 128 c3) ∧ s.frozen? ⟨p, 0, none⟩ = false) (first | exact HS0.out | assumption | exact HSE3.out) (fail)
            go_wp2_with fail
            go_roundw
            case rel =>
              have hst := HCR.out.step HPK.out HKI.out HINJ.out HP1.out HF2.out HS'.out (w2 := ((wr.drew.drew.setCell ⟨p, 0, none⟩ (.slice a3 128 c3)).setCell ⟨p, 1, none⟩ (.slice none 0 0))) (fun b hb => (heap_setCell_other _ _ _ _ hb).trans (heap_setCell_other _ _ _ _ hb)) ⟨rfl, rfl, rfl, (set_size _ _ _).trans (set_size _ _ _)⟩ (by rw [HXY.out, HCS.out]; exact HSO.out.drew.drew.flush hcc3 (HG3.out.keep (fun _ _ => rfl) fun _ hb => hb))
              exact ⟨k + 1, _, np - 1, cp - 1, l'.drop 1, _, _, by omega, by go_num, rfl, ⟨by omega, by omega⟩, HDR.out.turn hst.1 HOD.out, HOD.out, hst.2, own_turn HOP.out hst.1 HNF.out⟩
            case measure => simp [intOf]; omega
        · have HXP := mkHid hXp
          go_wp2_with fail
          go_region_held3 (fun s => s.cell? ⟨b2, o2, none⟩ = some (.int .i64 X)) (first | exact HX0.out | assumption) (fail)
          go_wp2_with fail
          go_roundw
          case rel =>
            have hst := HCR.out.step HPK.out HKI.out HINJ.out HP1.out HF2.out HS'.out (w2 := (wr.setCell ⟨p, 1, none⟩ (.slice none 0 0)).drew) (fun b hb => heap_setCell_other _ _ _ _ hb) ⟨rfl, rfl, rfl, by simp [World.setCell, World.drew]⟩ (by unfold crashS; rw [HXX.out, if_neg (by have := HXP.out; omega)]; exact HUN.out.drew)
            exact ⟨k + 1, _, np - 1, cp - 1, l'.drop 1, _, _, by omega, by go_num, rfl, ⟨by omega, by omega⟩, HDR.out.turn hst.1 HOD.out, HOD.out, hst.2, own_turn HOP.out hst.1 HNF.out⟩
          case measure => simp [intOf]; omega
    · obtain rfl : k = P.length := by omega
      have hfin := HCR.out.fin
      rw [List.drop_of_length_le (Nat.le_refl _)] at hfin
      have HFIN := mkHid (show ss' = crashed ss l from by unfold crashed; rw [HPP.out]; exact hfin)
      have HT := mkHid HCR.out.t
      have HD := mkHid HCR.out.d
      clear hfin HCR
      go_wp2_with fail
      go_end0
      exact ⟨rfl, HT.out, HFIN.out ▸ ⟨_, _, _, _, _, HD.out⟩⟩

end Go.Proofs.YtpoeneabhoajaaaDoor
