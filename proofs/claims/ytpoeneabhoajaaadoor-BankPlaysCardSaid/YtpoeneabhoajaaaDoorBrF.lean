/- The document's bank: Crash by contract. -/
import Derived.Test.YtpoeneabhoajaaaDoorBrE
namespace Go.Proofs.YtpoeneabhoajaaaDoor
open Go.RowKit

/-- The document's bank while it crashes: q devices are through, p picks are used up. -/
structure RCB (w wr : World) (F F' : Nat → Prop) (g : Nat) (A : Option Addr) (n c : Nat) (ps : List (Option Nat)) (s : Bst) (l : List Int) (q : Nat) (t : Bst) (l' : List Int) : Prop where
  tu : Turn F w wr
  b : ∃ Fs, RBK wr F' g A n c ps Fs t
  ff : ∀ b, F' b → F b ∨ w.heap.size ≤ b
  eq : t.armed = s.armed ∧ t.left = s.left ∧ t.down = s.down ∧ t.done = s.done
  rest : ∀ j, q ≤ j → t.ds[j]? = s.ds[j]?
  fin : t.ds.take q ++ crashB (s.ds.drop q) l' = crashB s.ds l
theorem RCB.gone {w wr : World} {F F' : Nat → Prop} {g : Nat} {A : Option Addr} {n c : Nat} {ps : List (Option Nat)} {s : Bst} {l : List Int} {q : Nat} {t : Bst} {l' : List Int} (h : RCB w wr F F' g A n c ps s l q t l') (hq : s.ds[q]? = some none) : RCB w wr F F' g A n c ps s l (q + 1) t l' := by
  refine ⟨h.tu, h.b, h.ff, h.eq, fun j hj => h.rest j (by omega), ?_⟩
  have hl := (List.getElem?_eq_some_iff.1 hq)
  have hf := h.fin
  rw [List.drop_eq_getElem_cons hl.1, hl.2, crashB] at hf
  rw [List.take_add_one, h.rest q (Nat.le_refl _), hq, Option.toList_some, List.append_assoc]
  exact hf
theorem RCB.dev {w wr w' : World} {F F' F2 : Nat → Prop} {g : Nat} {A : Option Addr} {n c : Nat} {ps : List (Option Nat)} {Fs : Nat → Nat → Prop} {s : Bst} {l : List Int} {q p : Nat} {t : Bst} {l' : List Int} {ss : List Sec} (h : RCB w wr F F' g A n c ps s l q t l') (hb : RBK wr F' g A n c ps Fs t) (hq : s.ds[q]? = some (some ss)) (hp : ps[q]? = some (some p)) (ht : Turn (Fs q) wr w') (hd : RD w' F2 p (crashed ss (l'.take (pend ss).length))) (hF : ∀ b, F2 b → Fs q b ∨ wr.heap.size ≤ b) :
    ∃ F2 t', RCB w w' F F2 g A n c ps s l (q + 1) t' (l'.drop (pend ss).length) := by
  have hq' : t.ds[q]? = some (some ss) := (h.rest q (Nat.le_refl _)).trans hq
  obtain ⟨k1, F2, k2, k3⟩ := hb.diskK hq' hp ht hd hF
  refine ⟨F2, _, h.tu.trans k1 h.ff, k2, fun b hb => (k3 b hb).elim (h.ff b) fun e => .inr (Nat.le_trans h.tu.size e), h.eq, fun j hj => ?_, ?_⟩
  · simp only
    rw [List.getElem?_set_ne (by omega)]
    exact h.rest j (by omega)
  · have hl := (List.getElem?_eq_some_iff.1 hq)
    have hl' := (List.getElem?_eq_some_iff.1 hq')
    have hf := h.fin
    rw [List.drop_eq_getElem_cons hl.1, hl.2, crashB] at hf
    simp only
    rw [List.take_add_one, List.getElem?_set_self hl'.1, List.take_set_of_le (Nat.le_refl _), Option.toList_some, List.append_assoc]
    exact hf
theorem take_or {l : List Int} {at_ k n m : Nat} (hl : l.length = m) (hk : k ≤ n) (h : k = n ∨ at_ + k = m) : (l.drop at_).take k = (l.drop at_).take n ∧ l.drop (at_ + k) = (l.drop at_).drop n := by
  rcases h with rfl | h
  · exact ⟨rfl, by rw [List.drop_drop]⟩
  · have hd : (l.drop at_).length = k := by rw [List.length_drop]; omega
    refine ⟨by rw [List.take_of_length_le (Nat.le_of_eq hd), List.take_of_length_le (by omega)], ?_⟩
    rw [List.drop_of_length_le (by omega), List.drop_of_length_le (by omega)]

set_option maxRecDepth 20000 in
set_option maxHeartbeats 2000000 in
theorem rbcrash_any (F : Nat → Prop) (g : Nat) (s : Bst) (a : Option Addr) (m k : Nat) (l : List Int) (w : World) (h : RBO w F g s) (hx : IS w w.heap.size a m l) (hout : 0 < m → ∀ ad : Addr, a = some ad → ¬ F ad.block) (hm : m ≤ 1000000) :
    Calls Tryd.prog 35 #[.pointer (some ⟨g, 0, none⟩), .slice a m k] w fun e w' => e = .returned (.tuple #[]) ∧ Turn F w w' ∧ ∃ F', RBO w' F' g (s.crashedB l) ∧ ∀ b, F' b → F b ∨ w.heap.size ≤ b := by
  obtain ⟨A, n, c, ps, Fs, h⟩ := h
  have hn8 := h.n8
  obtain ⟨hc1, hc2⟩ := own_cap h.row
  have HLEN := mkHid h.len
  have HCB := mkHid (show RCB w w F F g A n c ps s l 0 s (l.drop 0) from ⟨Turn.of_below (Below.refl _ _), ⟨Fs, h⟩, fun b hb => .inl hb, ⟨rfl, rfl, rfl, rfl⟩, fun _ _ => rfl, rfl⟩)
  have HX := mkHid hx
  have HO := mkHid hout
  have HL := mkHid hx.len
  clear h hx hout
  go_enter Tryd.func35, Tryd.ntmps35
  go_wp2_with fail
  go_loopw [5, 4] (fun i at_ wr => ∃ (q T : Nat) (F' : Nat → Prop) (t : Bst), q ≤ n ∧ i = .int .i64 q ∧ at_ = .int .i64 T ∧ T ≤ m ∧ Hid (RCB w wr F F' g A n c ps s l q t (l.drop T))) (fun i _ _ => n - (intOf i).toNat)
  case atStart => exact ⟨0, 0, F, s, Nat.zero_le _, rfl, rfl, Nat.zero_le _, HCB⟩
  case round =>
    clear HCB
    obtain ⟨q, T, F', t, hq, rfl, rfl, hT, HCB⟩ := hrel
    obtain ⟨Fs, hbk⟩ := HCB.out.b
    have c0 := cell_of_row wr g 0 _ _ _ hbk.blk
    simp at c0
    by_cases hlt : q < n
    · obtain ⟨r, o, rfl, hp, hcell, _⟩ := hbk.at_ hlt
      obtain ⟨od, hod⟩ : ∃ od, s.ds[q]? = some od := ⟨_, List.getElem?_eq_getElem (by rw [HLEN.out]; exact hlt)⟩
      have hot := (HCB.out.rest q (Nat.le_refl _)).trans hod
      cases od with
      | none =>
        have hno := hbk.no q hot
        rw [hp] at hno
        injection hno with hno
        subst hno
        simp only [ptrO] at hcell
        have HN := mkHid (HCB.out.gone hod)
        clear hbk hp hod hot
        go_wp2_with fail
        go_roundw
        case rel => exact ⟨q + 1, T, F', t, by omega, by go_num, rfl, hT, HN⟩
        case measure => simp [intOf]; omega
      | some ss =>
        obtain ⟨wO, rfl⟩ : ∃ x : World, x = wr := ⟨wr, rfl⟩
        obtain ⟨p, hp', hdk⟩ := hbk.dk q ss hot
        rw [hp] at hp'
        injection hp' with hp'
        subst hp'
        simp only [ptrO, ptrV] at hcell
        have HDK := mkHid hdk
        have HBK := mkHid hbk
        have HP := mkHid hp
        have HOD := mkHid hod
        have hpl : (pend ss).length ≤ 4096 := Nat.le_trans (pendN_len ss _) hdk.nl
        have HFQ := mkHid (show ∀ b, Fs q b → b < wO.heap.size from fun b hb => hdk.lt b hb)
        have HXR := mkHid (HX.out.turn0 HCB.out.tu HO.out)
        have HG := mkHid (And.intro (hbk.lt g hbk.fg) (hbk.lt r (hbk.fr r rfl)))
        have HS := mkHid (And.intro c0 hcell)
        clear hbk hp hod hot hdk
        go_wp2_with fail
        refine (rpending_any (Fs q) p ss wO HDK.out).mono ?_
        rintro e w1 ⟨PA, pc, rfl, _, hb1⟩
        have HB1 := mkHid hb1
        have s1 := hb1.size
        clear hb1
        generalize hN : (pend ss).length = N at *
        have HN := mkHid hN
        clear hN c0 hcell
        obtain ⟨wI, rfl⟩ : ∃ x : World, x = w1 := ⟨w1, rfl⟩
        go_wp2_with fail
        go_loopw [7, 8, 4] (fun ll kk at_ w2 => ∃ (K C : Nat) (O : Option Addr), K ≤ N ∧ kk = .int .i64 K ∧ at_ = .int .i64 (T + K : Nat) ∧ T + K ≤ m ∧ ll = .slice O K C ∧ Hid (w2.ownsRow wI.heap.size 3 1 (.slice O K C) K (((l.drop T).take K).map i64v)) ∧ Hid (Below wI.heap.size wI w2)) (fun _ kk _ _ => N - (intOf kk).toNat)
        case atStart => exact ⟨0, 0, none, Nat.zero_le _, rfl, rfl, hT, rfl, mkHid (by rw [List.take_zero]; exact World.ownsRow_nil _ _ _ _), mkHid (Below.refl _ _)⟩
        case round =>
          obtain ⟨K, C, O, hK, rfl, rfl, hTK, rfl, HOW, HBI⟩ := hrel
          have HX2 := mkHid ((((HXR.out.below HB1.out).more s1).below HBI.out).more HBI.out.size)
          have s2 := HBI.out.size
          have hcap := own_cap HOW.out
          by_cases hx : K < N ∧ T + K < m
          · obtain ⟨hx1, hx2⟩ := hx
            obtain ⟨b, o2, rfl, hb, hx0, hI⟩ := HX2.out.at_ hx2
            have HTS := mkHid (show (l.drop T).take (K + 1) = (l.drop T).take K ++ [l[T + K]?.getD 0] by
              have hh := HL.out
              have hlt2 : K < (l.drop T).length := by rw [List.length_drop]; omega
              have hlt3 : T + K < l.length := by omega
              rw [List.take_add_one, List.getElem?_drop, List.getElem?_eq_getElem hlt3]
              rfl)
            obtain ⟨x, hxe⟩ : ∃ x, l[T + K]?.getD 0 = x := ⟨_, rfl⟩
            rw [hxe] at hx0 hI HTS
            clear hxe
            have ht0 : (0 : Int) ≤ ((T + K : Nat) : Int) := by omega
            have ht1 : ((T + K : Nat) : Int) < (m : Int) := by omega
            have hc0 : wr.cell? ⟨b, o2 + (T + K), none⟩ = some (.int .i64 x) := hx0
            go_wp2_with (at_builtin; refine wpList_app _ rfl (.tmp 46) (.tmp 51) _ rfl wI.heap.size el_int O K C _ rfl (HOW.out.alloc _) (wr.heap.size + 1) (some ⟨wr.heap.size, 0, none⟩) 1 1 [i64v x] rfl (SL.one _ _) (fun u hu => by obtain rfl := List.mem_singleton.1 hu; rfl) (by unfold maxLen; omega) (by omega) (by simp; omega) ?_; intro O' C' w3 ho3 hg3 hat3; have HO3 := mkHid ho3; have HG3 := mkHid hg3; clear ho3 hg3 hat3)
            go_roundw
            case rel => exact ⟨K + 1, C', O', by omega, by go_num, by go_num, by omega, rfl, mkHid (by rw [HTS.out, List.map_append]; exact HO3.out), mkHid ((HBI.out.alloc s2 _).grown HG3.out (by simp; omega) (own_base HOW.out))⟩
            case measure => simp [intOf]; omega
          · have HTO := mkHid (take_or (at_ := T) HL.out hK (show K = N ∨ T + K = m by omega))
            have hor : ¬ K < N ∨ (K < N ∧ ¬ T + K < m) := by omega
            have c0 : wr.cell? ⟨g, 0, none⟩ = some (.slice (some ⟨r, 0, none⟩) n c) := (HBI.out.cell (p := ⟨g, 0, none⟩) (Nat.lt_of_lt_of_le HG.out.1 s1)).trans ((HB1.out.cell (p := ⟨g, 0, none⟩) HG.out.1).trans HS.out.1)
            have hcell : wr.cell? ⟨r, q, none⟩ = some (.pointer (some ⟨p, 0, none⟩)) := (HBI.out.cell (p := ⟨r, q, none⟩) (Nat.lt_of_lt_of_le HG.out.2 s1)).trans ((HB1.out.cell (p := ⟨r, q, none⟩) HG.out.2).trans HS.out.2)
            have HCR := mkHid (rcrash_any (Fs q) p ss O K C ((l.drop T).take K) wr ((HDK.out.below HB1.out).below HBI.out) ⟨SL.of_own HOW.out, fun x hx => HX.out.2 x (List.mem_of_mem_drop (List.mem_of_mem_take hx))⟩ (fun _ => own_out HOW.out fun b hb => Nat.lt_of_lt_of_le (HFQ.out b hb) s1) ⟨hcap.1, by have := hcap.2; unfold maxLen at this; omega⟩)
            clear hx
            rcases hor with hkn | ⟨hkn, htm⟩
            all_goals
              go_wp2_with fail
              refine HCR.out.mono ?_
              rintro e w3 ⟨rfl, ht3, F3, hd3, hF3⟩
              rw [HTO.out.1, ← HN.out] at hd3
              obtain ⟨F4, t4, hcb⟩ := HCB.out.dev HBK.out HOD.out HP.out (((Turn.of_below (F := Fs q) HB1.out).trans (Turn.of_below (F := Fs q) HBI.out) fun b hb => .inl hb).trans ht3 fun b hb => .inl hb) hd3 (fun b hb => (hF3 b hb).imp id fun e => by omega)
              rw [HN.out, ← HTO.out.2] at hcb
              have HCB4 := mkHid hcb
              clear ht3 hd3 hF3 hcb
              go_wp2_with fail
              go_roundw
              case rel => exact ⟨q + 1, T + K, F4, t4, by omega, by go_num, rfl, hTK, HCB4⟩
              case measure => simp [intOf]; omega
    · obtain rfl : q = n := by omega
      have hb := hbk.blk
      have c1 := cell_of_row wr g 1 _ _ _ hb
      have c2 := cell_of_row wr g 2 _ _ _ hb
      have f := fun k => frozen_of_row wr g k _ _ hb
      simp at c1 c2
      have hk' : ∀ b, b ≠ g → ((wr.setCell ⟨g, 1, none⟩ (.int .i64 (-1))).setCell ⟨g, 2, none⟩ (.bool false)).heap[b]? = wr.heap[b]? := fun b hb => (heap_setCell_other _ _ _ _ hb).trans (heap_setCell_other _ _ _ _ hb)
      have hz : ((wr.setCell ⟨g, 1, none⟩ (.int .i64 (-1))).setCell ⟨g, 2, none⟩ (.bool false)).heap.size = wr.heap.size := by simp [World.setCell]
      have hds : t.ds = crashB s.ds l := by
        have hf := HCB.out.fin
        have ht := hbk.len
        have hs := HLEN.out
        rw [List.drop_of_length_le (by omega), crashB, List.append_nil, List.take_of_length_le (by omega)] at hf
        exact hf
      have hfin : Turn F w ((wr.setCell ⟨g, 1, none⟩ (.int .i64 (-1))).setCell ⟨g, 2, none⟩ (.bool false)) ∧ RBO ((wr.setCell ⟨g, 1, none⟩ (.int .i64 (-1))).setCell ⟨g, 2, none⟩ (.bool false)) F' g (s.crashedB l) := by
        refine ⟨HCB.out.tu.trans (turn_only hbk.fg hk' ⟨rfl, rfl, rfl, hz⟩) HCB.out.ff, A, q, c, ps, Fs, hbk.fields (s' := s.crashedB l) hds.symm ⟨(fun e => by cases e), by rw [show (s.crashedB l).left = s.left from rfl, ← HCB.out.eq.2.1]; exact hbk.lf.2⟩ ?_ hk' hz⟩
        have h1 := set_at _ g 2 (.bool false) (set_at wr g 1 (.int .i64 (-1)) hb)
        rw [show rbankC A q c (s.crashedB l) = #[.slice A q c, .int .i64 (-1), .bool false, .int .i64 t.done] by rw [HCB.out.eq.2.2.2]; rfl]
        exact h1
      have HFIN := mkHid hfin
      clear hfin hbk hb hk' hz hds
      go_wp2_with fail
      go_end0
      exact ⟨rfl, HFIN.out.1, F', HFIN.out.2, HCB.out.ff⟩

end Go.Proofs.YtpoeneabhoajaaaDoor
