/- The bank's Fill, Crash by contract. -/
import Derived.Test.YtpoeneabhoajaaaDoorBkG
import Derived.Test.YtpoeneabhoajaaaDoorDkK4
namespace Go.Proofs.YtpoeneabhoajaaaDoor
open Go.RowKit

def Bst.filledB (s : Bst) (i : Int) (l : List Int) : Bst := if s.devE i ≠ 0 then s else { s with ds := s.ds.set i.toNat (some (filled (s.sec i) l)) }

set_option maxRecDepth 20000 in
theorem bfill_any (F : Nat → Prop) (g : Nat) (s : Bst) (i : Int) (a : Option Addr) (m k0 : Nat) (l : List Int) (w : World) (h : BO w F g s) (hi : I64 i) (hx : BS w w.heap.size a m l) (hout : ∀ ad : Addr, a = some ad → ¬ F ad.block) (hk : m ≤ k0 ∧ k0 ≤ 9223372036854775807) (hm2 : m ≤ 140737488355328) :
    Calls Tryd.prog 39 #[.pointer (some ⟨g, 0, none⟩), .int .i64 i, .slice a m k0] w (RetE F g (s.filledB i l) opFill i 0 (s.devE i) w) := by
  obtain ⟨A, n, c, ps, Fs, h⟩ := h
  have HL := mkHid (device_any F g A n c ps Fs s i w h hi)
  have HB := mkHid h
  have HX := mkHid hx
  have HO := mkHid hout
  have HK := mkHid hk
  clear h hi hx hout hk
  by_cases hl : s.devE i = 0
  case neg =>
    have HE := mkHid (show s.filledB i l = s from if_pos hl)
    have HNE := mkHid hl
    have hw := wrap_cv opFill i 0 (s.devE i) w
    rw [show cv (s.devE i) = codeV (s.devE i) from if_neg hl] at hw
    have HW := mkHid hw
    clear hl hw
    go_enter Tryd.func39, Tryd.ntmps39
    go_wp2_with fail
    refine HL.out.mono ?_
    intro e w1 hr
    obtain ⟨rfl, rfl⟩ := hr.no HNE.out
    clear hr
    go_wp2_with fail
    refine HW.out.mono ?_
    rintro e w2 ⟨v, rfl, hv, hb2⟩
    have HV := mkHid hv
    have HB2 := mkHid hb2
    clear hv hb2
    go_wp2_with fail
    go_ret
    exact ⟨v, rfl, HV.out, Turn.of_below HB2.out, F, by rw [HE.out]; exact BO.below ⟨A, n, c, ps, Fs, HB.out⟩ HB2.out, fun b hb => .inl hb⟩
  obtain ⟨j, ss, rfl, hj, hsec⟩ := dev_dev hl
  rw [hl] at HL
  have HJ := mkHid hj
  have HE := mkHid (show s.filledB j l = { s with ds := s.ds.set j (some (filled ss l)) } from by unfold Bst.filledB; rw [if_neg (by rw [hl]; simp), hsec, Int.toNat_natCast])
  have HLV := mkHid hl
  clear hl hj hsec
  go_enter Tryd.func39, Tryd.ntmps39
  go_wp2_with fail
  refine HL.out.mono ?_
  intro e w1 hr
  obtain ⟨rfl, p, hp, rfl, hdk⟩ := RetD.ok HB.out HJ.out hr
  have HDK := mkHid hdk
  have HP := mkHid hp
  clear hp hdk hr
  go_wp2_with fail
  refine (fill_any (Fs j) p ss a m k0 l w HDK.out HX.out (fun ad had hf => HO.out ad had (HB.out.fs j _ hf).1) HK.out hm2).mono ?_
  rintro e w1 ⟨rfl, ht1, F2, hd1, hF1⟩
  obtain ⟨k1, F3, k2, k3⟩ := HB.out.disk HJ.out HP.out ht1 hd1 hF1
  have K1 := mkHid k1
  have K2 := mkHid k2
  have K3 := mkHid k3
  clear ht1 hd1 hF1 k1 k2 k3
  go_wp2_with fail
  refine (wrap_nil opFill j 0 w1).mono ?_
  rintro e w2 ⟨rfl, rfl⟩
  go_wp2_with fail
  go_ret
  refine ⟨.nilIface, rfl, ⟨fun _ => rfl, fun e => absurd HLV.out e⟩, K1.out, F3, ?_, K3.out⟩
  rw [HE.out]
  exact K2.out

/-! ## Crash -/
def crashB : List (Option (List Sec)) → List Int → List (Option (List Sec))
  | [], _ => []
  | none :: r, p => none :: crashB r p
  | some ss :: r, p => some (crashed ss (p.take (pend ss).length)) :: crashB r (p.drop (pend ss).length)
def Bst.crashedB (s : Bst) (p : List Int) : Bst := { s with ds := crashB s.ds p, armed := false, down := false }
/-- Where a slice of picks lies: nowhere, or outside of the bank. -/
def PK (w : World) (F : Nat → Prop) (a : Option Addr) : Prop := a = none ∨ ∃ b o, a = some ⟨b, o, none⟩ ∧ b < w.heap.size ∧ ¬ F b
theorem PK.out {w : World} {F : Nat → Prop} {a : Option Addr} (h : PK w F a) : ∀ ad : Addr, a = some ad → ¬ F ad.block := fun ad had => by
  rcases h with rfl | ⟨b, o, rfl, _, hf⟩
  · cases had
  · injection had with had
    rw [← had]
    exact hf
theorem PK.of_own {w : World} {base : Nat} {e : TypeId} {k n c : Nat} {A : Option Addr} {xs : List Value} {F : Nat → Prop} (h : w.ownsRow base e k (.slice A n c) n xs) (hF : ∀ b, F b → b < base) : PK w F A := by
  obtain ⟨A0, c0, hv, _, hA⟩ := own_form _ h
  injection hv with hv _ _
  rcases hA with e | ⟨g, e, hg1, hg2⟩
  · exact .inl (hv.trans e)
  · exact .inr ⟨g, 0, hv.trans e, hg2, fun hf => by have := hF g hf; omega⟩
theorem take_min (l : List Int) (p : Nat) : l.take (min p l.length) = l.take p ∧ l.drop (min p l.length) = l.drop p := by
  rcases Nat.le_total p l.length with h | h
  · rw [Nat.min_eq_left h]; exact ⟨rfl, rfl⟩
  · rw [Nat.min_eq_right h, List.take_of_length_le (Nat.le_refl _), List.take_of_length_le h, List.drop_of_length_le (Nat.le_refl _), List.drop_of_length_le h]; exact ⟨rfl, rfl⟩
theorem IS.take {w : World} {B n k : Nat} {a : Option Addr} {l : List Int} (h : IS w B a n l) (hk : k ≤ n) : IS w B a k (l.take k) :=
  ⟨by have := h.1.take (k := k) hk; rwa [Nat.mul_one, ← List.map_take] at this, fun x hx => h.2 x (List.mem_of_mem_take hx)⟩
theorem IS.dropK {w : World} {B n k cap : Nat} {a : Option Addr} {l : List Int} (h : IS w B a n l) (hk : k ≤ n) (hc : n ≤ cap) : IS w B (if cap = k then a else a.map (·.add k)) (n - k) (l.drop k) :=
  ⟨by have := h.1.drop (k := k) hk hc; rwa [Nat.mul_one, ← List.map_drop] at this, fun x hx => h.2 x (List.mem_of_mem_drop hx)⟩
theorem add_known (b o N : Nat) : (⟨b, o, none⟩ : Addr).add N = ⟨b, o + N, none⟩ := by unfold Addr.add; split <;> simp_all
theorem crashB_len : ∀ (d : List (Option (List Sec))) (p : List Int), (crashB d p).length = d.length
  | [], _ => rfl
  | none :: r, p => by rw [crashB, List.length_cons, crashB_len r p, List.length_cons]
  | some ss :: r, p => by rw [crashB, List.length_cons, crashB_len r _, List.length_cons]

/-- The bank while it crashes: q devices are through, the picks l' are left. -/
structure CB (w wr : World) (F F' : Nat → Prop) (g : Nat) (A : Option Addr) (n c : Nat) (ps : List (Option Nat)) (s : Bst) (l : List Int) (q : Nat) (t : Bst) (l' : List Int) : Prop where
  tu : Turn F w wr
  b : ∃ Fs, BK wr F' g A n c ps Fs t
  ff : ∀ b, F' b → F b ∨ w.heap.size ≤ b
  eq : t.armed = s.armed ∧ t.left = s.left ∧ t.down = s.down ∧ t.done = s.done
  rest : ∀ j, q ≤ j → t.ds[j]? = s.ds[j]?
  fin : t.ds.take q ++ crashB (s.ds.drop q) l' = crashB s.ds l
theorem CB.gone {w wr : World} {F F' : Nat → Prop} {g : Nat} {A : Option Addr} {n c : Nat} {ps : List (Option Nat)} {s : Bst} {l : List Int} {q : Nat} {t : Bst} {l' : List Int} (h : CB w wr F F' g A n c ps s l q t l') (hq : s.ds[q]? = some none) : CB w wr F F' g A n c ps s l (q + 1) t l' := by
  refine ⟨h.tu, h.b, h.ff, h.eq, fun j hj => h.rest j (by omega), ?_⟩
  have hl := (List.getElem?_eq_some_iff.1 hq)
  have hf := h.fin
  rw [List.drop_eq_getElem_cons hl.1, hl.2, crashB] at hf
  rw [List.take_add_one, h.rest q (Nat.le_refl _), hq, Option.toList_some, List.append_assoc]
  exact hf
theorem CB.dev {w wr w' : World} {F F' : Nat → Prop} {g : Nat} {A : Option Addr} {n c : Nat} {ps : List (Option Nat)} {Fs : Nat → Nat → Prop} {s : Bst} {l : List Int} {q p : Nat} {t : Bst} {l' : List Int} {ss : List Sec} (h : CB w wr F F' g A n c ps s l q t l') (hb : BK wr F' g A n c ps Fs t) (hq : s.ds[q]? = some (some ss)) (hp : ps[q]? = some (some p)) (ht : Turn (Fs q) wr w') (hd : DK w' (Fs q) p (crashed ss (l'.take (pend ss).length))) :
    ∃ F2 t', CB w w' F F2 g A n c ps s l (q + 1) t' (l'.drop (pend ss).length) := by
  have hq' : t.ds[q]? = some (some ss) := (h.rest q (Nat.le_refl _)).trans hq
  obtain ⟨k1, F2, k2, k3⟩ := hb.diskK hq' hp ht hd fun b hb => .inl hb
  refine ⟨F2, _, h.tu.trans k1 h.ff, k2, fun b hb => (k3 b hb).elim (h.ff b) fun e => .inr (Nat.le_trans h.tu.size e), h.eq, fun j hj => ?_, ?_⟩
  · simp only
    rw [List.getElem?_set_ne (by omega)]
    exact h.rest j (by omega)
  · have hl := (List.getElem?_eq_some_iff.1 hq)
    have hl' := (List.getElem?_eq_some_iff.1 hq')
    have hf := h.fin
    rw [List.drop_eq_getElem_cons hl.1, hl.2, crashB] at hf
    simp only
    rw [List.take_add_one, List.getElem?_set_self hl'.1, List.take_set_of_le (Nat.le_refl _), Option.toList_some, List.append_assoc]
    exact hf

set_option maxRecDepth 20000 in
set_option maxHeartbeats 2000000 in
theorem bcrash_any (F : Nat → Prop) (g : Nat) (s : Bst) (a : Option Addr) (m k : Nat) (l : List Int) (w : World) (h : BO w F g s) (hx : IS w w.heap.size a m l) (hout : PK w F a) (hk : m ≤ k ∧ k ≤ 9223372036854775807) :
    Calls Tryd.prog 36 #[.pointer (some ⟨g, 0, none⟩), .slice a m k] w fun e w' => e = .returned (.tuple #[]) ∧ Turn F w w' ∧ ∃ F', BO w' F' g (s.crashedB l) ∧ ∀ b, F' b → F b ∨ w.heap.size ≤ b := by
  obtain ⟨A, n, c, ps, Fs, h⟩ := h
  have hn8 := h.n8
  obtain ⟨hc1, hc2⟩ := own_cap h.row
  have c0 := cell_of_row w g 0 _ _ _ h.blk
  simp at c0
  have HLEN := mkHid h.len
  have HCB := mkHid (show CB w w F F g A n c ps s l 0 s l from ⟨Turn.of_below (Below.refl _ _), ⟨Fs, h⟩, fun b hb => .inl hb, ⟨rfl, rfl, rfl, rfl⟩, fun _ _ => rfl, rfl⟩)
  have HX := mkHid hx
  have HPK := mkHid hout
  obtain ⟨hk1, hk2⟩ := hk
  clear h hx hout
  go_enter Tryd.func36, Tryd.ntmps36
  go_wp2_with fail
  go_loopw [12, 1] (fun i pk wr => ∃ (q : Nat) (F' : Nat → Prop) (t : Bst) (a : Option Addr) (m k : Nat) (l' : List Int), q ≤ n ∧ i = .int .i64 q ∧ pk = .slice a m k ∧ m ≤ k ∧ k ≤ 9223372036854775807 ∧ Hid (IS w w.heap.size a m l') ∧ Hid (PK w F a) ∧ Hid (CB w wr F F' g A n c ps s l q t l')) (fun i _ _ => n - (intOf i).toNat)
  case atStart => exact ⟨0, F, s, a, m, k, l, Nat.zero_le _, rfl, rfl, hk1, hk2, HX, HPK, HCB⟩
  case round =>
    clear HCB HX HPK c0 hk1 hk2
    obtain ⟨q, F', t, a, m, k, l', hq, rfl, rfl, hk1, hk2, HX, HPK, HCB⟩ := hrel
    obtain ⟨Fs, hbk⟩ := HCB.out.b
    by_cases hlt : q < n
    · obtain ⟨r, o, rfl, hp, hcell, _⟩ := hbk.at_ hlt
      obtain ⟨od, hod⟩ : ∃ od, s.ds[q]? = some od := ⟨_, List.getElem?_eq_getElem (by rw [HLEN.out]; exact hlt)⟩
      have hot := (HCB.out.rest q (Nat.le_refl _)).trans hod
      cases od with
      | none =>
        have hno := hbk.no q hot
        rw [hp] at hno
        injection hno with hno
        subst hno
        simp only [ptrO] at hcell
        have HN := mkHid (HCB.out.gone hod)
        clear hbk hp hod hot
        go_wp2_with fail
        go_roundw
        case rel => exact ⟨q + 1, F', t, a, m, k, l', by omega, by go_num, rfl, hk1, hk2, HX, HPK, HN⟩
        case measure => simp [intOf]; omega
      | some ss =>
        obtain ⟨p, hp', hdk⟩ := hbk.dk q ss hot
        rw [hp] at hp'
        injection hp' with hp'
        subst hp'
        simp only [ptrO, ptrV] at hcell
        have HDK := mkHid hdk
        have HBK := mkHid hbk
        have HP := mkHid hp
        have HOD := mkHid hod
        have hpl : (pend ss).length ≤ 4096 := Nat.le_trans (pendN_len ss _) hdk.nl
        clear hbk hp hod hot hdk
        go_wp2_with fail
        refine (pending_any (Fs q) p ss wr HDK.out).mono ?_
        rintro e w1 ⟨PA, pc, rfl, _, hb1⟩
        have HB1 := mkHid hb1
        have HX1 := mkHid (((HX.out.turn HCB.out.tu HPK.out.out).below hb1).more hb1.size)
        have HLL := mkHid HX.out.len
        clear hb1
        by_cases hml : m < (pend ss).length
        · have HTK := mkHid (show l'.take (pend ss).length = l'.take m ∧ l'.drop (pend ss).length = l'.drop m from by
            have h1 := take_min l' (pend ss).length
            rw [HLL.out] at h1
            rw [show min (pend ss).length m = m by omega] at h1
            exact ⟨h1.1.symm, h1.2.symm⟩)
          have HIT := mkHid ((HX1.out).take (show m ≤ m by omega))
          rcases HPK.out with ha | ⟨b, o, ha, hbl, hbf⟩
          · subst ha
            have hm0 : m = 0 := by
              rcases Nat.eq_zero_or_pos m with e | e
              · exact e
              · obtain ⟨_, _, e', _⟩ := HX.out.at_ e
                cases e'
            subst hm0
            go_wp2_with fail
            refine (crash_any (Fs q) p ss none 0 k [] w1 (HDK.out.below HB1.out) ⟨SL.nil, fun x hx => by cases hx⟩ (fun ad had => by cases had) ⟨by omega, hk2⟩).mono ?_
            rintro e w2 ⟨rfl, ht2, hd2⟩
            have hl0 : l' = [] := List.eq_nil_of_length_eq_zero HLL.out
            have HL0 := mkHid hl0
            obtain ⟨F2, t2, hcb2⟩ := HCB.out.dev HBK.out HOD.out HP.out ((Turn.of_below (F := Fs q) HB1.out).trans ht2 fun b hb => .inl hb) (by rw [hl0, List.take_nil]; exact hd2)
            rw [hl0, List.drop_nil] at hcb2
            have HCB2 := mkHid hcb2
            clear ht2 hd2 hcb2 hl0
            go_wp2_with fail
            go_roundw
            case rel => exact ⟨q + 1, F2, t2, none, 0, k, [], by omega, by go_num, by first | rfl | simp, by omega, by omega, mkHid ⟨SL.nil, fun x hx => by cases hx⟩, mkHid (.inl rfl), HCB2⟩
            case measure => simp [intOf]; omega
          · subst ha
            go_wp2_with fail
            refine (crash_any (Fs q) p ss (some ⟨b, o, none⟩) m k (l'.take m) w1 (HDK.out.below HB1.out) HIT.out (fun ad had hf => by
              injection had with had
              rw [← had] at hf
              rcases HCB.out.ff _ (HBK.out.fs q _ hf).1 with e | e
              · exact hbf e
              · simp only at e; omega) ⟨by omega, hk2⟩).mono ?_
            rintro e w2 ⟨rfl, ht2, hd2⟩
            rw [← HTK.out.1] at hd2
            obtain ⟨F2, t2, hcb2⟩ := HCB.out.dev HBK.out HOD.out HP.out ((Turn.of_below (F := Fs q) HB1.out).trans ht2 fun b hb => .inl hb) hd2
            have HCB2 := mkHid hcb2
            have hdr := HX.out.dropK (show m ≤ m by omega) hk1
            rw [show (if k = m then some (⟨b, o, none⟩ : Addr) else (some (⟨b, o, none⟩ : Addr)).map (·.add m)) = (if k = m then some ⟨b, o, none⟩ else some ⟨b, o + m, none⟩) by simp only [Option.map_some, add_known]] at hdr
            have HDR := mkHid hdr
            have HPK2 := mkHid (show PK w F (if k = m then some ⟨b, o, none⟩ else some ⟨b, o + m, none⟩) from by
              split
              · exact .inr ⟨b, o, rfl, hbl, hbf⟩
              · exact .inr ⟨b, o + m, rfl, hbl, hbf⟩)
            clear ht2 hd2 hcb2 hdr
            go_wp2_with fail
            go_roundw
            case rel => exact ⟨q + 1, F2, t2, _, m - m, k - m, l'.drop m, by omega, by go_num, by rw [Nat.sub_self], by omega, by omega, HDR, HPK2, mkHid (by rw [← HTK.out.2]; exact HCB2.out)⟩
            case measure => simp [intOf]; omega
        · have HIT := mkHid ((HX1.out).take (show (pend ss).length ≤ m by omega))
          rcases HPK.out with ha | ⟨b, o, ha, hbl, hbf⟩
          · subst ha
            have hm0 : m = 0 := by
              rcases Nat.eq_zero_or_pos m with e | e
              · exact e
              · obtain ⟨_, _, e', _⟩ := HX.out.at_ e
                cases e'
            subst hm0
            have hp0 : (pend ss).length = 0 := by omega
            go_wp2_with fail
            refine (crash_any (Fs q) p ss none 0 k [] w1 (HDK.out.below HB1.out) ⟨SL.nil, fun x hx => by cases hx⟩ (fun ad had => by cases had) ⟨by omega, hk2⟩).mono ?_
            rintro e w2 ⟨rfl, ht2, hd2⟩
            have hl0 : l' = [] := List.eq_nil_of_length_eq_zero HLL.out
            have HL0 := mkHid hl0
            obtain ⟨F2, t2, hcb2⟩ := HCB.out.dev HBK.out HOD.out HP.out ((Turn.of_below (F := Fs q) HB1.out).trans ht2 fun b hb => .inl hb) (by rw [hl0, List.take_nil]; exact hd2)
            rw [hl0, List.drop_nil] at hcb2
            have HCB2 := mkHid hcb2
            clear ht2 hd2 hcb2 hl0
            go_wp2_with fail
            go_roundw
            case rel => exact ⟨q + 1, F2, t2, none, 0, k, [], by omega, by go_num, by first | rfl | simp, by omega, by omega, mkHid ⟨SL.nil, fun x hx => by cases hx⟩, mkHid (.inl rfl), HCB2⟩
            case measure => simp [intOf]; omega
          · subst ha
            go_wp2_with fail
            refine (crash_any (Fs q) p ss (some ⟨b, o, none⟩) (pend ss).length k (l'.take (pend ss).length) w1 (HDK.out.below HB1.out) HIT.out (fun ad had hf => by
              injection had with had
              rw [← had] at hf
              rcases HCB.out.ff _ (HBK.out.fs q _ hf).1 with e | e
              · exact hbf e
              · simp only at e; omega) ⟨by omega, hk2⟩).mono ?_
            rintro e w2 ⟨rfl, ht2, hd2⟩
            obtain ⟨F2, t2, hcb2⟩ := HCB.out.dev HBK.out HOD.out HP.out ((Turn.of_below (F := Fs q) HB1.out).trans ht2 fun b hb => .inl hb) hd2
            have HCB2 := mkHid hcb2
            have hdr := HX.out.dropK (show (pend ss).length ≤ m by omega) hk1
            rw [show (if k = (pend ss).length then some (⟨b, o, none⟩ : Addr) else (some (⟨b, o, none⟩ : Addr)).map (·.add (pend ss).length)) = (if k = (pend ss).length then some ⟨b, o, none⟩ else some ⟨b, o + (pend ss).length, none⟩) by simp only [Option.map_some, add_known]] at hdr
            have HDR := mkHid hdr
            have HPK2 := mkHid (show PK w F (if k = (pend ss).length then some ⟨b, o, none⟩ else some ⟨b, o + (pend ss).length, none⟩) from by
              split
              · exact .inr ⟨b, o, rfl, hbl, hbf⟩
              · exact .inr ⟨b, o + (pend ss).length, rfl, hbl, hbf⟩)
            clear ht2 hd2 hcb2 hdr
            go_wp2_with fail
            go_roundw
            case rel => exact ⟨q + 1, F2, t2, _, m - (pend ss).length, k - (pend ss).length, l'.drop (pend ss).length, by omega, by go_num, rfl, by omega, by omega, HDR, HPK2, HCB2⟩
            case measure => simp [intOf]; omega
    · obtain rfl : q = n := by omega
      have hb := hbk.blk
      have c1 := cell_of_row wr g 1 _ _ _ hb
      have c3 := cell_of_row wr g 3 _ _ _ hb
      have f := fun k => frozen_of_row wr g k _ _ hb
      simp at c1 c3
      have hk' : ∀ b, b ≠ g → ((wr.setCell ⟨g, 1, none⟩ (.bool false)).setCell ⟨g, 3, none⟩ (.bool false)).heap[b]? = wr.heap[b]? := fun b hb => (heap_setCell_other _ _ _ _ hb).trans (heap_setCell_other _ _ _ _ hb)
      have hz : ((wr.setCell ⟨g, 1, none⟩ (.bool false)).setCell ⟨g, 3, none⟩ (.bool false)).heap.size = wr.heap.size := by simp [World.setCell]
      have hds : t.ds = crashB s.ds l := by
        have hf := HCB.out.fin
        have ht := hbk.len
        have hs := HLEN.out
        rw [List.drop_of_length_le (by omega), crashB, List.append_nil, List.take_of_length_le (by omega)] at hf
        exact hf
      have hfin : Turn F w ((wr.setCell ⟨g, 1, none⟩ (.bool false)).setCell ⟨g, 3, none⟩ (.bool false)) ∧ BO ((wr.setCell ⟨g, 1, none⟩ (.bool false)).setCell ⟨g, 3, none⟩ (.bool false)) F' g (s.crashedB l) := by
        refine ⟨HCB.out.tu.trans (turn_only hbk.fg hk' ⟨rfl, rfl, rfl, hz⟩) HCB.out.ff, A, q, c, ps, Fs, hbk.fields (s' := s.crashedB l) hds.symm ⟨(fun e => by cases e), by rw [show (s.crashedB l).left = s.left from rfl, ← HCB.out.eq.2.1]; exact hbk.lf.2⟩ ?_ hk' hz⟩
        have h1 := set_at _ g 3 (.bool false) (set_at wr g 1 (.bool false) hb)
        rw [show bankC A q c (s.crashedB l) = #[.slice A q c, .bool false, .int .i64 t.left, .bool false, .int .i64 t.done] by rw [HCB.out.eq.2.1, HCB.out.eq.2.2.2]; rfl]
        exact h1
      have HFIN := mkHid hfin
      clear hfin hbk hb hk' hz hds
      go_wp2_with fail
      go_end0
      exact ⟨rfl, HFIN.out.1, F', HFIN.out.2, HCB.out.ff⟩

end Go.Proofs.YtpoeneabhoajaaaDoor
