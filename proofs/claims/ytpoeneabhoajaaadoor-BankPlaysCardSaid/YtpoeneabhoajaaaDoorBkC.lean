/- The bank's Write by contract. -/
import Derived.Test.YtpoeneabhoajaaaDoorBkB
namespace Go.Proofs.YtpoeneabhoajaaaDoor
open Go.RowKit

/-- The value v is the fault (op, d, p) around code c, in a block from B on; nothing, if c is 0. -/
def EV (B : Nat) (w : World) (v : Value) (op : ByteArray) (d p c : Int) : Prop := (c = 0 → v = .nilIface) ∧ (c ≠ 0 → ∃ g, v = faultV g ∧ B ≤ g ∧ g < w.heap.size ∧ w.heap[g]? = some (faultO ⟨op, d, p⟩ (codeV c)))
section
variable {B B' : Nat} {w w' : World} {v : Value} {op : ByteArray} {d p c : Int}
theorem EV.ch (h : EV B w v op d p c) (hc : c ≠ 0) : Ch w w.heap.size [⟨op, d, p⟩] (some c) v := by
  obtain ⟨g, h1, _, h2, h3⟩ := h.2 hc
  exact ⟨g, codeV c, h1, h2, h3, rfl⟩
theorem EV.below (h : EV B w v op d p c) (hb : Below w.heap.size w w') : EV B w' v op d p c := ⟨h.1, fun hc => by
  obtain ⟨g, h1, h0, h2, h3⟩ := h.2 hc
  exact ⟨g, h1, h0, Nat.lt_of_lt_of_le h2 hb.size, (hb.block g h2).trans h3⟩⟩
theorem EV.turn {F : Nat → Prop} (h : EV B w v op d p c) (ht : Turn F w w') (hF : ∀ b, F b → b < B) : EV B w' v op d p c := ⟨h.1, fun hc => by
  obtain ⟨g, h1, h0, h2, h3⟩ := h.2 hc
  exact ⟨g, h1, h0, Nat.lt_of_lt_of_le h2 ht.size, (ht.block g h2 fun hf => by have := hF g hf; omega).trans h3⟩⟩
theorem EV.base (h : EV B w v op d p c) (hB : B' ≤ B) : EV B' w v op d p c := ⟨h.1, fun hc => by
  obtain ⟨g, h1, h0, h2, h3⟩ := h.2 hc
  exact ⟨g, h1, by omega, h2, h3⟩⟩
end
theorem wrap_cv (op : ByteArray) (d p c : Int) (w : World) : Calls Tryd.prog 15 #[.string op, .int .i64 d, .int .i64 p, cv c] w fun e w' => ∃ v, e = .returned v ∧ EV w.heap.size w' v op d p c ∧ Below w.heap.size w w' := by
  by_cases hc : c = 0
  · subst hc
    refine (wrap_nil op d p w).mono ?_
    rintro e w' ⟨rfl, rfl⟩
    exact ⟨_, rfl, ⟨fun _ => rfl, fun h => absurd rfl h⟩, Below.refl _ _⟩
  · have hv : cv c = codeV c := if_neg hc
    rw [hv]
    refine (wrap_any op d p _ _ w).mono ?_
    rintro e w' ⟨rfl, rfl⟩
    exact ⟨_, rfl, ⟨fun h => absurd h hc, fun _ => ⟨w.heap.size, rfl, Nat.le_refl _, by simp, heap_alloc_new w _⟩⟩, (Below.refl _ _).alloc (Nat.le_refl _) _⟩
/-- A slice of bytes that lies outside of what may turn, if it is not empty. -/
theorem BS.turn0 {w w' : World} {F : Nat → Prop} {n : Nat} {a : Option Addr} {l : List Int} (h : BS w w.heap.size a n l) (ht : Turn F w w') (ho : 0 < n → ∀ ad : Addr, a = some ad → ¬ F ad.block) : BS w' w'.heap.size a n l :=
  ⟨⟨h.1.1, fun j hj => by
    obtain ⟨b, o, ha, hb, hc⟩ := h.1.2 j hj
    exact ⟨b, o, ha, Nat.lt_of_lt_of_le hb ht.size, (World.cell?_of_block (w := w) (ht.block b hb (ho (by omega) _ ha))).trans hc⟩⟩, h.2⟩

/-- Few writes wait. -/
def Bst.few (s : Bst) (q : Nat) : Prop := ∀ (j : Nat) (ss : List Sec), s.ds[j]? = some (some ss) → ∀ x ∈ ss, x.wait.length ≤ q
def Bst.wrE (s : Bst) (i k : Int) (m : Nat) : Int := if s.liveE i ≠ 0 then s.liveE i else if hasOf (s.sec i).length k = false then 20 else if m ≠ 128 then 11 else s.countE
def Bst.wrote (s : Bst) (i k : Int) (l : List Int) : Bst := if s.liveE i ≠ 0 ∨ hasOf (s.sec i).length k = false ∨ l.length ≠ 128 then s else if s.countE ≠ 0 then s.counted else { s.counted with ds := s.ds.set i.toNat (some (wnext (s.sec i) k l)) }
theorem counted_ds (s : Bst) : s.counted.ds = s.ds := by unfold Bst.counted; split <;> rfl
theorem live_dev {s : Bst} {i : Int} (h : s.liveE i = 0) : ∃ (k : Nat) (ss : List Sec), i = k ∧ s.ds[k]? = some (some ss) ∧ s.sec i = ss := by
  unfold Bst.liveE at h
  split at h
  · cases h
  · rcases dev_cases s i with ⟨_, h2⟩ | ⟨_, _, _, h2⟩ | ⟨k, ss, h1, h2, _, h3⟩
    · rw [h2] at h; cases h
    · rw [h2] at h; cases h
    · exact ⟨k, ss, h1, h2, h3⟩

set_option maxRecDepth 20000 in
set_option maxHeartbeats 1000000 in
theorem write_in (F : Nat → Prop) (g : Nat) (s : Bst) (i k : Int) (a : Option Addr) (m c0 : Nat) (l : List Int) (w : World) (h : BO w F g s) (hi : I64 i) (hk : I64 k) (hx : BS w w.heap.size a m l) (hout : 0 < m → ∀ ad : Addr, a = some ad → ¬ F ad.block) (hd : 0 ≤ s.done ∧ s.done ≤ 1000000000) (hw : s.few 999999) :
    Calls Tryd.prog 57 #[.pointer (some ⟨g, 0, none⟩), .int .i64 i, .int .i64 k, .slice a m c0] w fun e w' => e = .returned (cv (s.wrE i k m)) ∧ Turn F w w' ∧ ∃ F', BO w' F' g (s.wrote i k l) ∧ ∀ b, F' b → F b ∨ w.heap.size ≤ b := by
  have HLN := mkHid hx.len
  have HX := mkHid hx
  have HO := mkHid hout
  have HI := mkHid hk
  have HW := mkHid hw
  obtain ⟨k0, k1⟩ := hk
  obtain ⟨A, n, c, ps, Fs, h⟩ := h
  have HL := mkHid (live_any F g A n c ps Fs s i w h hi)
  have HC := mkHid (count_any F g A n c ps Fs s w h hd)
  have HB := mkHid h
  have HN := mkHid (show Turn F w w ∧ ∃ F', BO w F' g s ∧ ∀ b, F' b → F b ∨ w.heap.size ≤ b from ⟨Turn.of_below (Below.refl _ _), F, ⟨A, n, c, ps, Fs, h⟩, fun b hb => .inl hb⟩)
  clear h hi hd hx hout hw
  by_cases hl : s.liveE i = 0
  case neg =>
    have HE := mkHid (show s.wrE i k m = s.liveE i ∧ s.wrote i k l = s from ⟨if_pos hl, if_pos (.inl hl)⟩)
    have HNE := mkHid hl
    have hcv : cv (s.liveE i) = codeV (s.liveE i) := if_neg hl
    have HCV := mkHid hcv
    clear hl hcv
    go_enter Tryd.func57, Tryd.ntmps57
    go_wp2_with fail
    refine HL.out.mono ?_
    rintro e w1 ⟨rfl, ⟨_, rfl⟩ | ⟨h1, _⟩⟩
    · go_wp2_with fail
      go_ret
      refine ⟨by rw [HE.out.1, HCV.out]; rfl, HN.out.1, ?_⟩
      rw [HE.out.2]
      exact HN.out.2
    · exact absurd h1 HNE.out
  obtain ⟨j, ss, rfl, hj, hsec⟩ := live_dev hl
  have HJ := mkHid hj
  have HSEC := mkHid hsec
  have HLV := mkHid hl
  clear hj hsec hl
  have HLE := mkHid (show ∀ e w1, RetD w g ps (j : Int) (s.liveE j) e w1 → w = w1 ∧ ∃ p, ps[j]? = some (some p) ∧ e = .returned (.tuple #[ptrV p, .nilIface]) ∧ DK w (Fs j) p ss from fun e w1 hr => by
    obtain ⟨h1, ⟨h2, _⟩ | ⟨_, p, h3, h4⟩⟩ := hr
    · exact absurd HLV.out h2
    · rw [Int.toNat_natCast] at h3
      obtain ⟨p', h5, h6⟩ := HB.out.dk j ss HJ.out
      rw [h3] at h5
      injection h5 with h5
      injection h5 with h5
      subst h5
      exact ⟨h1, p, h3, h4, h6⟩)
  have hss : ss.length ≤ 4096 := by obtain ⟨p', _, h6⟩ := HB.out.dk j ss HJ.out; exact h6.nl
  cases hh : hasOf ss.length k with
  | false =>
    have HE := mkHid (show s.wrE j k m = 20 ∧ s.wrote j k l = s from ⟨by unfold Bst.wrE; rw [if_neg (by rw [HLV.out]; simp), HSEC.out, if_pos hh], if_pos (.inr (.inl (by rw [HSEC.out]; exact hh)))⟩)
    have hh := of_decide_eq_false hh
    by_cases hk0 : k < 0
    · clear hh
      go_enter Tryd.func57, Tryd.ntmps57
      go_wp2_with fail
      refine HL.out.mono ?_
      intro e w1 hr
      obtain ⟨rfl, p, hp, rfl, hdk⟩ := HLE.out e w1 hr
      clear hp hdk hr
      go_wp2_with fail
      go_ret
      refine ⟨by rw [HE.out.1]; rfl, HN.out.1, ?_⟩
      rw [HE.out.2]
      exact HN.out.2
    · have hge : (ss.length : Int) ≤ k := by omega
      clear hh
      go_enter Tryd.func57, Tryd.ntmps57
      go_wp2_with fail
      refine HL.out.mono ?_
      intro e w1 hr
      obtain ⟨rfl, p, hp, rfl, hdk⟩ := HLE.out e w1 hr
      have HDK := mkHid hdk
      clear hp hdk hr
      go_wp2_with fail
      refine (size_any _ p ss w HDK.out).mono ?_
      rintro e w1 ⟨rfl, rfl⟩
      go_wp2_with fail
      go_ret
      refine ⟨by rw [HE.out.1]; rfl, HN.out.1, ?_⟩
      rw [HE.out.2]
      exact HN.out.2
  | true =>
    have HH := mkHid hh
    obtain ⟨hh0, hh1⟩ := of_decide_eq_true hh
    clear hh
    by_cases hm : m = 128
    case neg =>
      have HE := mkHid (show s.wrE j k m = 11 ∧ s.wrote j k l = s from ⟨by unfold Bst.wrE; rw [if_neg (by rw [HLV.out]; simp), HSEC.out, if_neg (by rw [HH.out]; simp), if_pos hm], if_pos (.inr (.inr (by rw [HLN.out]; exact hm)))⟩)
      have hmb : ((m : Int) != 128) = true := by simp; omega
      clear hm
      go_enter Tryd.func57, Tryd.ntmps57
      go_wp2_with fail
      refine HL.out.mono ?_
      intro e w1 hr
      obtain ⟨rfl, p, hp, rfl, hdk⟩ := HLE.out e w1 hr
      have HDK := mkHid hdk
      clear hp hdk hr
      go_wp2_with fail
      refine (size_any _ p ss w HDK.out).mono ?_
      rintro e w1 ⟨rfl, rfl⟩
      go_wp2_with fail
      go_ret
      refine ⟨by rw [HE.out.1]; rfl, HN.out.1, ?_⟩
      rw [HE.out.2]
      exact HN.out.2
    subst hm
    go_enter Tryd.func57, Tryd.ntmps57
    go_wp2_with fail
    refine HL.out.mono ?_
    intro e w1 hr
    obtain ⟨rfl, p, hp, rfl, hdk⟩ := HLE.out e w1 hr
    have HDK := mkHid hdk
    have HP := mkHid hp
    clear hp hdk hr
    go_wp2_with fail
    refine (size_any _ p ss w HDK.out).mono ?_
    rintro e w1 ⟨rfl, rfl⟩
    go_wp2_with fail
    refine HC.out.mono ?_
    rintro e w1 ⟨rfl, ht1, hb1⟩
    have HT1 := mkHid ht1
    have HB1 := mkHid hb1
    clear ht1 hb1
    by_cases hce : s.countE = 0
    case neg =>
      have HE := mkHid (show s.wrE j k 128 = s.countE ∧ s.wrote j k l = s.counted from ⟨by unfold Bst.wrE; rw [if_neg (by rw [HLV.out]; simp), HSEC.out, if_neg (by rw [HH.out]; simp), if_neg (by simp)], by unfold Bst.wrote; rw [if_neg (by rw [HLV.out, HSEC.out, HH.out, HLN.out]; simp), if_pos hce]⟩)
      have HCV := mkHid (show cv s.countE = codeV s.countE from if_neg hce)
      rw [HCV.out]
      clear hce
      go_wp2_with fail
      go_ret
      refine ⟨by rw [HE.out.1, HCV.out]; rfl, HT1.out, F, ?_, fun b hb => .inl hb⟩
      rw [HE.out.2]
      exact ⟨A, n, c, ps, Fs, HB1.out⟩
    have HE := mkHid (show s.wrE j k 128 = 0 ∧ s.wrote j k l = { s.counted with ds := s.counted.ds.set j (some (wnext ss k l)) } from ⟨by unfold Bst.wrE; rw [if_neg (by rw [HLV.out]; simp), HSEC.out, if_neg (by rw [HH.out]; simp), if_neg (by simp), hce], by unfold Bst.wrote; rw [if_neg (by rw [HLV.out, HSEC.out, HH.out, HLN.out]; simp), if_neg (by rw [hce]; simp), HSEC.out, counted_ds, Int.toNat_natCast]⟩)
    rw [show cv s.countE = .nilIface from if_pos hce]
    clear hce
    have HJ1 := mkHid (show s.counted.ds[j]? = some (some ss) by rw [counted_ds]; exact HJ.out)
    have HDK1 := mkHid (show DK w1 (Fs j) p ss from by
      obtain ⟨p', h5, h6⟩ := HB1.out.dk j ss HJ1.out
      rw [HP.out] at h5
      injection h5 with h5
      injection h5 with h5
      rw [h5]
      exact h6)
    have HX1 := mkHid (HX.out.turn0 HT1.out HO.out)
    go_wp2_with fail
    refine (write_all (Fs j) p ss k a 128 c0 l w1 HDK1.out HI.out HX1.out (fun x hx => by have := HW.out j ss HJ.out x hx; omega)).mono ?_
    rintro e w2 ⟨rfl, ht2, F2, hd2, hF2⟩
    obtain ⟨k1, F3, k2, k3⟩ := HB1.out.disk HJ1.out HP.out ht2 hd2 hF2
    have hwr : wres ss.length k 128 = .nilIface := by unfold wres; rw [if_neg (by rw [HH.out]; simp), if_neg (by simp)]
    rw [hwr]
    have K1 := mkHid k1
    have K2 := mkHid k2
    have K3 := mkHid k3
    clear ht2 hd2 hF2 k1 k2 k3 hwr
    go_wp2_with fail
    go_ret
    refine ⟨by rw [HE.out.1]; rfl, HT1.out.trans K1.out fun b hb => .inl hb, F3, ?_, fun b hb => (K3.out b hb).imp id fun e => Nat.le_trans HT1.out.size e⟩
    rw [HE.out.2]
    exact K2.out

abbrev opWrite : ByteArray := ⟨#[119, 114, 105, 116, 101]⟩
abbrev opFlush : ByteArray := ⟨#[102, 108, 117, 115, 104]⟩
abbrev opAdd : ByteArray := ⟨#[97, 100, 100]⟩
set_option maxRecDepth 20000 in
theorem bwrite_any (F : Nat → Prop) (g : Nat) (s : Bst) (i k : Int) (a : Option Addr) (m c0 : Nat) (l : List Int) (w : World) (h : BO w F g s) (hi : I64 i) (hk : I64 k) (hx : BS w w.heap.size a m l) (hout : 0 < m → ∀ ad : Addr, a = some ad → ¬ F ad.block) (hd : 0 ≤ s.done ∧ s.done ≤ 1000000000) (hw : s.few 999999) :
    Calls Tryd.prog 30 #[.pointer (some ⟨g, 0, none⟩), .int .i64 i, .int .i64 k, .slice a m c0] w fun e w' => ∃ v, e = .returned v ∧ EV w.heap.size w' v opWrite i k (s.wrE i k m) ∧ Turn F w w' ∧ ∃ F', BO w' F' g (s.wrote i k l) ∧ ∀ b, F' b → F b ∨ w.heap.size ≤ b := by
  have H := mkHid (write_in F g s i k a m c0 l w h hi hk hx hout hd hw)
  clear h hi hk hx hout hd hw
  go_enter Tryd.func30, Tryd.ntmps30
  go_wp2_with fail
  refine H.out.mono ?_
  rintro e w1 ⟨rfl, ht1, F1, hb1, hF1⟩
  have HT1 := mkHid ht1
  have HB1 := mkHid hb1
  have HF1 := mkHid hF1
  clear ht1 hb1 hF1 H
  go_wp2_with fail
  refine (wrap_cv opWrite i k (s.wrE i k m) w1).mono ?_
  rintro e w2 ⟨v, rfl, hv, hb2⟩
  have HV := mkHid (hv.base HT1.out.size)
  have HB2 := mkHid hb2
  clear hv hb2
  go_wp2_with fail
  go_ret
  exact ⟨v, rfl, HV.out, HT1.out.trans (Turn.of_below (F := F1) HB2.out) HF1.out, F1, HB1.out.below HB2.out, HF1.out⟩

end Go.Proofs.YtpoeneabhoajaaaDoor
