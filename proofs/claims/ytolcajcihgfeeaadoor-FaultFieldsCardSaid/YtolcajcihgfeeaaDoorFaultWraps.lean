/- portagelaw01.FaultWraps answers true. -/
import Derived.Test.YtolcajcihgfeeaaDoorFtI
import Derived.IntWalk
namespace Go.Proofs.YtolcajcihgfeeaaDoor
open Go.RowKit Go.Extern.Stop Go.Stop Go.Extern

theorem where_head (l : List Lk) (B : Nat) (c : Option Int) (v : Value) (x : Lk) (w : World) (hE : ErrT w) (h : Ch w B l c v) (hx : l[0]? = some x) : Calls Tryd.prog 13 #[v] w fun e w' => e = .returned (.tuple #[.int .i64 x.dev, .int .i64 x.place, .bool true]) ∧ Below w.heap.size w w' := by
  cases l with
  | nil => cases hx
  | cons y l =>
    obtain rfl : y = x := by simpa using hx
    obtain ⟨g, u, rfl, _, h3, _⟩ := h
    exact where_some g y u w hE h3
theorem deepest_last (l : List Lk) (B m : Nat) (c : Option Int) (v : Value) (x : Lk) (w : World) (hE : ErrT w) (h : Ch w B l c v) (hB : B ≤ w.heap.size) (hl : l.length = m + 1) (hm : m < 1000) (hx : l[m]? = some x) :
    Calls Tryd.prog 18 #[v] w fun e w' => e = .returned (.tuple #[.int .i64 x.dev, .int .i64 x.place, .bool true]) ∧ Below w.heap.size w w' := by
  have hd : l = l.take m ++ [x] := by
    obtain ⟨hm1, rfl⟩ := List.getElem?_eq_some_iff.1 hx
    rw [← List.take_succ_eq_append_getElem hm1, List.take_of_length_le (by omega)]
  rw [hd] at h
  exact deepest_some (l.take m) x B c v w hE h hB (by rw [List.length_take]; omega)
/-- What a chain's error keeps behind its world. -/
structure Kept (w w1 : World) (l : List Lk) (code : Int) (v : Value) : Prop where
  ch : ∀ Z, Below w1.heap.size w1 Z → Ch Z w1.heap.size l (some code) v
  et : ∀ Z, Below w1.heap.size w1 Z → ErrT Z
  be : ∀ Z, Below w1.heap.size w1 Z → Below w.heap.size w Z
theorem Kept.mk' {w w1 : World} {l : List Lk} {code : Int} {v : Value} (h : Ch w1 w1.heap.size l (some code) v) (hE : ErrT w) (hb : Below w.heap.size w w1) : Kept w w1 l code v :=
  ⟨fun _ hz => h.below hz, fun _ hz => (hE.below hb).below hz, fun _ hz => hb.trans (hz.mono hb.size)⟩
theorem below_stepF {w w1 w2 : World} (h1 : Below w.heap.size w w1) (h2 : Below w1.heap.size w1 w2) : Below w.heap.size w w2 := h1.trans (h2.mono h1.size)
theorem below_two {w1 w7 : World} (h : Below w1.heap.size w1 w7) (o o' : Obj) : Below w1.heap.size w1 ((w7.alloc o).alloc o').drew :=
  ((h.alloc h.size o).alloc (by have := h.size; simp; omega) o').drew
theorem LS.at_ {w w' : World} {a : Option Addr} {n j : Nat} {ls : List Lk} (h : LS w w.heap.size a n ls) (hb : Below w.heap.size w w') (hj : j < n) :
    ∃ b o x, a = some ⟨b, o, none⟩ ∧ ls[j]? = some x ∧ w'.cell? ⟨b, o + j * 3, none⟩ = some (.string x.op) ∧ w'.cell? ⟨b, o + j * 3 + 1, none⟩ = some (.int .i64 x.dev) ∧ w'.cell? ⟨b, o + j * 3 + 2, none⟩ = some (.int .i64 x.place) := by
  obtain ⟨b, o, x, h1, h2, h3, h4, h5, h6⟩ := h.2 j hj
  exact ⟨b, o, x, h1, h3, (hb.cell (p := ⟨b, o + j * 3, none⟩) h2).trans h4, (hb.cell (p := ⟨b, o + j * 3 + 1, none⟩) h2).trans h5, (hb.cell (p := ⟨b, o + j * 3 + 2, none⟩) h2).trans h6⟩

theorem LS.ends {w w' : World} {a : Option Addr} {m : Nat} {ls : List Lk} {x z : Lk} (h : LS w w.heap.size a (m + 1) ls) (hb : Below w.heap.size w w') (hx : ls[0]? = some x) (hz : ls[m]? = some z) :
    ∃ b o, a = some ⟨b, o, none⟩ ∧ (w'.cell? ⟨b, o, none⟩ = some (.string x.op) ∧ w'.cell? ⟨b, o + 1, none⟩ = some (.int .i64 x.dev) ∧ w'.cell? ⟨b, o + 2, none⟩ = some (.int .i64 x.place)) ∧ w'.cell? ⟨b, o + m * 3, none⟩ = some (.string z.op) ∧ w'.cell? ⟨b, o + m * 3 + 1, none⟩ = some (.int .i64 z.dev) ∧ w'.cell? ⟨b, o + m * 3 + 2, none⟩ = some (.int .i64 z.place) := by
  obtain ⟨b, o, x', h1, h2, h3, h4, h5⟩ := h.at_ hb (j := 0) (by omega)
  obtain ⟨b', o', z', k1, k2, k3, k4, k5⟩ := h.at_ hb (j := m) (by omega)
  rw [hx] at h2
  rw [hz] at k2
  injection h2 with h2
  injection k2 with k2
  subst h2 k2
  rw [h1] at k1
  injection k1 with k1
  injection k1 with k1 k6
  subst k1 k6
  refine ⟨b, o, h1, ⟨by simpa using h3, by simpa using h4, by simpa using h5⟩, k3, k4, k5⟩

set_option maxRecDepth 20000 in
set_option maxHeartbeats 4000000 in
theorem faultWraps_big (a : Option Addr) (n c : Nat) (code : Int) (w : World) (hE : ErrT w) (hn : 200 < n) :
    Calls Tryd.prog 5 #[.slice a n c, .int .i64 code] w fun e w' => e = .returned (.bool true) ∧ Below w.heap.size w w' := by
  have HE := mkHid hE
  clear hE
  go_enter Tryd.func5, Tryd.ntmps5
  go_wp2_with (go_at_call 9; refine (awake_any _ HE.out).mono ?_; rintro e w1 ⟨rfl, hb⟩; have HB1 := mkHid hb; clear hb)
  go_ret
  exact ⟨rfl, HB1.out⟩

set_option maxRecDepth 20000 in
set_option maxHeartbeats 4000000 in
theorem faultWraps_succ (a : Option Addr) (m c : Nat) (ls : List Lk) (code : Int) (w : World) (hE : ErrT w) (h : LS w w.heap.size a (m + 1) ls) (hn : m + 1 ≤ 200) :
    Calls Tryd.prog 5 #[.slice a (m + 1) c, .int .i64 code] w fun e w' => e = .returned (.bool true) ∧ Below w.heap.size w w' := by
  have HE := mkHid hE
  have HL := mkHid h
  have HLN := mkHid h.1
  clear hE h
  go_enter Tryd.func5, Tryd.ntmps5
  go_wp2_with (first
    | (go_at_call 10; refine (chain_any a (m + 1) c ls code _ HL.out hn).mono ?_; rintro e w1 ⟨v, rfl, hch, hb⟩; obtain ⟨T, y, rfl⟩ := hch.form; have HK := mkHid (Kept.mk' hch HE.out hb); have HB1 := mkHid (Below.refl w1.heap.size w1); clear hb hch)
    | (go_at_call 14; refine (codeOf_some ls w1.heap.size code T y _ (HK.out.et _ HB1.out) (HK.out.ch _ HB1.out) (Nat.le_refl _)).mono ?_; rintro e w2 ⟨rfl, hb⟩; have HB2 := mkHid (below_stepF HB1.out hb); clear hb)
    | (go_at_call 15; refine (depth_any ls w1.heap.size (some code) _ _ (HK.out.et _ HB2.out) (HK.out.ch _ HB2.out) HB2.out.size (by rw [HLN.out]; omega)).mono ?_; rintro e w3 ⟨rfl, hb⟩; rw [HLN.out]; have HB3 := mkHid (below_stepF HB2.out hb); clear hb)
    | (go_at_call 17; refine (path_any ls w1.heap.size (some code) _ _ (HK.out.et _ HB3.out) (HK.out.ch _ HB3.out) HB3.out.size (by rw [HLN.out]; omega)).mono ?_; rintro e w4 ⟨A, C, rfl, ho, hb⟩; rw [HLN.out]; have HB4 := mkHid (below_stepF HB3.out hb); rw [HLN.out] at ho; have HO := mkHid ho; clear hb ho))
  go_loopw [57] (fun i wr => ∃ k : Nat, k ≤ m + 1 ∧ i = .int .i64 k ∧ Hid (Below w4.heap.size w4 wr)) (fun i _ => m + 1 - (intOf i).toNat)
  case atStart => exact ⟨0, Nat.zero_le _, rfl, mkHid (Below.refl _ _)⟩
  case round =>
    obtain ⟨k, hk, rfl, HBR⟩ := hrel
    have HB5 := mkHid (below_stepF HB4.out HBR.out)
    have HW5 := mkHid (HK.out.be _ HB5.out)
    by_cases hlt : k < m + 1
    · obtain ⟨b, o, x, rfl, hx, d0, _, _⟩ := HL.out.at_ HW5.out hlt
      obtain ⟨b2, o2, rfl, hb2, hc2⟩ := (SL.of_own HO.out).2 k (by omega)
      have e0 : wr.cell? ⟨b2, o2 + k, none⟩ = some (.string x.op) := by
        rw [HBR.out.cell (p := ⟨b2, o2 + k, none⟩) hb2, hc2, List.getElem?_map, hx]; rfl
      have hk0 : (0 : Int) ≤ (k : Int) := by omega
      have hk1 : (k : Int) < (m : Int) + 1 := by omega
      clear hb2 hc2 hx
      go_wp2_with fail
      go_quiet (fail)
      go_wp2_with fail
      go_roundw
      case measure => simp [intOf]; omega
      case rel => exact ⟨k + 1, hlt, by go_num, mkHid (below_drewN HBR.out _)⟩
    · obtain rfl : k = m + 1 := by omega
      obtain ⟨x, hx0⟩ : ∃ x, ls[0]? = some x := ⟨_, List.getElem?_eq_getElem (by rw [HLN.out]; omega)⟩
      obtain ⟨z, hxm⟩ : ∃ z, ls[m]? = some z := ⟨_, List.getElem?_eq_getElem (by rw [HLN.out]; omega)⟩
      have HX0 := mkHid hx0
      have HXM := mkHid hxm
      clear hx0 hxm
      go_wp2_with (first
        | (go_at_call 13; refine (where_head ls w1.heap.size (some code) _ x _ (HK.out.et _ HB5.out) (HK.out.ch _ HB5.out) HX0.out).mono ?_; rintro e w6 ⟨rfl, hb⟩; have HB6 := mkHid (below_stepF HB5.out hb); clear hb)
        | (go_at_call 18; refine (deepest_last ls w1.heap.size m (some code) _ z _ (HK.out.et _ HB6.out) (HK.out.ch _ HB6.out) HB6.out.size HLN.out (by omega) HXM.out).mono ?_; rintro e w7 ⟨rfl, hb⟩; have HB7 := mkHid (below_stepF HB6.out hb); clear hb))
      obtain ⟨b, o, ha, hxx, hzz⟩ := LS.ends HL.out (HK.out.be _ HB7.out) HX0.out HXM.out
      subst ha
      obtain ⟨p0, p1, p2⟩ := hxx
      obtain ⟨q0, q1, q2⟩ := hzz
      have hm0 : (0 : Int) ≤ (m : Int) := by omega
      have r0 := World.new_ne w7 ⟨b, o, none⟩ p0
      have r1 := World.new_ne w7 ⟨b, o + 1, none⟩ p1
      have r2 := World.new_ne w7 ⟨b, o + 2, none⟩ p2
      have r3 := World.new_ne w7 ⟨b, o + m * 3, none⟩ q0
      have r4 := World.new_ne w7 ⟨b, o + m * 3 + 1, none⟩ q1
      have r5 := World.new_ne w7 ⟨b, o + m * 3 + 2, none⟩ q2
      have hm1 : (m : Int) < (m : Int) + 1 := by omega
      have hw1 : IntKind.i64.wrap ((m : Int) + 1 - 1) = m := by
        rw [show (m : Int) + 1 - 1 = m by omega]
        exact IntWalk.i64_in _ ⟨by omega, by omega⟩
      have hw2 : IntKind.i64.wrap (m : Int) = m := IntWalk.i64_in _ ⟨by omega, by omega⟩
      go_region_held3 (fun Z => Z.cell? ⟨b, o, none⟩ = some (.string x.op) ∧ Z.cell? ⟨b, o + 1, none⟩ = some (.int .i64 x.dev) ∧ Z.cell? ⟨b, o + 2, none⟩ = some (.int .i64 x.place) ∧ Z.cell? ⟨b, o + m * 3, none⟩ = some (.string z.op) ∧ Z.cell? ⟨b, o + m * 3 + 1, none⟩ = some (.int .i64 z.dev) ∧ Z.cell? ⟨b, o + m * 3 + 2, none⟩ = some (.int .i64 z.place)) (go_keep) (fail)
      all_goals
        clear hw1 hw2 r0 r1 r2 r3 r4 r5 p0 p1 p2 q0 q1 q2
        have HBB := mkHid (below_two HB7.out)
        go_wp2_with (go_at_call 9; refine (awake_any _ (HK.out.et _ (HBB.out _ _))).mono ?_; rintro e w9 ⟨rfl, hb⟩; have HB9 := mkHid (below_stepF (HBB.out _ _) hb); clear hb)
        go_ret
        exact ⟨rfl, HK.out.be _ HB9.out⟩

set_option maxRecDepth 20000 in
set_option maxHeartbeats 4000000 in
theorem faultWraps_zero (a : Option Addr) (c : Nat) (code : Int) (w : World) (hE : ErrT w) :
    Calls Tryd.prog 5 #[.slice a 0 c, .int .i64 code] w fun e w' => e = .returned (.bool true) ∧ Below w.heap.size w w' := by
  have HE := mkHid hE
  have HL := mkHid (show LS w w.heap.size a 0 [] from ⟨rfl, fun j hj => absurd hj (by omega)⟩)
  clear hE
  go_enter Tryd.func5, Tryd.ntmps5
  go_wp2_with (first
    | (go_at_call 10; refine (chain_any a 0 c [] code _ HL.out (by omega)).mono ?_; rintro e w1 ⟨v, rfl, hch, hb⟩; have hv : v = codeV code := hch; subst hv; have HK := mkHid (Kept.mk' hch HE.out hb); have HB1 := mkHid (Below.refl w1.heap.size w1); clear hb hch)
    | (go_at_call 14; refine (codeOf_some [] w1.heap.size code _ _ _ (HK.out.et _ HB1.out) (HK.out.ch _ HB1.out) (Nat.le_refl _)).mono ?_; rintro e w2 ⟨rfl, hb⟩; have HB2 := mkHid (below_stepF HB1.out hb); clear hb)
    | (go_at_call 15; refine (depth_any [] w1.heap.size (some code) _ _ (HK.out.et _ HB2.out) (HK.out.ch _ HB2.out) HB2.out.size (Nat.zero_le _)).mono ?_; rintro e w3 ⟨rfl, hb⟩; have HB3 := mkHid (below_stepF HB2.out hb); clear hb; simp only [List.length_nil])
    | (go_at_call 17; refine (path_any [] w1.heap.size (some code) _ _ (HK.out.et _ HB3.out) (HK.out.ch _ HB3.out) HB3.out.size (Nat.zero_le _)).mono ?_; rintro e w4 ⟨A, C, rfl, _, hb⟩; have HB4 := mkHid (below_stepF HB3.out hb); clear hb; simp only [List.length_nil])
    | (go_at_call 13; refine (where_none (some code) _ (HK.out.et _ HB4.out)).mono ?_; rintro e w6 ⟨rfl, hb⟩; have HB6 := mkHid (below_stepF HB4.out hb); clear hb)
    | (go_at_call 18; refine (deepest_none (some code) _ (HK.out.et _ HB6.out)).mono ?_; rintro e w7 ⟨rfl, hb⟩; have HB7 := mkHid (below_stepF HB6.out hb); clear hb)
    | (go_at_call 9; refine (awake_any _ (HK.out.et _ HB7.out)).mono ?_; rintro e w9 ⟨rfl, hb⟩; have HB9 := mkHid (below_stepF HB7.out hb); clear hb))
  refine wp_loop_rounds 1 ?_
  rw [rounds_succ]
  go_wp2_with (first
    | (go_at_call 13; refine (where_none (some code) _ (HK.out.et _ HB4.out)).mono ?_; rintro e w6 ⟨rfl, hb⟩; have HB6 := mkHid (below_stepF HB4.out hb); clear hb)
    | (go_at_call 18; refine (deepest_none (some code) _ (HK.out.et _ HB6.out)).mono ?_; rintro e w7 ⟨rfl, hb⟩; have HB7 := mkHid (below_stepF HB6.out hb); clear hb)
    | (go_at_call 9; refine (awake_any _ (HK.out.et _ HB7.out)).mono ?_; rintro e w9 ⟨rfl, hb⟩; have HB9 := mkHid (below_stepF HB7.out hb); clear hb))
  go_ret
  exact ⟨rfl, HK.out.be _ HB9.out⟩

theorem faultWraps_any (a : Option Addr) (n c : Nat) (ls : List Lk) (code : Int) (w : World) (hE : ErrT w) (h : LS w w.heap.size a n ls) :
    Calls Tryd.prog 5 #[.slice a n c, .int .i64 code] w fun e w' => e = .returned (.bool true) ∧ Below w.heap.size w w' := by
  by_cases hn : 200 < n
  · exact faultWraps_big a n c code w hE hn
  · rcases n with _ | m
    · exact faultWraps_zero a c code w hE
    · exact faultWraps_succ a m c ls code w hE h (by omega)
end Go.Proofs.YtolcajcihgfeeaaDoor
