/- Node.cut by contract: pairs as one node, or two, or none. -/
import Derived.Test.YtilepjkdfbhgcaaNdF
namespace Go.Proofs.Ytilepjkdfbhgcaa
open Go.RowKit Go.Shelf

theorem ES.take {w : World} {B n : Nat} {a : Option Addr} {xs : List (Int × Int)} {k : Nat} (h : ES w B a n xs) (hk : k ≤ n) : ES w B a k (xs.take k) := by
  refine ⟨?_, fun x hx => h.2 x (List.mem_of_mem_take hx)⟩
  have h1 := h.1.take hk
  have e : ∀ (k : Nat) (xs : List (Int × Int)), (xs.flatMap enC).take (k * 2) = (xs.take k).flatMap enC := by
    intro k
    induction k with
    | zero => intro xs; simp
    | succ k ih =>
      intro xs
      cases xs with
      | nil => simp
      | cons x xs =>
        rw [List.take_succ_cons, List.flatMap_cons, List.flatMap_cons, ← ih xs, show (k + 1) * 2 = (enC x).length + k * 2 by simp [enC]; omega, List.take_length_add_append]
  rw [e] at h1
  exact h1
theorem flat_drop (k : Nat) : ∀ xs : List (Int × Int), (xs.flatMap enC).drop (k * 2) = (xs.drop k).flatMap enC := by
  induction k with
  | zero => intro xs; simp
  | succ k ih =>
    intro xs
    cases xs with
    | nil => simp
    | cons x xs =>
      rw [List.drop_succ_cons, List.flatMap_cons, ← ih xs, show (k + 1) * 2 = (enC x).length + k * 2 by simp [enC]; omega, List.drop_length_add_append]
theorem ES.drop {w : World} {B n b o : Nat} {xs : List (Int × Int)} {k : Nat} (h : ES w B (some ⟨b, o, none⟩) n xs) (hk : k ≤ n) : ES w B (some ⟨b, o + k * 2, none⟩) (n - k) (xs.drop k) := by
  refine ⟨?_, fun x hx => h.2 x (List.mem_of_mem_drop hx)⟩
  have h1 := h.1.drop (cap := n + k + 1) hk (by omega)
  rw [if_neg (by omega), flat_drop] at h1
  have e1 : (⟨b, o, none⟩ : Addr).add (k * 2) = ⟨b, o + k * 2, none⟩ := by unfold Addr.add; split <;> simp_all
  rw [Option.map_some, e1] at h1
  exact h1

/-- A node as it reads: its level, its keys, its values. -/
abbrev Nd := Int × List Int × List Int
/-- The slice (a, n) of nodes reads as the list. -/
def NS (w : World) (a : Option Addr) (n : Nat) (l : List Nd) : Prop :=
  l.length = n ∧ ∀ j (nd : Nd), l[j]? = some nd → ∃ b o A k C A' m C', a = some ⟨b, o, none⟩ ∧ b < w.heap.size ∧ w.cell? ⟨b, o + j * 3, none⟩ = some (.int .i64 nd.1) ∧ w.cell? ⟨b, o + j * 3 + 1, none⟩ = some (.slice A k C) ∧ w.cell? ⟨b, o + j * 3 + 2, none⟩ = some (.slice A' m C') ∧
    IS w w.heap.size A k nd.2.1 ∧ IS w w.heap.size A' m nd.2.2 ∧ CapOk k C ∧ CapOk m C'
theorem NS.nil {w : World} : NS w none 0 [] := ⟨rfl, fun j nd h => by simp at h⟩
theorem NS.next {w w' : World} {a : Option Addr} {n : Nat} {l : List Nd} (h : NS w a n l) (hb : Below w.heap.size w w') : NS w' a n l := by
  refine ⟨h.1, fun j nd hj => ?_⟩
  obtain ⟨b, o, A, k, C, A', m, C', ha, hlt, h0, h1, h2, h3, h4, h5, h6⟩ := h.2 j nd hj
  exact ⟨b, o, A, k, C, A', m, C', ha, Nat.lt_of_lt_of_le hlt hb.size, (hb.cell (p := ⟨b, _, none⟩) hlt).trans h0, (hb.cell (p := ⟨b, _, none⟩) hlt).trans h1, (hb.cell (p := ⟨b, _, none⟩) hlt).trans h2, (h3.below hb).more hb.size, (h4.below hb).more hb.size, h5, h6⟩
/-- Node number j of the slice. -/
theorem NS.one {w : World} {lv : Int} {A A' : Option Addr} {k C m C' : Nat} {ks vs : List Int} {t : TypeId} (h1 : IS w w.heap.size A k ks) (h2 : IS w w.heap.size A' m vs) (h3 : CapOk k C) (h4 : CapOk m C') :
    NS (w.alloc (.cells #[.int .i64 lv, .slice A k C, .slice A' m C'] t)) (some ⟨w.heap.size, 0, none⟩) 1 [(lv, ks, vs)] := by
  have hb : Below w.heap.size w (w.alloc (.cells #[.int .i64 lv, .slice A k C, .slice A' m C'] t)) := (Below.refl _ _).alloc (Nat.le_refl _) _
  have hg := heap_alloc_new w (.cells #[.int .i64 lv, .slice A k C, .slice A' m C'] t)
  refine ⟨rfl, fun j nd hj => ?_⟩
  obtain rfl : j = 0 := by have := (List.getElem?_eq_some_iff.1 hj).1; simp at this; omega
  obtain rfl : (lv, ks, vs) = nd := by simpa using hj
  exact ⟨_, _, A, k, C, A', m, C', rfl, by simp, by rw [cell_of_row _ _ _ _ _ _ hg]; rfl, by rw [cell_of_row _ _ _ _ _ _ hg]; rfl, by rw [cell_of_row _ _ _ _ _ _ hg]; rfl, (h1.below hb).more hb.size, (h2.below hb).more hb.size, h3, h4⟩
theorem NS.two {w : World} {lv lv' : Int} {A A' E E' : Option Addr} {k C m C' k2 G m2 G' : Nat} {ks vs ks' vs' : List Int} {t : TypeId} (h1 : IS w w.heap.size A k ks) (h2 : IS w w.heap.size A' m vs) (h3 : CapOk k C) (h4 : CapOk m C')
    (g1 : IS w w.heap.size E k2 ks') (g2 : IS w w.heap.size E' m2 vs') (g3 : CapOk k2 G) (g4 : CapOk m2 G') :
    NS (w.alloc (.cells #[.int .i64 lv, .slice A k C, .slice A' m C', .int .i64 lv', .slice E k2 G, .slice E' m2 G'] t)) (some ⟨w.heap.size, 0, none⟩) 2 [(lv, ks, vs), (lv', ks', vs')] := by
  have hb : Below w.heap.size w (w.alloc (.cells #[.int .i64 lv, .slice A k C, .slice A' m C', .int .i64 lv', .slice E k2 G, .slice E' m2 G'] t)) := (Below.refl _ _).alloc (Nat.le_refl _) _
  have hg := heap_alloc_new w (.cells #[.int .i64 lv, .slice A k C, .slice A' m C', .int .i64 lv', .slice E k2 G, .slice E' m2 G'] t)
  refine ⟨rfl, fun j nd hj => ?_⟩
  have hj2 : j = 0 ∨ j = 1 := by have := (List.getElem?_eq_some_iff.1 hj).1; simp at this; omega
  rcases hj2 with rfl | rfl
  · obtain rfl : (lv, ks, vs) = nd := by simpa using hj
    exact ⟨_, _, A, k, C, A', m, C', rfl, by simp, by rw [cell_of_row _ _ _ _ _ _ hg]; rfl, by rw [cell_of_row _ _ _ _ _ _ hg]; rfl, by rw [cell_of_row _ _ _ _ _ _ hg]; rfl, (h1.below hb).more hb.size, (h2.below hb).more hb.size, h3, h4⟩
  · obtain rfl : (lv', ks', vs') = nd := by simpa using hj
    exact ⟨_, _, E, k2, G, E', m2, G', rfl, by simp, by rw [cell_of_row _ _ _ _ _ _ hg]; rfl, by rw [cell_of_row _ _ _ _ _ _ hg]; rfl, by rw [cell_of_row _ _ _ _ _ _ hg]; rfl, (g1.below hb).more hb.size, (g2.below hb).more hb.size, g3, g4⟩

def nodeOf (lv : Int) (xs : List (Int × Int)) : Nd := (lv, keysOf xs, valsOf xs)
/-- Pairs as one node, or two, or none. -/
def cutOf (lv : Int) (xs : List (Int × Int)) : List Nd := if xs.length = 0 then [] else if xs.length ≤ 7 then [nodeOf lv xs] else [nodeOf lv (xs.take 4), nodeOf lv (xs.drop 4)]
/-- A new slice of nodes is answered. -/
def RetL (w : World) (l : List Nd) (e : Ending) (w' : World) : Prop := ∃ A C, e = .returned (.slice A l.length C) ∧ l.length ≤ C ∧ NS w' A l.length l ∧ Below w.heap.size w w'

set_option maxRecDepth 20000 in
set_option maxHeartbeats 2000000 in
theorem cut_any (lv : Int) (a0 a1 : Option Addr) (n0 n1 c0 c1 : Nat) (a : Option Addr) (n c : Nat) (xs : List (Int × Int)) (w : World) (hs : ES w w.heap.size a n xs) (hn : n ≤ 1000000) (hc : n ≤ c) (_ : c ≤ maxLen) :
    Calls Try.prog 39 #[.agg #[.int .i64 lv, .slice a0 n0 c0, .slice a1 n1 c1], .slice a n c] w (RetL w (cutOf lv xs)) := by
  have HL := mkHid hs.len
  have hal : Below w.heap.size w (w.alloc (.cells #[.int .i64 lv, .slice a0 n0 c0, .slice a1 n1 c1] 32)) := (Below.refl _ _).alloc (Nat.le_refl _) _
  have HAL := mkHid hal
  have HES := mkHid ((hs.below hal).more hal.size)
  clear hs hal
  by_cases h0 : n = 0
  · subst h0
    have HV := mkHid (show cutOf lv xs = [] from if_pos HL.out)
    go_enter Try.func39, Try.ntmps39
    go_wp2_with fail
    go_ret
    rw [HV.out]
    exact ⟨none, 0, rfl, Nat.zero_le _, NS.nil, HAL.out⟩
  have h00 : ((n : Int) == 0) = false := by simp; omega
  by_cases h7 : n ≤ 7
  · have HV := mkHid (show cutOf lv xs = [nodeOf lv xs] by unfold cutOf; rw [if_neg (by rw [HL.out]; exact h0), if_pos (by rw [HL.out]; exact h7)])
    go_enter Try.func39, Try.ntmps39
    go_wp2_with fail
    refine (nof_any lv a0 a1 n0 n1 c0 c1 a n c xs _ HES.out hn).mono ?_
    rintro e w2 ⟨_, rfl, ⟨A, k, C, A', m, C', rfl, i1, i2, k1, k2⟩, _, hb⟩
    have HB := mkHid (below_next HAL.out hb)
    have HR := mkHid (NS.one (lv := lv) (t := 32) i1 i2 k1 k2)
    clear i1 i2 k1 k2 hb
    go_wp2_with fail
    go_ret
    rw [HV.out]
    exact ⟨_, _, rfl, Nat.le_refl _, HR.out, HB.out.alloc HB.out.size _⟩
  · have HV := mkHid (show cutOf lv xs = [nodeOf lv (xs.take 4), nodeOf lv (xs.drop 4)] by unfold cutOf; rw [if_neg (by rw [HL.out]; exact h0), if_neg (by rw [HL.out]; exact h7)])
    obtain ⟨b, o, _, rfl, hb0, _, _, _, _⟩ := HES.out.at_ (j := 0) (by omega)
    obtain ⟨W, hW⟩ : ∃ W, w.alloc (.cells #[.int .i64 lv, .slice a0 n0 c0, .slice a1 n1 c1] 32) = W := ⟨_, rfl⟩
    have hQ : W.heap[w.heap.size]? = some (.cells #[.int .i64 lv, .slice a0 n0 c0, .slice a1 n1 c1] 32) := by rw [← hW]; exact heap_alloc_new _ _
    rw [hW] at HAL HES hb0
    have HK := mkHid (show ∀ Z, Below W.heap.size W Z → (Z.cell? ⟨w.heap.size, 0, none⟩ = some (.int .i64 lv) ∧ Z.cell? ⟨w.heap.size, 1, none⟩ = some (.slice a0 n0 c0) ∧ Z.cell? ⟨w.heap.size, 2, none⟩ = some (.slice a1 n1 c1)) from fun Z hZ =>
      have h := (hZ.block _ (Array.getElem?_eq_some_iff.1 hQ).1).trans hQ
      ⟨cell_of_row Z w.heap.size 0 _ _ _ h, cell_of_row Z w.heap.size 1 _ _ _ h, cell_of_row Z w.heap.size 2 _ _ _ h⟩)
    have HOF1 := mkHid (fun Z (hZ : Below W.heap.size W Z) => nof_any lv a0 a1 n0 n1 c0 c1 (some ⟨b, o, none⟩) 4 c (xs.take 4) Z (((HES.out.take (by omega)).below hZ).more hZ.size) (by omega))
    have HOF2 := mkHid (fun Z (hZ : Below W.heap.size W Z) => nof_any lv a0 a1 n0 n1 c0 c1 (some ⟨b, o + 4 * 2, none⟩) (n - 4) (c - 4) (xs.drop 4) Z (((HES.out.drop (by omega)).below hZ).more hZ.size) (by omega))
    have hc4 : ¬ (c = 4) := by omega
    have hc5 : (4 : Int) ≤ (c : Int) := by omega
    have hc6 : (4 : Int) ≤ (n : Int) := by omega
    have hc7 : 4 ≤ c := by omega
    clear hQ
    go_enter Try.func39, Try.ntmps39
    go_wp2_with fail
    clear hW
    have hk0' := HK.out W (Below.refl _ _)
    go_region_held3 (fun Z => Z.cell? ⟨w.heap.size, 0, none⟩ = some (.int .i64 lv) ∧ Z.cell? ⟨w.heap.size, 1, none⟩ = some (.slice a0 n0 c0) ∧ Z.cell? ⟨w.heap.size, 2, none⟩ = some (.slice a1 n1 c1)) (first | exact hky | exact HK.out _ (by first | exact HBY.out | exact HBY.out.drew | exact (Below.refl _ _).drew | exact Below.refl _ _ | exact HBY.out.alloc HBY.out.size _)) (first
      | (go_at_call 42; (with_reducible refine (HOF1.out _ (by first | exact HBY.out | exact HBY.out.drew | exact (Below.refl _ _).drew | exact Below.refl _ _)).mono ?_); rintro e wy ⟨_, rfl, ⟨A, k, C, A', m, C', rfl, i1, i2, k1, k2⟩, _, hby⟩; have HBY := mkHid (below_next (show Below W.heap.size W _ from (by first | exact HBY.out | exact HBY.out.drew | exact (Below.refl _ _).drew | exact Below.refl _ _)) hby); have hky := HK.out _ HBY.out; have HI1 := mkHid i1; have HI2 := mkHid i2; clear i1 i2; have WY := HBY; clear hby)
      | (go_at_call 42; (with_reducible refine (HOF2.out _ (by first | exact HBY.out | exact HBY.out.drew | exact (Below.refl _ _).drew | exact Below.refl _ _)).mono ?_); rintro e wy ⟨_, rfl, ⟨E, k3, G, E', m3, G', rfl, j1, j2, k4, k5⟩, _, hby⟩; have HBY := mkHid (below_next (show Below W.heap.size W _ from (by first | exact HBY.out | exact HBY.out.drew | exact (Below.refl _ _).drew | exact Below.refl _ _)) hby); have hky := HK.out _ HBY.out; have HJ := mkHid (NS.two (lv := lv) (lv' := lv) (t := 32) ((HI1.out.below hby).more hby.size) ((HI2.out.below hby).more hby.size) k1 k2 j1 j2 k4 k5); clear j1 j2; clear hby))
    go_wp2_with fail
    go_ret
    rw [HV.out]
    have HB := mkHid (HAL.out.trans ((HBY.out.alloc HBY.out.size (.cells #[.int .i64 lv, .slice A k C, .slice A' m C', .int .i64 lv, .slice E k3 G, .slice E' m3 G'] 32)).mono HAL.out.size))
    exact ⟨_, _, rfl, Nat.le_refl _, HJ.out, HB.out⟩

end Go.Proofs.Ytilepjkdfbhgcaa
