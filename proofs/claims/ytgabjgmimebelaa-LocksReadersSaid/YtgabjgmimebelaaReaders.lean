/- Entries of one span each, numbered on: what waits for what (no program in sight); portagelaw15.in by contract. -/
import Derived.Test.YtgabjgmimebelaaTabH
import Derived.Test.YtgabjgmimebelaaLocksClash
namespace Go.Proofs.Ytgabjgmimebelaa
open Go.RowKit Go.Shelf

/-- Entries of one span each, numbered from d + 1 on. -/
def ens : Nat → List Sp → List En
  | _, [] => []
  | d, s :: l => ⟨(d : Int) + 1, [s]⟩ :: ens (d + 1) l
theorem ens_len : ∀ (l : List Sp) (d : Nat), (ens d l).length = l.length
  | [], _ => rfl
  | _ :: l, d => by rw [ens, List.length_cons, List.length_cons, ens_len l]
theorem ens_get : ∀ (l : List Sp) (d j : Nat), (ens d l)[j]? = l[j]?.map fun s => ⟨((d + j : Nat) : Int) + 1, [s]⟩
  | [], d, j => by simp [ens]
  | s :: l, d, 0 => by simp [ens]
  | s :: l, d, j + 1 => by
    rw [ens, List.getElem?_cons_succ, ens_get l (d + 1) j, List.getElem?_cons_succ, show d + 1 + j = d + (j + 1) by omega]
theorem ens_snoc : ∀ (l : List Sp) (d : Nat) (s : Sp), ens d (l ++ [s]) = ens d l ++ [⟨((d + l.length : Nat) : Int) + 1, [s]⟩]
  | [], d, s => by simp [ens]
  | x :: l, d, s => by rw [List.cons_append, ens, ens, ens_snoc l (d + 1) s, List.cons_append, List.length_cons, show d + 1 + l.length = d + (l.length + 1) by omega]
theorem ens_tail : ∀ (l : List Sp) (d : Nat), (ens d l).eraseIdx 0 = ens (d + 1) (l.drop 1)
  | [], _ => rfl
  | _ :: _, _ => rfl
theorem ens_place {l : List Sp} {d j : Nat} (hj : j < l.length) : placeOf (ens d l) (((d + j : Nat) : Int) + 1) = j := by
  unfold placeOf
  refine idxOf_hit (x := ⟨((d + j : Nat) : Int) + 1, [l[j]]⟩) ?_ (by simp) fun p y hp hy => ?_
  · rw [ens_get, List.getElem?_eq_getElem hj]; rfl
  · rw [ens_get, List.getElem?_eq_getElem (by omega)] at hy
    simp only [Option.map_some, Option.some.injEq] at hy
    rw [← hy]
    simp only [beq_eq_false_iff_ne, ne_eq]
    omega
theorem enClash_one (a b : Int) (x y : Sp) : enClash ⟨a, [x]⟩ ⟨b, [y]⟩ = clashOf x y := by simp [enClash]
theorem ens_ahead {l : List Sp} {d j : Nat} {s : Sp} (hj : l[j]? = some s) : aheadOf (ens d l) (((d + j : Nat) : Int) + 1) = aheadAt (ens d l) j ⟨((d + j : Nat) : Int) + 1, [s]⟩ := by
  unfold aheadOf
  rw [ens_place (List.getElem?_eq_some_iff.1 hj).1, if_neg (by omega), Int.toNat_natCast, ens_get, hj]
  rfl
/-- None of the spans ahead clashes: nothing is waited for. -/
theorem ens_free {l : List Sp} {d j : Nat} {s : Sp} (hj : l[j]? = some s) (h : ∀ (p : Nat) x, p < j → l[p]? = some x → clashOf x s = false) : aheadOf (ens d l) (((d + j : Nat) : Int) + 1) = [] := by
  rw [ens_ahead hj]
  unfold aheadAt
  rw [List.map_eq_nil_iff, List.filter_eq_nil_iff]
  intro e he
  obtain ⟨p, hp, rfl⟩ := List.getElem_of_mem he
  rw [List.length_take, ens_len] at hp
  have hg := List.getElem?_eq_getElem (l := (ens d l).take j) (i := p) (by rw [List.length_take, ens_len]; exact hp)
  rw [List.getElem?_take, if_pos (by omega), ens_get, List.getElem?_eq_getElem (by omega)] at hg
  simp only [Option.map_some, Option.some.injEq] at hg
  rw [← hg, enClash_one, h p _ (by omega) (List.getElem?_eq_getElem (by omega))]
  simp
/-- What clashes ahead is waited for. -/
theorem ens_waits {l : List Sp} {d j p : Nat} {s x : Sp} (hj : l[j]? = some s) (hp : p < j) (hx : l[p]? = some x) (hc : clashOf x s = true) : ((d + p : Nat) : Int) + 1 ∈ aheadOf (ens d l) (((d + j : Nat) : Int) + 1) := by
  rw [ens_ahead hj]
  unfold aheadAt
  refine List.mem_map.2 ⟨⟨((d + p : Nat) : Int) + 1, [x]⟩, List.mem_filter.2 ⟨?_, by rw [enClash_one]; exact hc⟩, rfl⟩
  refine List.mem_of_getElem? (i := p) ?_
  rw [List.getElem?_take, if_pos hp, ens_get, hx]
  rfl
/-- If all ahead clash, as many are waited for. -/
theorem ens_all {l : List Sp} {d j : Nat} {s : Sp} (hj : l[j]? = some s) (h : ∀ (p : Nat) x, p < j → l[p]? = some x → clashOf x s = true) : (aheadOf (ens d l) (((d + j : Nat) : Int) + 1)).length = j := by
  rw [ens_ahead hj]
  unfold aheadAt
  have hjl := (List.getElem?_eq_some_iff.1 hj).1
  rw [List.length_map, filter_all, List.length_take, ens_len]
  · omega
  · intro p e he
    have hp := (List.getElem?_eq_some_iff.1 he).1
    rw [List.length_take, ens_len] at hp
    rw [List.getElem?_take, if_pos (by omega), ens_get, List.getElem?_eq_getElem (by omega)] at he
    simp only [Option.map_some, Option.some.injEq] at he
    rw [← he, enClash_one]
    exact h p _ (by omega) (List.getElem?_eq_getElem (by omega))
theorem ens_may {l : List Sp} {d j : Nat} (hj : j < l.length) : mayOf (ens d l) (((d + j : Nat) : Int) + 1) = (aheadOf (ens d l) (((d + j : Nat) : Int) + 1)).isEmpty := by
  unfold mayOf
  rw [ens_place hj, show decide ((0 : Int) ≤ (j : Int)) = true from decide_eq_true (by omega), Bool.true_and]
/-- The first may go ahead. -/
theorem ens_first {l : List Sp} {d : Nat} (hl : 0 < l.length) : mayOf (ens d l) ((d : Int) + 1) = true := by
  have h := ens_may (d := d) (l := l) (j := 0) hl
  rw [Nat.add_zero] at h
  rw [h]
  have := ens_free (d := d) (j := 0) (List.getElem?_eq_getElem hl) fun p x hp => absurd hp (by omega)
  rw [Nat.add_zero] at this
  rw [this]
  rfl

def rightR (x : Sp) : Prop := rightOf x = true ∧ x.wr = false
/-- The span that writes all. -/
def allW : Sp := ⟨0, 0, 0, true⟩
theorem right_allW : rightOf allW = true := rfl
theorem clash_read {x y : Sp} (hx : x.wr = false) (hy : y.wr = false) : clashOf x y = false := by
  unfold clashOf
  rw [if_pos (.inr (.inr ⟨hx, hy⟩))]
theorem clash_allW {x : Sp} (hx : rightOf x = true) : clashOf x allW = true := by
  unfold clashOf
  rw [hx, right_allW]
  simp [allW]
theorem allW_clash {x : Sp} (hx : rightOf x = true) : clashOf allW x = true := by rw [clash_comm]; exact clash_allW hx

set_option maxRecDepth 20000 in
theorem in_any (A : Option Addr) (n c : Nat) (l : List Int) (x : Int) (w : World) (hs : IS w w.heap.size A n l) (hn : n ≤ 1000000) (hx : I64 x) :
    Calls Try.prog 23 #[.slice A n c, .int .i64 x] w fun e w' => e = .returned (.bool (l.any fun y => y == x)) ∧ w = w' := by
  have HLN := mkHid hs.len
  obtain ⟨x0, x1⟩ := hx
  go_enter Try.func23, Try.ntmps23
  go_wp2_with fail
  go_loop [9] (fun i => ∃ q : Nat, q ≤ n ∧ i = .int .i64 q ∧ Hid (∀ j y, j < q → l[j]? = some y → (y == x) = false)) (fun i => n - (intOf i).toNat)
  case atStart => exact ⟨0, Nat.zero_le _, rfl, mkHid fun j _ hj => absurd hj (by omega)⟩
  case round =>
    obtain ⟨q, hq, rfl, HN⟩ := hrel
    by_cases hlt : q < n
    · obtain ⟨b, o, rfl, hb, h0, hI⟩ := hs.at_ hlt
      have HX := mkHid (show l[q]? = some (l[q]?.getD 0) by rw [List.getElem?_eq_getElem (by have := HLN.out; omega)]; rfl)
      generalize l[q]?.getD 0 = y at *
      obtain ⟨y0, y1⟩ := hI
      cases hyx : (y == x) with
      | true =>
        have HP := mkHid hyx
        go_wp2_with fail
        go_ret
        refine ⟨ret_bool ?_, rfl⟩
        exact (List.any_eq_true.2 ⟨y, List.mem_of_getElem? HX.out, HP.out⟩).symm
      | false =>
        have HP := mkHid hyx
        go_wp2_with fail
        go_round
        case rel =>
          refine ⟨q + 1, by omega, by go_num, mkHid fun j z hj hz => ?_⟩
          by_cases e : j < q
          · exact HN.out j z e hz
          · obtain rfl : j = q := by omega
            rw [HX.out] at hz
            injection hz with hz
            rw [← hz]; exact HP.out
        case measure => simp [intOf]; omega
    · obtain rfl : q = n := by omega
      clear hs
      go_wp2_with fail
      go_ret
      refine ⟨ret_bool ?_, rfl⟩
      refine (List.any_eq_false.2 fun y hy => ?_).symm
      obtain ⟨j, hj, rfl⟩ := List.getElem_of_mem hy
      have := HN.out j _ (by have := HLN.out; omega) (List.getElem?_eq_getElem hj)
      simp [this]

end Go.Proofs.Ytgabjgmimebelaa
