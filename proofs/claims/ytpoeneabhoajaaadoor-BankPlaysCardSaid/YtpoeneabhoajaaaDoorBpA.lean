/- The program's bank beside the document's; how many writes wait, how many were done, behind each call. -/
import Derived.Test.YtpoeneabhoajaaaDoorBrF
import Derived.Test.YtpoeneabhoajaaaDoorBgP
import Derived.Test.YtpoeneabhoajaaaDoorBkK
namespace Go.Proofs.YtpoeneabhoajaaaDoor
open Go.RowKit

/-- Two banks that have nothing in common, all behind w. -/
structure BB (w wr : World) (F1 F2 : Nat → Prop) (g1 g2 : Nat) (sa sb : Bst) : Prop where
  a : BO wr F1 g1 sa
  b : RBO wr F2 g2 sb
  la : ∀ x, F1 x → w.heap.size ≤ x
  lb : ∀ x, F2 x → w.heap.size ≤ x
  apart : ∀ x, F1 x → ¬ F2 x
  bel : Below w.heap.size w wr
section
variable {w wr w1 : World} {F1 F2 F' : Nat → Prop} {g1 g2 : Nat} {sa sb s' : Bst}
theorem BB.below (h : BB w wr F1 F2 g1 g2 sa sb) (hb : Below wr.heap.size wr w1) : BB w w1 F1 F2 g1 g2 sa sb := ⟨h.a.below hb, h.b.below hb, h.la, h.lb, h.apart, h.bel.trans (hb.mono h.bel.size)⟩
theorem BB.stepA (h : BB w wr F1 F2 g1 g2 sa sb) (ht : Turn F1 wr w1) (hd : BO w1 F' g1 s') (hF : ∀ x, F' x → F1 x ∨ wr.heap.size ≤ x) : BB w w1 F' F2 g1 g2 s' sb :=
  ⟨hd, h.b.keep ht.size fun x hx => ht.block x (h.b.lt x hx) fun hf => h.apart x hf hx, fun x hx => (hF x hx).elim (h.la x) fun e => Nat.le_trans h.bel.size e, h.lb, fun x hx hx2 => by
    rcases hF x hx with e | e
    · exact h.apart x e hx2
    · have := h.b.lt x hx2; omega, h.bel.trans (ht.below h.la h.bel.size)⟩
theorem BB.stepB (h : BB w wr F1 F2 g1 g2 sa sb) (ht : Turn F2 wr w1) (hd : RBO w1 F' g2 s') (hF : ∀ x, F' x → F2 x ∨ wr.heap.size ≤ x) : BB w w1 F1 F' g1 g2 sa s' :=
  ⟨h.a.keep ht.size fun x hx => ht.block x (h.a.lt x hx) fun hf => h.apart x hx hf, hd, h.la, fun x hx => (hF x hx).elim (h.lb x) fun e => Nat.le_trans h.bel.size e, fun x hx hx2 => by
    rcases hF x hx2 with e | e
    · exact h.apart x hx e
    · have := h.a.lt x hx; omega, h.bel.trans (ht.below h.lb h.bel.size)⟩
end

/-- Few writes wait, few were done. -/
def Inv (q : Nat) (s : Bst) : Prop := s.few q ∧ 0 ≤ s.done ∧ s.done ≤ q * 301
section
variable {q : Nat} {s : Bst}
theorem Inv.more (h : Inv q s) : Inv (q + 1) s := ⟨few_more h.1 (Nat.le_succ q), h.2.1, by have := h.2.2; omega⟩
theorem Inv.of {s' : Bst} (h : Inv q s) (hf : s'.few (q + 1)) (h1 : s.done ≤ s'.done) (h2 : s'.done ≤ s.done + 301) : Inv (q + 1) s' := ⟨hf, by have := h.2.1; omega, by have := h.2.2; omega⟩
theorem few_app {s : Bst} {ss : List Sec} (h : s.few q) (hs : ∀ x ∈ ss, x.wait.length ≤ q) : Bst.few { s with ds := s.ds ++ [some ss] } q := fun i s1 hi => by
  simp only at hi
  by_cases hl : i < s.ds.length
  · rw [List.getElem?_append_left hl] at hi
    exact h i s1 hi
  · rw [List.getElem?_append_right (by omega)] at hi
    have := List.mem_of_getElem? hi
    rw [List.mem_singleton] at this
    injection this with this
    subst this
    exact hs
theorem few_none {s : Bst} {j : Nat} (h : s.few q) : Bst.few { s with ds := s.ds.set j none } q := fun i s1 hi => by
  simp only at hi
  by_cases hij : j = i
  · subst hij
    by_cases hl : j < s.ds.length
    · rw [List.getElem?_set_self hl] at hi; cases hi
    · rw [List.getElem?_eq_none (by rw [List.length_set]; omega)] at hi; cases hi
  · rw [List.getElem?_set_ne hij] at hi
    exact h i s1 hi
theorem few_dev {s : Bst} {i : Int} (h : s.few q) : ∀ x ∈ s.sec i, x.wait.length ≤ q := fun x hx => by
  unfold Bst.sec at hx
  cases h1 : s.ds[i.toNat]? with
  | none => rw [h1] at hx; simp at hx
  | some o =>
    cases o with
    | none => rw [h1] at hx; simp at hx
    | some ss => rw [h1] at hx; exact h _ ss h1 x hx
theorem inv_added (h : Inv q s) (k : Int) : Inv (q + 1) (s.added k) := by
  unfold Bst.added
  split
  · exact h.of (few_more (few_app h.1 fun x hx => by rw [List.eq_of_mem_replicate hx]; exact Nat.zero_le _) (Nat.le_succ q)) (Int.le_refl _) (by show s.done ≤ _; omega)
  · exact h.more
theorem inv_grown (h : Inv q s) (i k : Int) : Inv (q + 1) (s.grown i k) := by
  unfold Bst.grown
  split
  · exact h.more
  · exact h.of (few_more (few_set h.1 (gnext_wait (few_dev h.1))) (Nat.le_succ q)) (Int.le_refl _) (by show s.done ≤ _; omega)
theorem inv_detached (h : Inv q s) (i : Int) : Inv (q + 1) (s.detached i) := by
  unfold Bst.detached
  split
  · exact h.more
  · exact h.of (few_more (few_none h.1) (Nat.le_succ q)) (Int.le_refl _) (by show s.done ≤ _; omega)
theorem wrote_done (s : Bst) (i k : Int) (l : List Int) : s.done ≤ (s.wrote i k l).done ∧ (s.wrote i k l).done ≤ s.done + 1 := by
  unfold Bst.wrote
  have := counted_done s
  split
  · omega
  · split
    · omega
    · show _ ≤ s.counted.done ∧ s.counted.done ≤ _; omega
theorem inv_wrote (h : Inv q s) (i k : Int) (l : List Int) : Inv (q + 1) (s.wrote i k l) := h.of (few_wrote h.1) (wrote_done s i k l).1 (by have := (wrote_done s i k l).2; omega)
theorem flushA_done : ∀ (l : List Int) (s : Bst), s.done ≤ (flushA s l).1.done ∧ (flushA s l).1.done ≤ s.done + l.length
  | [], s => ⟨Int.le_refl _, by simp [flushA]⟩
  | i :: l, s => by
    rw [flushA]
    have h1 := flush1_done s i
    split
    · exact ⟨h1.2, by simp only [List.length_cons]; omega⟩
    · have := flushA_done l (s.flush1 i)
      simp only [List.length_cons]
      omega
theorem flushA_few : ∀ (l : List Int) (s : Bst), s.few q → (flushA s l).1.few q
  | [], s, h => h
  | i :: l, s, h => by
    rw [flushA]
    split
    · exact few_flush1 h
    · exact flushA_few l _ (few_flush1 h)
theorem inv_flushA (h : Inv q s) (l : List Int) (hl : l.length ≤ 300) : Inv (q + 1) (flushA s l).1 := h.of (flushA_few l s (few_more h.1 (Nat.le_succ q))) (flushA_done l s).1 (by have := (flushA_done l s).2; omega)
theorem crashB_few : ∀ (d : List (Option (List Sec))) (p : List Int), (∀ (j : Nat) (ss : List Sec), d[j]? = some (some ss) → ∀ x ∈ ss, x.wait.length ≤ q) → ∀ (j : Nat) (ss : List Sec), (crashB d p)[j]? = some (some ss) → ∀ x ∈ ss, x.wait.length ≤ q
  | [], _, _, j, ss, hj => by simp [crashB] at hj
  | none :: r, p, h, j, ss, hj => by
    rw [crashB] at hj
    cases j with
    | zero => cases hj
    | succ j => exact crashB_few r p (fun i s1 hi => h (i + 1) s1 hi) j ss hj
  | some s0 :: r, p, h, j, ss, hj => by
    rw [crashB] at hj
    cases j with
    | zero =>
      injection hj with hj
      injection hj with hj
      subst hj
      exact crashL_wait q _ _ _ (h 0 s0 rfl)
    | succ j => exact crashB_few r _ (fun i s1 hi => h (i + 1) s1 hi) j ss hj
theorem inv_crashed (h : Inv q s) (l : List Int) : Inv (q + 1) (s.crashedB l) := h.of (few_more (crashB_few s.ds l h.1) (Nat.le_succ q)) (Int.le_refl _) (by show s.done ≤ _; omega)
theorem bnext_wait {ss : List Sec} {k : Int} {on : Bool} (h : ∀ s ∈ ss, s.wait.length ≤ q) : ∀ s ∈ bnext ss k on, s.wait.length ≤ q := by
  unfold bnext
  split
  · rename_i s hs
    exact bad_wait hs h
  · exact h
theorem inv_badded (h : Inv q s) (i k : Int) (on : Bool) : Inv (q + 1) (s.badded i k on) := by
  unfold Bst.badded
  split
  · exact h.more
  · exact h.of (few_more (few_set h.1 (bnext_wait (few_dev h.1))) (Nat.le_succ q)) (Int.le_refl _) (by show s.done ≤ _; omega)
theorem inv_filled (h : Inv q s) (i : Int) (l : List Int) : Inv (q + 1) (s.filledB i l) := by
  unfold Bst.filledB
  split
  · exact h.more
  · exact h.of (few_more (few_set h.1 filled_wait) (Nat.le_succ q)) (Int.le_refl _) (by show s.done ≤ _; omega)
theorem inv_armed (h : Inv q s) (k : Int) : Inv (q + 1) { s with armed := decide (0 ≤ k), left := k } := h.of (few_more h.1 (Nat.le_succ q)) (Int.le_refl _) (by show s.done ≤ _; omega)
end

/-- What a step answers, and leaves. -/
def Stepped4 (w : World) (g1 g2 q : Nat) (e : Ending) (w' : World) : Prop := e = .returned (.bool true) ∧ ∃ F3 F4 s', BB w w' F3 F4 g1 g2 s' s' ∧ Inv q s'

end Go.Proofs.YtpoeneabhoajaaaDoor
