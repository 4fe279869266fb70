/- Two banks side by side; how many writes wait behind each call. -/
import Derived.Test.YtpoeneabhoajaaaDoorBkE
namespace Go.Proofs.YtpoeneabhoajaaaDoor
open Go.RowKit

/-- Two banks that have nothing in common, all behind w. -/
structure TB (w wr : World) (F1 F2 : Nat → Prop) (g1 g2 : Nat) (sa sb : Bst) : Prop where
  a : BO wr F1 g1 sa
  b : BO wr F2 g2 sb
  la : ∀ x, F1 x → w.heap.size ≤ x
  lb : ∀ x, F2 x → w.heap.size ≤ x
  apart : ∀ x, F1 x → ¬ F2 x
  bel : Below w.heap.size w wr
section
variable {w wr w1 : World} {F1 F2 F' : Nat → Prop} {g1 g2 : Nat} {sa sb s' : Bst}
theorem TB.below (h : TB w wr F1 F2 g1 g2 sa sb) (hb : Below wr.heap.size wr w1) : TB w w1 F1 F2 g1 g2 sa sb := ⟨h.a.below hb, h.b.below hb, h.la, h.lb, h.apart, h.bel.trans (hb.mono h.bel.size)⟩
theorem TB.stepA (h : TB w wr F1 F2 g1 g2 sa sb) (ht : Turn F1 wr w1) (hd : BO w1 F' g1 s') (hF : ∀ x, F' x → F1 x ∨ wr.heap.size ≤ x) : TB w w1 F' F2 g1 g2 s' sb :=
  ⟨hd, h.b.keep ht.size fun x hx => ht.block x (h.b.lt x hx) fun hf => h.apart x hf hx, fun x hx => (hF x hx).elim (h.la x) fun e => Nat.le_trans h.bel.size e, h.lb, fun x hx hx2 => by
    rcases hF x hx with e | e
    · exact h.apart x e hx2
    · have := h.b.lt x hx2; omega, h.bel.trans (ht.below h.la h.bel.size)⟩
theorem TB.stepB (h : TB w wr F1 F2 g1 g2 sa sb) (ht : Turn F2 wr w1) (hd : BO w1 F' g2 s') (hF : ∀ x, F' x → F2 x ∨ wr.heap.size ≤ x) : TB w w1 F1 F' g1 g2 sa s' :=
  ⟨h.a.keep ht.size fun x hx => ht.block x (h.a.lt x hx) fun hf => h.apart x hx hf, hd, h.la, fun x hx => (hF x hx).elim (h.lb x) fun e => Nat.le_trans h.bel.size e, fun x hx hx2 => by
    rcases hF x hx2 with e | e
    · exact h.apart x hx e
    · have := h.a.lt x hx; omega, h.bel.trans (ht.below h.lb h.bel.size)⟩
end
/-- A row of the call's own lies outside of what was there. -/
theorem own_out {w : World} {base : Nat} {e : TypeId} {k n c : Nat} {A : Option Addr} {xs : List Value} {F : Nat → Prop} (h : w.ownsRow base e k (.slice A n c) n xs) (hF : ∀ b, F b → b < base) : ∀ ad : Addr, A = some ad → ¬ F ad.block := fun ad had hf => by
  obtain ⟨A0, c0, hv, _, hA⟩ := own_form _ h
  injection hv with hv _ _
  rcases hA with e | ⟨g, e, hg1, _⟩
  · rw [hv, e] at had; cases had
  · rw [hv, e] at had
    injection had with had
    rw [← had] at hf
    have := hF _ hf
    simp only at this
    omega

theorem few_set {s : Bst} {j q : Nat} {ss : List Sec} (h : s.few q) (hs : ∀ x ∈ ss, x.wait.length ≤ q) : Bst.few { s with ds := s.ds.set j (some ss) } q := fun i s1 hi => by
  simp only at hi
  by_cases hij : j = i
  · subst hij
    have hl : j < s.ds.length := by have := (List.getElem?_eq_some_iff.1 hi).1; rw [List.length_set] at this; exact this
    rw [List.getElem?_set_self hl] at hi
    injection hi with hi
    injection hi with hi
    subst hi
    exact hs
  · rw [List.getElem?_set_ne hij] at hi
    exact h i s1 hi
theorem few_more {s : Bst} {q q' : Nat} (h : s.few q) (hq : q ≤ q') : s.few q' := fun j ss hj x hx => Nat.le_trans (h j ss hj x hx) hq
theorem few_counted {s : Bst} {q : Nat} (h : s.few q) : s.counted.few q := fun j ss hj => by rw [counted_ds] at hj; exact h j ss hj
theorem few_sec {s : Bst} {q : Nat} {i : Int} (h : s.few q) (hl : s.liveE i = 0) : ∀ x ∈ s.sec i, x.wait.length ≤ q := by
  obtain ⟨k, ss, _, h2, h3⟩ := live_dev hl
  rw [h3]
  exact h k ss h2
theorem wnext_few {ss : List Sec} {i : Int} {l : List Int} {q : Nat} (h : ∀ s ∈ ss, s.wait.length ≤ q) : ∀ s ∈ wnext ss i l, s.wait.length ≤ q + 1 := by
  have h' : ∀ s ∈ ss, s.wait.length ≤ q + 1 := fun s hs => by have := h s hs; omega
  unfold wnext
  split
  · split
    · rename_i s hs
      intro x hx
      rcases List.mem_or_eq_of_mem_set hx with hx | hx
      · exact h' x hx
      · have := h s (List.mem_of_getElem? hs)
        rw [hx]
        simp
        exact this
    · exact h'
  · exact h'
theorem few_wrote {s : Bst} {q : Nat} {i k : Int} {l : List Int} (h : s.few q) : (s.wrote i k l).few (q + 1) := by
  unfold Bst.wrote
  split
  · exact few_more h (Nat.le_succ q)
  · rename_i hn
    have hl : s.liveE i = 0 := by rcases Decidable.em (s.liveE i = 0) with e | e; exact e; exact absurd (.inl e) hn
    split
    · exact few_more (few_counted h) (Nat.le_succ q)
    · have := few_set (s := s.counted) (j := i.toNat) (few_more (few_counted h) (Nat.le_succ q)) (wnext_few (i := k) (l := l) (few_sec h hl))
      rw [counted_ds] at this
      exact this
theorem few_flush1 {s : Bst} {q : Nat} {i : Int} (h : s.few q) : (s.flush1 i).few q := by
  unfold Bst.flush1
  split
  · exact h
  · split
    · exact few_counted h
    · have := few_set (s := s.counted) (j := i.toNat) (ss := flushed (s.sec i)) (few_counted h) (fun x hx => by
        obtain ⟨y, _, rfl⟩ := List.mem_map.1 hx
        exact Nat.zero_le _)
      rw [counted_ds] at this
      exact this

/-- Three devices of four sectors, or so many of them. -/
def bstK (k : Nat) : Bst := ⟨List.replicate k (some (List.replicate 4 sec0)), false, 0, false, 0⟩
theorem bstK_add (k : Nat) (hk : k < 8) : (bstK k).addE 4 = 0 ∧ (bstK k).added 4 = bstK (k + 1) := by
  have h1 : (bstK k).addE 4 = 0 := by
    unfold Bst.addE
    rw [if_neg (by simp [bstK]), if_neg (by simp [bstK]; omega), if_pos ⟨by omega, by omega⟩]
  refine ⟨h1, ?_⟩
  unfold Bst.added
  rw [if_pos h1]
  have h2 : List.replicate (k + 1) (some (List.replicate 4 sec0)) = List.replicate k (some (List.replicate 4 sec0)) ++ [some (List.replicate 4 sec0)] := List.replicate_succ'
  unfold bstK
  rw [h2]
  rfl
theorem bstK_few (k q : Nat) : (bstK k).few q := fun j ss hj x hx => by
  have := List.mem_of_getElem? hj
  have := List.eq_of_mem_replicate this
  injection this with this
  subst this
  rw [List.eq_of_mem_replicate hx]
  exact Nat.zero_le _

/-! ## A bank that is armed beside one that is not -/
structure CT (n : Int) (sa sb : Bst) : Prop where
  aa : sa.armed = false
  ad : sa.down = false
  ba : sb.armed = true
  n0 : 0 ≤ n
  d0 : 0 ≤ sa.done
  or : (sb.down = false ∧ sa.ds = sb.ds ∧ sb.left = n - sa.done ∧ sb.done = sa.done ∧ sa.done ≤ n) ∨ (sb.down = true ∧ sb.done = n ∧ n < sa.done)
theorem counted_off {s : Bst} (h : s.armed = false) : s.counted = { s with done := s.done + 1 } ∧ s.countE = 0 := by
  refine ⟨?_, if_neg fun e => by rw [h] at e; cases e.1⟩
  unfold Bst.counted
  rw [if_neg (fun e => by rw [h] at e; cases e.1), if_neg (by rw [h]; simp)]
theorem counted_on {s : Bst} (h : s.armed = true) (h0 : s.left ≠ 0) : s.counted = { s with left := s.left - 1, done := s.done + 1 } ∧ s.countE = 0 := by
  refine ⟨?_, if_neg fun e => h0 e.2⟩
  unfold Bst.counted
  rw [if_neg fun e => h0 e.2, if_pos h]
theorem counted_end {s : Bst} (h : s.armed = true) (h0 : s.left = 0) : s.counted = { s with down := true } ∧ s.countE = 22 := by
  refine ⟨?_, if_pos ⟨h, h0⟩⟩
  unfold Bst.counted
  rw [if_pos ⟨h, h0⟩]
/-- What a call does that counts: nothing; or it counts, and a device turns. -/
def Bst.does (s : Bst) (ok : Bool) (i : Int) (ss : List Sec) : Bst := if s.down = true ∨ ok = false then s else if s.countE ≠ 0 then s.counted else { s.counted with ds := s.ds.set i.toNat (some ss) }
theorem CT.does {n : Int} {sa sb : Bst} (h : CT n sa sb) (ok : Bool) (okb : Bool) (i : Int) (ssa ssb : List Sec) (he : sb.down = false → ok = okb ∧ ssa = ssb) : CT n (sa.does ok i ssa) (sb.does okb i ssb) ∧ (sa.does ok i ssa).done ≤ sa.done + 1 := by
  obtain ⟨ca, cz⟩ := counted_off h.aa
  have key : sa.does ok i ssa = if ok = false then sa else { sa with done := sa.done + 1, ds := sa.ds.set i.toNat (some ssa) } := by
    unfold Bst.does
    cases ok with
    | false => rw [if_pos (.inr rfl), if_pos rfl]
    | true => rw [if_neg (by rw [h.ad]; simp), if_neg (by rw [cz]; simp), ca, if_neg (by simp)]
  rcases h.or with ⟨h1, h2, h3, h4, h5⟩ | ⟨h1, h2, h3⟩
  · obtain ⟨rfl, rfl⟩ := he h1
    rw [key]
    cases ok with
    | false =>
      rw [if_pos rfl]
      have hb : sb.does false i ssa = sb := if_pos (.inr rfl)
      rw [hb]
      exact ⟨h, by omega⟩
    | true =>
      rw [if_neg (by simp)]
      refine ⟨?_, Int.le_refl _⟩
      by_cases h0 : sb.left = 0
      · obtain ⟨cb, ce⟩ := counted_end h.ba h0
        have hb : sb.does true i ssa = { sb with down := true } := by unfold Bst.does; rw [if_neg (by rw [h1]; simp), if_pos (by rw [ce]; simp), cb]
        rw [hb]
        exact ⟨h.aa, h.ad, h.ba, h.n0, by have := h.d0; simp only; omega, .inr ⟨rfl, by simp only; omega, by simp only; omega⟩⟩
      · obtain ⟨cb, ce⟩ := counted_on h.ba h0
        have hb : sb.does true i ssa = { sb with left := sb.left - 1, done := sb.done + 1, ds := sb.ds.set i.toNat (some ssa) } := by unfold Bst.does; rw [if_neg (by rw [h1]; simp), if_neg (by rw [ce]; simp), cb]
        rw [hb]
        exact ⟨h.aa, h.ad, h.ba, h.n0, by have := h.d0; simp only; omega, .inl ⟨h1, by simp only; rw [h2], by simp only; omega, by simp only; omega, by simp only; omega⟩⟩
  · have hb : sb.does okb i ssb = sb := if_pos (.inl h1)
    rw [hb, key]
    split
    · exact ⟨h, by omega⟩
    · exact ⟨⟨h.aa, h.ad, h.ba, h.n0, by have := h.d0; simp only; omega, .inr ⟨h1, h2, by simp only; omega⟩⟩, Int.le_refl _⟩
theorem wrote_does (s : Bst) (i k : Int) (l : List Int) : s.wrote i k l = s.does (decide (s.devE i = 0) && hasOf (s.sec i).length k && decide (l.length = 128)) i (wnext (s.sec i) k l) := by
  unfold Bst.wrote Bst.does Bst.liveE
  cases s.down with
  | true => rw [if_pos (.inl (by simp)), if_pos (.inl rfl)]
  | false =>
    simp only [Bool.false_eq_true, if_false, false_or]
    by_cases h1 : s.devE i = 0 <;> cases h2 : hasOf (s.sec i).length k <;> by_cases h3 : l.length = 128 <;> simp [h1, h3]
theorem flush_does (s : Bst) (i : Int) : s.flush1 i = s.does (decide (s.devE i = 0)) i (flushed (s.sec i)) := by
  unfold Bst.flush1 Bst.does Bst.liveE
  cases s.down with
  | true => rw [if_pos (by simp), if_pos (.inl rfl)]
  | false =>
    simp only [Bool.false_eq_true, if_false, false_or]
    by_cases h1 : s.devE i = 0 <;> simp [h1]
theorem dev_same {sa sb : Bst} (h : sa.ds = sb.ds) (i : Int) : sa.devE i = sb.devE i ∧ sa.sec i = sb.sec i := by
  unfold Bst.devE Bst.sec
  rw [h]
  exact ⟨rfl, rfl⟩
theorem CT.ds {n : Int} {sa sb : Bst} (h : CT n sa sb) (hd : sb.down = false) : sa.ds = sb.ds := by
  rcases h.or with e | e
  · exact e.2.1
  · rw [hd] at e; cases e.1
theorem CT.wrote {n : Int} {sa sb : Bst} (h : CT n sa sb) (i k : Int) (l : List Int) : CT n (sa.wrote i k l) (sb.wrote i k l) ∧ (sa.wrote i k l).done ≤ sa.done + 1 := by
  rw [wrote_does, wrote_does]
  refine h.does _ _ i _ _ fun hd => ?_
  obtain ⟨e1, e2⟩ := dev_same (h.ds hd) i
  rw [e1, e2]
  exact ⟨rfl, rfl⟩
theorem CT.flush {n : Int} {sa sb : Bst} (h : CT n sa sb) (i : Int) : CT n (sa.flush1 i) (sb.flush1 i) ∧ (sa.flush1 i).done ≤ sa.done + 1 := by
  rw [flush_does, flush_does]
  refine h.does _ _ i _ _ fun hd => ?_
  obtain ⟨e1, e2⟩ := dev_same (h.ds hd) i
  rw [e1, e2]
  exact ⟨rfl, rfl⟩
theorem flushA_one (s : Bst) (i : Int) : (flushA s [i]).1 = s.flush1 i := by
  unfold flushA
  split <;> rfl

end Go.Proofs.YtpoeneabhoajaaaDoor
