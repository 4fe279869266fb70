/- Plain laws of a table that is worked off: what may go ahead, and what was done does not clash with what was ahead of it. No program in sight. -/
import Derived.Test.YtgabjgmimebelaaLkB
namespace Go.Proofs.Ytgabjgmimebelaa
open Go.RowKit

/-- The entries' numbers rise. -/
def Up (es : List En) : Prop := es.Pairwise fun x y => x.num < y.num
theorem Up.get {es : List En} (h : Up es) {i j : Nat} {x y : En} (hi : es[i]? = some x) (hj : es[j]? = some y) (hij : i < j) : x.num < y.num := by
  obtain ⟨li, rfl⟩ := List.getElem?_eq_some_iff.1 hi
  obtain ⟨lj, rfl⟩ := List.getElem?_eq_some_iff.1 hj
  exact List.pairwise_iff_getElem.1 h i j li lj hij
theorem Up.inj {es : List En} (h : Up es) {i j : Nat} {x y : En} (hi : es[i]? = some x) (hj : es[j]? = some y) (he : x.num = y.num) : i = j := by
  rcases Nat.lt_trichotomy i j with h1 | h1 | h1
  · have := h.get hi hj h1; omega
  · exact h1
  · have := h.get hj hi h1; omega
theorem Up.place {es : List En} (h : Up es) {i : Nat} {x : En} (hi : es[i]? = some x) : placeOf es x.num = i := by
  rcases placeOf_cases es x.num with ⟨_, h2⟩ | ⟨j, e, h1, h2, h3, _⟩
  · exact absurd rfl (h2 i x hi)
  · rw [h1, h.inj h2 hi h3]
theorem Up.ent {es : List En} (h : Up es) {x : En} (hx : x ∈ es) : entOf es x.num = x := by
  unfold entOf
  cases hf : es.find? fun y => y.num == x.num with
  | none => exact absurd (List.find?_eq_none.1 hf x hx) (by simp)
  | some y =>
    have h1 := List.find?_some hf
    have h2 := List.mem_of_find?_eq_some hf
    obtain ⟨i, hi⟩ := List.getElem?_of_mem hx
    obtain ⟨j, hj⟩ := List.getElem?_of_mem h2
    have := h.inj hj hi (by simpa using h1)
    subst this
    rw [hi] at hj
    cases hj
    rfl
theorem Up.may {es : List En} (h : Up es) {i : Nat} {x : En} (hi : es[i]? = some x) (hm : mayOf es x.num = true) : ∀ j y, j < i → es[j]? = some y → enClash y x = false := by
  intro j y hj hy
  unfold mayOf at hm
  rw [Bool.and_eq_true] at hm
  have h2 := hm.2
  unfold aheadOf at h2
  rw [h.place hi, if_neg (by omega), Int.toNat_natCast, hi] at h2
  simp only [Option.getD_some] at h2
  cases hc : enClash y x with
  | false => rfl
  | true =>
    have : y.num ∈ aheadAt es i x := List.mem_map.2 ⟨y, List.mem_filter.2 ⟨by
      rw [List.mem_iff_getElem?]
      exact ⟨j, by rw [List.getElem?_take_of_lt hj]; exact hy⟩, hc⟩, rfl⟩
    rw [List.isEmpty_iff] at h2
    rw [h2] at this
    cases this
theorem ready_cons {x : En} {es : List En} (h : Up (x :: es)) : ∃ l, readyOf (x :: es) = x.num :: l := by
  have hp := h.place (i := 0) (x := x) rfl
  have hm : mayOf (x :: es) x.num = true := by
    unfold mayOf aheadOf
    rw [hp]
    simp [aheadAt]
  unfold readyOf
  rw [List.map_cons, List.filter_cons_of_pos hm]
  exact ⟨_, rfl⟩
theorem ready_get {es : List En} (h : Up es) {k : Nat} {x : Int} (hk : (readyOf es)[k]? = some x) : ∃ (i : Nat) (e : En), es[i]? = some e ∧ e.num = x ∧ placeOf es x = i ∧ mayOf es x = true := by
  have hm := List.mem_of_getElem? hk
  unfold readyOf at hm
  obtain ⟨h1, h2⟩ := List.mem_filter.1 hm
  obtain ⟨e, he, rfl⟩ := List.mem_map.1 h1
  obtain ⟨i, hi⟩ := List.getElem?_of_mem he
  exact ⟨i, e, hi, rfl, h.place hi, h2⟩

/-- A table under way: all that came, what is left, what was done. -/
structure EN (all es : List En) (done : List Int) : Prop where
  up : Up all
  sub : es.Sublist all
  cnt : es.length + done.length = all.length
  mem : ∀ d ∈ done, ∃ e ∈ all, e.num = d
  left : ∀ d ∈ done, ∀ x ∈ es, x.num < d → enClash x (entOf all d) = false
  was : ∀ (i j : Nat) (d d' : Int), j < i → done[i]? = some d → done[j]? = some d' → d < d' → enClash (entOf all d) (entOf all d') = false
theorem EN.start {all : List En} (h : Up all) : EN all all [] := ⟨h, List.Sublist.refl _, by simp, (fun _ h => nomatch h), (fun _ h => nomatch h), (fun _ _ _ _ _ h => by simp at h)⟩
theorem EN.upes {all es : List En} {done : List Int} (h : EN all es done) : Up es := List.Pairwise.sublist h.sub h.up
theorem EN.step {all es : List En} {done : List Int} (h : EN all es done) {i : Nat} {e : En} (hi : es[i]? = some e) (hm : mayOf es e.num = true) : EN all (es.eraseIdx i) (done ++ [e.num]) := by
  have hu := h.upes
  have hmay := hu.may hi hm
  obtain ⟨hl, _⟩ := List.getElem?_eq_some_iff.1 hi
  have hem : e ∈ all := h.sub.subset (List.mem_of_getElem? hi)
  have hee := h.up.ent hem
  refine ⟨h.up, (List.eraseIdx_sublist es i).trans h.sub, ?_, ?_, ?_, ?_⟩
  · have := h.cnt
    rw [List.length_eraseIdx, if_pos hl, List.length_append, List.length_singleton]
    omega
  · intro d hd
    rcases List.mem_append.1 hd with h1 | h1
    · exact h.mem d h1
    · exact ⟨e, hem, (List.mem_singleton.1 h1).symm⟩
  · intro d hd x hx hlt
    have hxe : x ∈ es := (List.eraseIdx_sublist es i).subset hx
    rcases List.mem_append.1 hd with h1 | h1
    · exact h.left d h1 x hxe hlt
    · obtain rfl := List.mem_singleton.1 h1
      rw [hee]
      obtain ⟨j, hj⟩ := List.getElem?_of_mem hxe
      refine hmay j x ?_ hj
      rcases Nat.lt_trichotomy j i with h2 | h2 | h2
      · exact h2
      · subst h2
        rw [hi] at hj
        cases hj
        omega
      · have := hu.get hi hj h2
        omega
  · intro p q d d' hqp hp hq hlt
    have hql : q < done.length := by
      have := (List.getElem?_eq_some_iff.1 hp).1
      rw [List.length_append, List.length_singleton] at this
      omega
    rw [List.getElem?_append_left hql] at hq
    by_cases hpl : p < done.length
    · rw [List.getElem?_append_left hpl] at hp
      exact h.was p q d d' hqp hp hq hlt
    · have hd : d = e.num := by
        rw [List.getElem?_append_right (by omega)] at hp
        have := List.mem_of_getElem? hp
        exact List.mem_singleton.1 this
      subst hd
      rw [hee]
      exact h.left d' (List.mem_of_getElem? hq) e (List.mem_of_getElem? hi) hlt
end Go.Proofs.Ytgabjgmimebelaa
