/- Plain laws on rosters: what a change leaves. -/
import Derived.Test.YtlpgeocoddehgaaRosterBack
namespace Go.Proofs.Ytlpgeocoddehgaa
open Go.RowKit Go.Shelf

/-- What stays through a change. -/
structure Nxt (ys zs : List (Int × Int)) : Prop where
  r : rightL zs = true
  len : ys.length ≤ zs.length
  act : 0 < (thoseOf activeB ys).length → 0 < (thoseOf activeB zs).length
  each : ∀ (j : Nat) u v, ys[j]? = some u → zs[j]? = some v → u.2 ≤ v.2 ∧ (u.1 = 3 → v.1 = 3) ∧ (v.1 = 3 → u.1 ≠ 1)
theorem Nxt.set {ys : List (Int × Int)} (hr : rightL ys = true) {k : Nat} {x y : Int × Int} (hx : ys[k]? = some x) (hy : rightE y = true) (h2 : x.2 ≤ y.2) (h3 : x.1 = 3 → y.1 = 3) (h1 : y.1 = 3 → x.1 ≠ 1)
    (ha : 0 < (ys.filter activeB).length → 0 < ((ys.set k y).filter activeB).length) : Nxt ys (ys.set k y) := by
  have hrs := rightL_set hr k hy
  refine ⟨hrs, by simp, by rw [those_len hr, those_len hrs]; exact ha, fun j u v hu hv => ?_⟩
  by_cases e : k = j
  · subst e
    rw [hx] at hu
    rw [List.getElem?_set_self (List.getElem?_eq_some_iff.1 hx).1] at hv
    injection hu with hu
    injection hv with hv
    subst hu
    subst hv
    exact ⟨h2, h3, h1⟩
  · rw [List.getElem?_set_ne e, hu] at hv
    injection hv with hv
    subst hv
    exact ⟨Int.le_refl _, id, fun h => by omega⟩
theorem Nxt.add {ys : List (Int × Int)} {s : Int} (h : (addOf ys s).1 = 0) : Nxt ys (addOf ys s).2 := by
  obtain ⟨hr, h8, h3, h4, he, _, hrs⟩ := addOf_ok h
  rw [he]
  refine ⟨hrs, by simp, fun _ => ?_, fun j u v hu hv => ?_⟩
  · rw [those_len hrs, List.filter_append]
    simp [activeB]
  · rw [List.getElem?_append_left (List.getElem?_eq_some_iff.1 hu).1, hu] at hv
    injection hv with hv
    subst hv
    exact ⟨Int.le_refl _, id, fun h => by omega⟩
theorem Nxt.grow {ys : List (Int × Int)} {d s : Int} (h : (withOf ys d (growF s)).1 = 0) : Nxt ys (withOf ys d (growF s)).2 := by
  obtain ⟨k, x, rfl, hx, h3, h4, h5, he, hrs, _, _⟩ := grow_plain h
  have hr := (withOf_ok h).1
  rw [he]
  have hxr := of_decide_eq_true ((rightL_ok hrs).2 (x.1, s) (List.mem_of_getElem? (List.getElem?_set_self (List.getElem?_eq_some_iff.1 hx).1)))
  refine Nxt.set hr hx ((rightL_ok hrs).2 _ (List.mem_of_getElem? (List.getElem?_set_self (List.getElem?_eq_some_iff.1 hx).1))) (by simp only; omega) id (fun h => by simp only at h; omega) ?_
  have := filter_set activeB ys k x (x.1, s) hx
  have e : activeB (x.1, s) = activeB x := rfl
  rw [e] at this
  omega
theorem Nxt.turn {ys : List (Int × Int)} {d s t : Int} (h : (withOf ys d (turnF s t)).1 = 0) (hst : (s = 1 ∧ t = 2) ∨ (s = 2 ∧ t = 1) ∨ (s = 2 ∧ t = 3)) (ha : s = 1 → 0 < (thoseOf activeB (withOf ys d (turnF s t)).2).length) : Nxt ys (withOf ys d (turnF s t)).2 := by
  obtain ⟨hr, k, x, rfl, hx, hf, he⟩ := withOf_ok h
  obtain ⟨hs, hf2⟩ := turnF_of hf
  have hxr := of_decide_eq_true ((rightL_ok hr).2 x (List.mem_of_getElem? hx))
  rw [he, hf2] at ha ⊢
  have hye : rightE (t, x.2) = true := decide_eq_true (by simp only; omega)
  have hfs := filter_set activeB ys k x (t, x.2) hx
  refine Nxt.set hr hx hye (Int.le_refl _) (fun h => by simp only; omega) (fun h => by simp only at h; omega) fun hp => ?_
  rcases hst with ⟨rfl, rfl⟩ | ⟨rfl, rfl⟩ | ⟨rfl, rfl⟩
  · have := ha rfl
    rwa [those_len (rightL_set hr k hye)] at this
  · have e1 : activeB ((1 : Int), x.2) = true := rfl
    have e2 : activeB x = false := by simp [activeB, hs]
    rw [e1, e2] at hfs
    simp only [if_true, Bool.false_eq_true, if_false] at hfs
    show 0 < ((ys.set k (1, x.2)).filter activeB).length
    omega
  · have e1 : activeB ((3 : Int), x.2) = false := rfl
    have e2 : activeB x = false := by simp [activeB, hs]
    rw [e1, e2] at hfs
    simp only [Bool.false_eq_true, if_false] at hfs
    show 0 < ((ys.set k (3, x.2)).filter activeB).length
    omega
theorem Nxt.drain {ys : List (Int × Int)} {d : Int} (h : (drainOf ys d).1 = 0) : Nxt ys (drainOf ys d).2 := by
  unfold drainOf at h ⊢
  split
  · rename_i h0
    rw [if_pos h0] at h
    simp at h
  · rename_i h0
    rw [if_neg h0] at h
    exact Nxt.turn h (.inl ⟨rfl, rfl⟩) fun _ => by
      have : ¬ (thoseOf activeB (withOf ys d (turnF 1 2)).2).length = 0 := fun e => h0 ⟨h, e⟩
      omega
def nextOf (x : Int) (ys : List (Int × Int)) (d s : Int) : Int × List (Int × Int) :=
  if x = 0 then addOf ys s else if x = 1 then withOf ys d (growF s) else if x = 2 then drainOf ys d else if x = 3 then withOf ys d (turnF 2 1) else withOf ys d (turnF 2 3)
theorem Nxt.of {x : Int} {ys : List (Int × Int)} {d s : Int} (h : (nextOf x ys d s).1 = 0) : Nxt ys (nextOf x ys d s).2 := by
  unfold nextOf at h ⊢
  split
  · rename_i h0; rw [if_pos h0] at h; exact .add h
  · rename_i h0
    rw [if_neg h0] at h
    split
    · rename_i h1; rw [if_pos h1] at h; exact .grow h
    · rename_i h1
      rw [if_neg h1] at h
      split
      · rename_i h2; rw [if_pos h2] at h; exact .drain h
      · rename_i h2
        rw [if_neg h2] at h
        split
        · rename_i h3; rw [if_pos h3] at h; exact .turn h (.inr (.inl ⟨rfl, rfl⟩)) (fun e => by omega)
        · rename_i h3; rw [if_neg h3] at h; exact .turn h (.inr (.inr ⟨rfl, rfl⟩)) (fun e => by omega)

end Go.Proofs.Ytlpgeocoddehgaa
