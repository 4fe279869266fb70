/- Plain laws on rosters: the room. -/
import Derived.Test.YtlpgeocoddehgaaRosH
namespace Go.Proofs.Ytlpgeocoddehgaa
open Go.RowKit Go.Shelf

def sumM (xs : List (Int × Int)) : Int := ((xs.filter memberB).map fun x => x.2 - 2).sum
theorem room_eq {xs : List (Int × Int)} (h : rightL xs = true) : roomOf xs = sumM xs := by
  unfold roomOf thoseOf sumOf sumM
  rw [if_pos h]
  have := places_map memberB xs xs.length (Nat.le_refl _)
  rw [List.take_length] at this
  rw [← this, List.map_map]
  rfl
theorem sumM_cons (x : Int × Int) (xs : List (Int × Int)) : sumM (x :: xs) = (if memberB x = true then x.2 - 2 else 0) + sumM xs := by
  unfold sumM
  rw [List.filter_cons]
  split <;> simp
theorem sumM_append (xs ys : List (Int × Int)) : sumM (xs ++ ys) = sumM xs + sumM ys := by
  unfold sumM
  simp [List.filter_append, List.sum_append]
theorem sumM_set : ∀ (xs : List (Int × Int)) (k : Nat) (x y : Int × Int), xs[k]? = some x → memberB x = true → memberB y = true → sumM (xs.set k y) = sumM xs + y.2 - x.2
  | [], k, x, y, h, _, _ => by simp at h
  | u :: us, 0, x, y, h, hx, hy => by
    simp at h
    subst h
    rw [List.set_cons_zero, sumM_cons, sumM_cons, if_pos hx, if_pos hy]
    omega
  | u :: us, k + 1, x, y, h, hx, hy => by
    rw [List.set_cons_succ, sumM_cons, sumM_cons, sumM_set us k x y (by simpa using h) hx hy]
    omega
theorem sumM_le : ∀ (xs : List (Int × Int)), (∀ x ∈ xs, rightE x = true) → 0 ≤ sumM xs ∧ sumM xs ≤ 4094 * xs.length
  | [], _ => by simp [sumM]
  | x :: xs, h => by
    have ih := sumM_le xs fun y hy => h y (by simp [hy])
    have hx := of_decide_eq_true (h x (by simp))
    rw [sumM_cons, List.length_cons]
    split
    · rename_i hm
      simp [memberB] at hm
      omega
    · omega
theorem room_le {xs : List (Int × Int)} (h : rightL xs = true) : 0 ≤ roomOf xs ∧ roomOf xs ≤ 32752 := by
  obtain ⟨h8, he⟩ := rightL_ok h
  rw [room_eq h]
  have := sumM_le xs he
  omega
theorem addOf_ok {xs : List (Int × Int)} {size : Int} (h : (addOf xs size).1 = 0) : rightL xs = true ∧ xs.length < 8 ∧ 3 ≤ size ∧ size ≤ 4096 ∧ (addOf xs size).2 = xs ++ [(1, size)] ∧ addAt xs size = xs.length ∧ rightL (xs ++ [(1, size)]) = true := by
  have h2 : addAt xs size = if (addOf xs size).1 = 0 then (xs.length : Int) else 0 := rfl
  rw [if_pos h] at h2
  unfold addOf at h ⊢
  split at h
  · simp at h
  · rename_i hr
    have hr : rightL xs = true := by simpa using hr
    rw [if_neg (by rw [hr]; decide)]
    split at h
    · simp at h
    · rename_i h8
      split at h
      · simp at h
      · rename_i hz
        obtain ⟨h8', he⟩ := rightL_ok hr
        rw [if_neg h8, if_neg hz]
        refine ⟨hr, by omega, by omega, by omega, rfl, h2, rightL_of (by simp; omega) fun x hx => ?_⟩
        rcases List.mem_append.1 hx with hx | hx
        · exact he x hx
        · obtain rfl := List.mem_singleton.1 hx
          exact decide_eq_true (.inl ⟨.inl rfl, by show 3 ≤ size; omega, by show size ≤ 4096; omega⟩)
theorem withOf_ok {xs : List (Int × Int)} {d : Int} {f : Chg} (h : (withOf xs d f).1 = 0) : rightL xs = true ∧ ∃ (k : Nat) (x : Int × Int), d = k ∧ xs[k]? = some x ∧ (f x).1 = 0 ∧ (withOf xs d f).2 = xs.set k (f x).2 := by
  unfold withOf at h ⊢
  split at h
  · simp at h
  · rename_i hr
    have hr : rightL xs = true := by simpa using hr
    rw [if_neg (by rw [hr]; decide)]
    split at h
    · simp at h
    · rename_i hd
      rw [if_neg hd]
      obtain ⟨k, rfl⟩ := Int.eq_ofNat_of_zero_le (show 0 ≤ d by omega)
      have hx : xs[k]? = some (xs[k]'(by omega)) := List.getElem?_eq_getElem (by omega)
      rw [Int.toNat_natCast, hx] at h ⊢
      split at h
      · rename_i hf
        rw [if_pos hf]
        exact ⟨hr, k, _, rfl, hx, hf, rfl⟩
      · rename_i hf
        exact absurd h hf
theorem growF_of {size : Int} {x : Int × Int} (h : (growF size x).1 = 0) : memberB x = true ∧ x.2 < size ∧ size ≤ 4096 ∧ (growF size x).2 = (x.1, size) := by
  unfold growF at h ⊢
  split at h
  · simp at h
  · rename_i hm
    rw [if_neg hm]
    split at h
    · simp at h
    · rename_i hz
      rw [if_neg hz]
      exact ⟨by simpa using hm, by omega, by omega, rfl⟩
theorem rightL_set {xs : List (Int × Int)} (h : rightL xs = true) (k : Nat) {y : Int × Int} (hy : rightE y = true) : rightL (xs.set k y) = true := by
  obtain ⟨h8, he⟩ := rightL_ok h
  refine rightL_of (by simpa using h8) fun x hx => ?_
  rcases List.mem_or_eq_of_mem_set hx with hx | rfl
  · exact he x hx
  · exact hy
/-- What a grown roster has. -/
theorem grow_plain {xs : List (Int × Int)} {d size : Int} (h : (withOf xs d (growF size)).1 = 0) : ∃ (k : Nat) (x : Int × Int), d = k ∧ xs[k]? = some x ∧ 3 ≤ x.2 ∧ x.2 < size ∧ size ≤ 4096 ∧ (withOf xs d (growF size)).2 = xs.set k (x.1, size) ∧ rightL (xs.set k (x.1, size)) = true ∧ roomOf (xs.set k (x.1, size)) = roomOf xs + size - x.2 ∧ stateOf (xs.set k (x.1, size)) d = stateOf xs d := by
  obtain ⟨hr, k, x, rfl, hx, hf, he⟩ := withOf_ok h
  obtain ⟨hm, h1, h2, h3⟩ := growF_of hf
  have hxr := of_decide_eq_true ((rightL_ok hr).2 x (List.mem_of_getElem? hx))
  have hm' := hm
  simp [memberB] at hm'
  have hz : 3 ≤ x.2 := by omega
  rw [h3] at he
  have hye : rightE (x.1, size) = true := decide_eq_true (.inl ⟨hm', by show 3 ≤ size; omega, by show size ≤ 4096; omega⟩)
  have hry := rightL_set hr k hye
  have hk := (List.getElem?_eq_some_iff.1 hx).1
  refine ⟨k, x, rfl, hx, hz, h1, h2, he, hry, ?_, ?_⟩
  · rw [room_eq hry, room_eq hr, sumM_set xs k x _ hx hm (by simp [memberB]; exact hm')]
  · unfold stateOf
    rw [List.length_set, if_neg (by omega), if_neg (by omega), Int.toNat_natCast, hx, List.getElem?_set_self hk]
    rfl

end Go.Proofs.Ytlpgeocoddehgaa
