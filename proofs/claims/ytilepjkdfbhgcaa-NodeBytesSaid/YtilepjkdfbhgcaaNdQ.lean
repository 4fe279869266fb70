/- Plain laws: places in a rising list. No program in sight. -/
import Derived.Test.YtilepjkdfbhgcaaNdP
namespace Go.Proofs.Ytilepjkdfbhgcaa

theorem low_spec : ∀ (ks : List Int) (_ : ks.Pairwise (· < ·)) (x : Int) (i : Nat) (y : Int), ks[i]? = some y → (i < lowOf ks x ↔ y < x)
  | [], _, x, i, y, h => by simp at h
  | k :: ks, hs, x, i, y, h => by
    obtain ⟨h1, h2⟩ := List.pairwise_cons.1 hs
    have hc : lowOf (k :: ks) x = lowOf ks x + if k < x then 1 else 0 := by
      unfold lowOf
      rw [List.countP_cons]
      simp
    cases i with
    | zero =>
      simp at h
      subst h
      rw [hc]
      by_cases hk : k < x
      · rw [if_pos hk]; omega
      · rw [if_neg hk]
        have : lowOf ks x = 0 := by
          unfold lowOf
          rw [List.countP_eq_zero]
          intro z hz
          have := h1 z hz
          simp
          omega
        omega
    | succ i =>
      simp at h
      have ih := low_spec ks h2 x i y h
      have hk := h1 y (List.mem_of_getElem? h)
      rw [hc]
      by_cases hkx : k < x
      · rw [if_pos hkx, ← ih]; omega
      · rw [if_neg hkx]
        have : lowOf ks x = 0 := by
          unfold lowOf
          rw [List.countP_eq_zero]
          intro z hz
          have := h1 z hz
          simp
          omega
        omega
theorem rise_lt {ks : List Int} (hs : ks.Pairwise (· < ·)) {i j : Nat} {x y : Int} (hx : ks[i]? = some x) (hy : ks[j]? = some y) (h : i < j) : x < y := by
  obtain ⟨hi, rfl⟩ := List.getElem?_eq_some_iff.1 hx
  obtain ⟨hj, rfl⟩ := List.getElem?_eq_some_iff.1 hy
  exact List.pairwise_iff_getElem.1 hs i j hi hj h
theorem low_at {ks : List Int} (hs : ks.Pairwise (· < ·)) {i : Nat} {x : Int} (hx : ks[i]? = some x) : lowOf ks x = i := by
  have h1 := (low_spec ks hs x i x hx)
  have hi := (List.getElem?_eq_some_iff.1 hx).1
  have hle := low_le ks x
  rcases Nat.lt_trichotomy (lowOf ks x) i with h | h | h
  · obtain ⟨y, hy⟩ : ∃ y, ks[lowOf ks x]? = some y := ⟨_, List.getElem?_eq_getElem (by omega)⟩
    have h2 := low_spec ks hs x _ y hy
    have := rise_lt hs hy hx h
    omega
  · exact h
  · have := h1.1 h; omega
theorem find_at {ks : List Int} (hs : ks.Pairwise (· < ·)) {i : Nat} {x : Int} (hx : ks[i]? = some x) : findOf ks x = ((i : Int), true) := by
  unfold findOf
  rw [if_pos (by simpa using List.mem_of_getElem? hx), low_at hs hx]
/-- What is found just below the key at a place. -/
theorem find_pred0 {ks : List Int} (hs : ks.Pairwise (· < ·)) {x : Int} (hx : ks[0]? = some x) : findOf ks (x - 1) = (-1, false) := by
  have hlow : lowOf ks (x - 1) = 0 := by
    have := low_spec ks hs (x - 1) 0 x hx
    omega
  unfold findOf
  rw [if_neg, hlow]
  · rfl
  · intro h
    have hm : x - 1 ∈ ks := by simpa using h
    obtain ⟨j, hj, he⟩ := List.getElem_of_mem hm
    have h2 := low_spec ks hs x j (x - 1) (by rw [List.getElem?_eq_getElem hj, he])
    rw [low_at hs hx] at h2
    omega
theorem find_pred {ks : List Int} (hs : ks.Pairwise (· < ·)) {i : Nat} {x y : Int} (hx : ks[i + 1]? = some x) (hy : ks[i]? = some y) : findOf ks (x - 1) = ((i : Int), y == x - 1) := by
  have hyx := rise_lt hs hy hx (by omega)
  by_cases he : y = x - 1
  · have := find_at hs hy
    rw [he] at this
    rw [this]
    simp [he]
  · have h1 := low_spec ks hs (x - 1) i y hy
    have h2 := low_spec ks hs (x - 1) (i + 1) x hx
    have hlow : lowOf ks (x - 1) = i + 1 := by omega
    unfold findOf
    rw [if_neg, hlow]
    · simp [he]
    · intro h
      have hm : x - 1 ∈ ks := by simpa using h
      obtain ⟨j, hj, hje⟩ := List.getElem_of_mem hm
      have hj2 : ks[j]? = some (x - 1) := by rw [List.getElem?_eq_getElem hj, hje]
      rcases Nat.lt_trichotomy j i with h | h | h
      · have := rise_lt hs hj2 hy h; omega
      · subst h; rw [hy] at hj2; injection hj2 with hj2; exact he hj2
      · rcases Nat.lt_trichotomy j (i + 1) with h' | h' | h'
        · omega
        · subst h'; rw [hx] at hj2; injection hj2 with hj2; omega
        · have := rise_lt hs hx hj2 h'; omega
theorem find_big {ks : List Int} {x : Int} (h : ∀ k ∈ ks, k < x) : findOf ks x = ((ks.length : Int) - 1, false) := by
  have hlow : lowOf ks x = ks.length := by
    unfold lowOf
    rw [List.countP_eq_length]
    intro k hk
    simpa using h k hk
  unfold findOf
  rw [if_neg, hlow]
  intro hc
  have := h x (by simpa using hc)
  omega
theorem keys_fit {lv : Int} {ks vs : List Int} (h : rightN lv ks vs = true) : ∀ k ∈ ks, 0 ≤ k ∧ k ≤ 1099511627776 := by
  obtain ⟨_, _, h3, _, _, _, h7⟩ := rightN_ok h
  intro k hk
  obtain ⟨j, hj, rfl⟩ := List.getElem_of_mem hk
  have hm : (ks[j], vs[j]'(by omega)) ∈ pairsOf ks vs := by
    unfold pairsOf
    have : (ks.zip vs)[j]'(by rw [List.length_zip]; omega) = (ks[j], vs[j]'(by omega)) := List.getElem_zip
    rw [← this]
    exact List.getElem_mem _
  have := of_decide_eq_true (h7 _ hm)
  simp only at this
  omega

end Go.Proofs.Ytilepjkdfbhgcaa
