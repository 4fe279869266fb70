/- Plain laws: what Put and Drop make of a right node. No program in sight. -/
import Derived.Test.YtilepjkdfbhgcaaNdQ
namespace Go.Proofs.Ytilepjkdfbhgcaa

/-- The keys behind a Put. -/
def insK (ks : List Int) (key : Int) : List Int := if ks.contains key = true then ks else ks.take (lowOf ks key) ++ key :: ks.drop (lowOf ks key)
theorem keys_pairs {ks vs : List Int} (h : ks.length = vs.length) : keysOf (pairsOf ks vs) = ks := zip_keys h
theorem vals_pairs {ks vs : List Int} (h : ks.length = vs.length) : valsOf (pairsOf ks vs) = vs := zip_vals h
theorem pairs_of_maps (l : List (Int × Int)) : pairsOf (keysOf l) (valsOf l) = l := by
  unfold pairsOf keysOf valsOf
  induction l with
  | nil => rfl
  | cons x xs ih => simp only [List.map_cons, List.zip_cons_cons, ih]
theorem keys_put {lv : Int} {ks vs : List Int} (h : rightN lv ks vs = true) (key val : Int) : keysOf (putL ks vs key val) = insK ks key := by
  obtain ⟨_, _, h3, _, _, h6, _⟩ := rightN_ok h
  have hk := keys_pairs h3
  unfold putL insK
  cases hc : ks.contains key with
  | true =>
    rw [if_pos rfl, if_pos rfl]
    have hl := low_lt h6 hc
    obtain ⟨j, hj, he⟩ := List.getElem_of_mem (show key ∈ ks by simpa using hc)
    have hlow : lowOf ks key = j := low_at h6 (by rw [List.getElem?_eq_getElem hj, he])
    unfold keysOf at hk ⊢
    rw [List.map_set, hk, hlow]
    apply List.ext_getElem?
    intro i
    by_cases e : j = i
    · subst e; rw [List.getElem?_set_self hj, List.getElem?_eq_getElem hj, he]
    · rw [List.getElem?_set_ne e]
  | false =>
    rw [if_neg (by decide), if_neg (by decide)]
    unfold keysOf at hk ⊢
    rw [List.map_append, List.map_cons, List.map_take, List.map_drop, hk]
theorem ins_rise {ks : List Int} (h : ks.Pairwise (· < ·)) (key : Int) : (insK ks key).Pairwise (· < ·) := by
  unfold insK
  cases hc : ks.contains key with
  | true => rw [if_pos rfl]; exact h
  | false =>
    rw [if_neg (by decide)]
    have hlo : ∀ x ∈ ks.take (lowOf ks key), x < key := by
      intro x hx
      obtain ⟨j, hj, rfl⟩ := List.getElem_of_mem hx
      rw [List.length_take] at hj
      rw [List.getElem_take]
      exact (low_spec ks h key j _ (List.getElem?_eq_getElem (by omega))).1 (by omega)
    have hhi : ∀ x ∈ ks.drop (lowOf ks key), key < x := by
      intro x hx
      obtain ⟨j, hj, rfl⟩ := List.getElem_of_mem hx
      rw [List.length_drop] at hj
      rw [List.getElem_drop]
      have h1 := low_spec ks h key (lowOf ks key + j) _ (List.getElem?_eq_getElem (by omega))
      have hne : ks[lowOf ks key + j]'(by omega) ≠ key := by
        intro e
        have : key ∈ ks := by rw [← e]; exact List.getElem_mem _
        have : ks.contains key = true := by simpa using this
        rw [hc] at this
        cases this
      have : ¬ ks[lowOf ks key + j]'(by omega) < key := fun e => by have := h1.2 e; omega
      omega
    rw [List.pairwise_append]
    refine ⟨h.sublist (List.take_sublist _ _), List.pairwise_cons.2 ⟨hhi, h.sublist (List.drop_sublist _ _)⟩, fun x hx y hy => ?_⟩
    have h1 := hlo x hx
    rcases List.mem_cons.1 hy with rfl | hy
    · exact h1
    · have := hhi y hy; omega
theorem ins_len (ks : List Int) (key : Int) : (insK ks key).length = if ks.contains key = true then ks.length else ks.length + 1 := by
  have := low_le ks key
  unfold insK
  split
  · rfl
  · rw [List.length_append, List.length_cons, List.length_take, List.length_drop]; omega
theorem ord_of : ∀ (l : List (Int × Int)) (p : Option Int), (∀ k, p = some k → ∀ x ∈ l, k < x.1) → (keysOf l).Pairwise (· < ·) → (∀ x ∈ l, fitsP x = true) → ordFrom p l = true
  | [], p, _, _, _ => by cases p <;> rfl
  | x :: xs, p, hp, hs, hf => by
    obtain ⟨h1, h2⟩ := List.pairwise_cons.1 hs
    have ih := ord_of xs (some x.1) (fun k hk y hy => by injection hk with hk; subst hk; exact h1 _ (List.mem_map.2 ⟨y, hy, rfl⟩)) h2 (fun y hy => hf y (List.mem_cons_of_mem _ hy))
    have hx := hf x (List.mem_cons_self ..)
    cases p with
    | none => simp [ordFrom, hx, ih]
    | some k => simp [ordFrom, hx, ih, hp k rfl x (List.mem_cons_self ..)]
/-- Rising pairs that fit, one to seven of them, are a right node. -/
theorem right_of {lv : Int} {l : List (Int × Int)} (h0 : 0 ≤ lv ∧ lv ≤ 20) (hs : (keysOf l).Pairwise (· < ·)) (hf : ∀ x ∈ l, fitsP x = true) (h1 : 1 ≤ l.length) (h7 : l.length ≤ 7) : rightN lv (keysOf l) (valsOf l) = true := by
  unfold rightN
  rw [pairs_of_maps, ord_of l none (fun k hk => by cases hk) hs hf, decide_eq_true ⟨h0.1, h0.2, by rw [keys_len, vals_len], by rw [keys_len]; exact h1, by rw [keys_len]; exact h7⟩]
  rfl
theorem keys_take (l : List (Int × Int)) (k : Nat) : keysOf (l.take k) = (keysOf l).take k := by unfold keysOf; rw [List.map_take]
theorem keys_drop (l : List (Int × Int)) (k : Nat) : keysOf (l.drop k) = (keysOf l).drop k := by unfold keysOf; rw [List.map_drop]
theorem vals_take (l : List (Int × Int)) (k : Nat) : valsOf (l.take k) = (valsOf l).take k := by unfold valsOf; rw [List.map_take]
theorem vals_drop (l : List (Int × Int)) (k : Nat) : valsOf (l.drop k) = (valsOf l).drop k := by unfold valsOf; rw [List.map_drop]
/-- The nodes of a Put: one of one to seven keys, or two of four. -/
theorem put_cut {lv : Int} {ks vs : List Int} (h : rightN lv ks vs = true) (key val : Int) :
    (cutOf lv (putL ks vs key val) = [nodeOf lv (putL ks vs key val)] ∧ 1 ≤ (putL ks vs key val).length ∧ (putL ks vs key val).length ≤ 7) ∨
    (cutOf lv (putL ks vs key val) = [nodeOf lv ((putL ks vs key val).take 4), nodeOf lv ((putL ks vs key val).drop 4)] ∧ (putL ks vs key val).length = 8) := by
  obtain ⟨_, _, _, h4, h5, _, _⟩ := rightN_ok h
  have hl := put_len h key val
  by_cases h7 : (putL ks vs key val).length ≤ 7
  · refine .inl ⟨?_, ?_, h7⟩
    · unfold cutOf
      rw [if_neg (by rw [hl]; split <;> omega), if_pos h7]
    · rw [hl]; split <;> omega
  · refine .inr ⟨?_, ?_⟩
    · unfold cutOf
      rw [if_neg (by omega), if_neg h7]
    · rw [hl] at h7 ⊢
      split at h7 <;> rename_i hc
      · omega
      · rw [if_neg hc]; omega

end Go.Proofs.Ytilepjkdfbhgcaa
