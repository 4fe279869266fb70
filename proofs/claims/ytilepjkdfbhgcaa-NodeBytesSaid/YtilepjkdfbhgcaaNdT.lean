/- Plain laws: rising pairs, one taken out. No program in sight. -/
import Derived.Test.YtilepjkdfbhgcaaNdS
namespace Go.Proofs.Ytilepjkdfbhgcaa

/-- Pairs that rise and fit. -/
structure Rise (l : List (Int × Int)) : Prop where
  rise : (keysOf l).Pairwise (· < ·)
  fit : ∀ x ∈ l, fitsP x = true
theorem Rise.right {lv : Int} {l : List (Int × Int)} (h : Rise l) (h0 : 0 ≤ lv ∧ lv ≤ 20) (h1 : 1 ≤ l.length) (h7 : l.length ≤ 7) : rightN lv (keysOf l) (valsOf l) = true := right_of h0 h.rise h.fit h1 h7
theorem Rise.of {lv : Int} {ks vs : List Int} (h : rightN lv ks vs = true) : Rise (pairsOf ks vs) := by
  obtain ⟨_, _, h3, _, _, h6, h7⟩ := rightN_ok h
  exact ⟨by rw [keys_pairs h3]; exact h6, h7⟩
theorem Rise.sub {l m : List (Int × Int)} (h : Rise l) (hs : m.Sublist l) : Rise m := ⟨h.rise.sublist (hs.map _), fun x hx => h.fit x (hs.subset hx)⟩
theorem Rise.put {lv : Int} {ks vs : List Int} (h : rightN lv ks vs = true) {key val : Int} (hf : fitsP (key, val) = true) : Rise (putL ks vs key val) :=
  ⟨by rw [keys_put h]; exact ins_rise (rightN_ok h).2.2.2.2.2.1 key, put_ok_mem h hf⟩
theorem dropL_at {l : List (Int × Int)} (h : Rise l) {j : Nat} {k : Int} (hk : (keysOf l)[j]? = some k) : dropL (keysOf l) (valsOf l) k = l.eraseIdx j := by
  unfold dropL
  rw [pairs_of_maps, low_at h.rise hk, List.eraseIdx_eq_take_drop_succ]
theorem drop_at {lv : Int} {l : List (Int × Int)} (h : Rise l) (h0 : 0 ≤ lv ∧ lv ≤ 20) (h7 : l.length ≤ 7) {j : Nat} {k : Int} (hk : (keysOf l)[j]? = some k) : dropOf lv (keysOf l) (valsOf l) k = (0, nodeOf lv (l.eraseIdx j)) := by
  have hj := (List.getElem?_eq_some_iff.1 hk).1
  rw [keys_len] at hj
  unfold dropOf
  rw [if_neg (by rw [h.right h0 (by omega) h7]; decide), if_neg (by rw [show (keysOf l).contains k = true by simpa using List.mem_of_getElem? hk]; decide), dropL_at h hk]
theorem erase_not {l : List (Int × Int)} (h : Rise l) {j : Nat} {k : Int} (hk : (keysOf l)[j]? = some k) : (keysOf (l.eraseIdx j)).contains k = false := by
  have hr := h.rise
  obtain ⟨hj, he⟩ := List.getElem?_eq_some_iff.1 hk
  rw [Bool.eq_false_iff]
  intro hc
  have hm : k ∈ keysOf (l.eraseIdx j) := by simpa using hc
  unfold keysOf at hm hr hj he
  rw [List.eraseIdx_eq_take_drop_succ, List.map_append, List.map_take, List.map_drop] at hm
  rcases List.mem_append.1 hm with hm | hm
  · obtain ⟨i, hi, h2⟩ := List.getElem_of_mem hm
    rw [List.length_take] at hi
    rw [List.getElem_take] at h2
    have := List.pairwise_iff_getElem.1 hr i j (by omega) hj (by omega)
    omega
  · obtain ⟨i, hi, h2⟩ := List.getElem_of_mem hm
    rw [List.length_drop] at hi
    rw [List.getElem_drop] at h2
    have := List.pairwise_iff_getElem.1 hr j (j + 1 + i) hj (by omega) (by omega)
    omega
theorem find_no {ks : List Int} {k : Int} (h : ks.contains k = false) : findOf ks k = ((lowOf ks k : Int) - 1, false) := if_neg (by rw [h]; decide)
theorem drop_no {lv : Int} {ks vs : List Int} (h : rightN lv ks vs = true) {k : Int} (hc : ks.contains k = false) : dropOf lv ks vs k = (81, (0, [], [])) := by
  unfold dropOf
  rw [if_neg (by rw [h]; decide), if_pos hc]
theorem drop_bad {lv : Int} {ks vs : List Int} (h : rightN lv ks vs = false) (k : Int) : dropOf lv ks vs k = (70, (0, [], [])) := if_pos h

end Go.Proofs.Ytilepjkdfbhgcaa
