/- Plain laws for NodeBack: the parts of a Put's pairs. No program in sight. -/
import Derived.Test.YtilepjkdfbhgcaaNdT
namespace Go.Proofs.Ytilepjkdfbhgcaa

theorem keys_get (l : List (Int × Int)) (j : Nat) : (keysOf l)[j]? = l[j]?.map fun x => x.1 := by unfold keysOf; rw [List.getElem?_map]
theorem vals_get (l : List (Int × Int)) (j : Nat) : (valsOf l)[j]? = l[j]?.map fun x => x.2 := by unfold valsOf; rw [List.getElem?_map]
/-- The place of a pair among rising ones. -/
theorem Rise.place {l : List (Int × Int)} (h : Rise l) {x : Int × Int} (hx : x ∈ l) : ∃ j, l[j]? = some x ∧ (keysOf l).contains x.1 = true ∧ lowOf (keysOf l) x.1 = j ∧ (valsOf l)[j]? = some x.2 ∧ (keysOf l)[j]? = some x.1 := by
  obtain ⟨j, hj, rfl⟩ := List.getElem_of_mem hx
  have h1 : l[j]? = some l[j] := List.getElem?_eq_getElem hj
  have h2 : (keysOf l)[j]? = some l[j].1 := by rw [keys_get, h1]; rfl
  exact ⟨j, h1, by simpa using List.mem_of_getElem? h2, low_at h.rise h2, by rw [vals_get, h1]; rfl, h2⟩
theorem Rise.found {l : List (Int × Int)} (h : Rise l) {k : Int} (hc : (keysOf l).contains k = true) : ∃ (j : Nat) (v : Int), l[j]? = some (k, v) ∧ lowOf (keysOf l) k = j ∧ (valsOf l)[j]? = some v ∧ (keysOf l)[j]? = some k := by
  have hm : k ∈ keysOf l := by simpa using hc
  obtain ⟨x, hx, rfl⟩ := List.mem_map.1 hm
  obtain ⟨j, h1, _, h2, h3, h4⟩ := h.place hx
  exact ⟨j, x.2, h1, h2, h3, h4⟩
theorem Rise.unique {l : List (Int × Int)} (h : Rise l) {k u v : Int} (hu : (k, u) ∈ l) (hv : (k, v) ∈ l) : u = v := by
  obtain ⟨i, h1, _, h2, _, _⟩ := h.place hu
  obtain ⟨j, g1, _, g2, _, _⟩ := h.place hv
  have : i = j := h2.symm.trans g2
  subst this
  rw [h1] at g1
  injection g1 with g1
  injection g1
theorem put_old {ks vs : List Int} {key val : Int} {x : Int × Int} (hx : x ∈ putL ks vs key val) (hne : x.1 ≠ key) : x ∈ pairsOf ks vs := by
  unfold putL at hx
  split at hx
  · rcases List.mem_or_eq_of_mem_set hx with h | h
    · exact h
    · rw [h] at hne; exact absurd rfl hne
  · rcases List.mem_append.1 hx with h | h
    · exact List.mem_of_mem_take h
    · rcases List.mem_cons.1 h with h | h
      · rw [h] at hne; exact absurd rfl hne
      · exact List.mem_of_mem_drop h
theorem put_mem {lv : Int} {ks vs : List Int} (h : rightN lv ks vs = true) (key val : Int) : (key, val) ∈ putL ks vs key val := by
  obtain ⟨_, _, h3, _, _, h6, _⟩ := rightN_ok h
  unfold putL
  cases hc : ks.contains key with
  | true =>
    rw [if_pos rfl]
    have hl := low_lt h6 hc
    exact List.mem_of_getElem? (i := lowOf ks key) (List.getElem?_set_self (by rw [pairs_len h3]; exact hl))
  | false =>
    rw [if_neg (by decide)]
    exact List.mem_append_right _ (List.mem_cons_self ..)
/-- What is found of an old key in a part of a Put's pairs. -/
theorem part_old {lv : Int} {ks vs : List Int} (h : rightN lv ks vs = true) {key val : Int} {p : List (Int × Int)} (hp : Rise p) (hs : p.Sublist (putL ks vs key val)) {k : Nat} {old v : Int} (hk : ks[k]? = some old) (hv : vs[k]? = some v) (hne : old ≠ key)
    (hc : (keysOf p).contains old = true) : (valsOf p)[lowOf (keysOf p) old]? = some v := by
  obtain ⟨j, u, h1, h2, h3, _⟩ := hp.found hc
  rw [h2, h3]
  have hm := put_old (hs.subset (List.mem_of_getElem? h1)) hne
  have hm2 : (old, v) ∈ pairsOf ks vs := List.mem_of_getElem? (show (pairsOf ks vs)[k]? = some (old, v) by unfold pairsOf; rw [List.getElem?_zip_eq_some]; exact ⟨hk, hv⟩)
  rw [(Rise.of h).unique hm hm2]
/-- In which of the two parts the key lies. -/
theorem part_key {lv : Int} {ks vs : List Int} (h : rightN lv ks vs = true) {key val : Int} (hf : fitsP (key, val) = true) (h8 : (putL ks vs key val).length = 8) {k0 : Int} (h0 : (keysOf ((putL ks vs key val).drop 4))[0]? = some k0) :
    (key < k0 → (key, val) ∈ (putL ks vs key val).take 4) ∧ (k0 ≤ key → (key, val) ∈ (putL ks vs key val).drop 4) := by
  have hm := put_mem h key val
  have hr := Rise.put h hf
  rw [← List.take_append_drop 4 (putL ks vs key val)] at hm
  obtain ⟨j0, hj0, he0⟩ : ∃ x, (putL ks vs key val)[4]? = some x ∧ x.1 = k0 := by
    rw [keys_get, List.getElem?_drop, List.getElem?_eq_getElem (by omega)] at h0
    exact ⟨_, List.getElem?_eq_getElem (by omega), by simpa using h0⟩
  constructor
  · intro hlt
    rcases List.mem_append.1 hm with h1 | h1
    · exact h1
    · exfalso
      obtain ⟨i, hi, he⟩ := List.getElem_of_mem h1
      rw [List.length_drop] at hi
      rw [List.getElem_drop] at he
      have h2 : (keysOf (putL ks vs key val))[4]? = some k0 := by rw [keys_get, hj0, Option.map_some, he0]
      have h3 : (keysOf (putL ks vs key val))[4 + i]? = some key := by rw [keys_get, List.getElem?_eq_getElem (by omega), he]; rfl
      rcases Nat.eq_zero_or_pos i with h4 | h4
      · subst h4
        rw [h2] at h3
        injection h3 with h3
        omega
      · have := rise_lt hr.rise h2 h3 (by omega)
        omega
  · intro hle
    rcases List.mem_append.1 hm with h1 | h1
    · exfalso
      obtain ⟨i, hi, he⟩ := List.getElem_of_mem h1
      rw [List.length_take] at hi
      rw [List.getElem_take] at he
      have h2 : (keysOf (putL ks vs key val))[4]? = some k0 := by rw [keys_get, hj0, Option.map_some, he0]
      have h3 : (keysOf (putL ks vs key val))[i]? = some key := by rw [keys_get, List.getElem?_eq_getElem (by omega), he]; rfl
      have := rise_lt hr.rise h3 h2 (by omega)
      omega
    · exact h1
theorem Rise.drop_has {lv : Int} {l : List (Int × Int)} (h : Rise l) (h0 : 0 ≤ lv ∧ lv ≤ 20) (h7 : l.length ≤ 7) {j : Nat} {k : Int} (hk : (keysOf l)[j]? = some k) : dropOf lv (keysOf l) (valsOf l) k = (0, nodeOf lv (l.eraseIdx j)) := drop_at h h0 h7 hk

end Go.Proofs.Ytilepjkdfbhgcaa
