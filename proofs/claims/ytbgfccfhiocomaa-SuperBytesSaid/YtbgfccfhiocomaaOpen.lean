/- Arguments opened: a reading of a slice of bytes, of a slice of such, of a slice of ints, into the words of this claim. No program in sight. -/
import Derived.Test.YtbgfccfhiocomaaMem
import Derived.ProofKit
import Derived.OpenShut
import Derived.SizedLaws
import Derived.Deep.Slices
import Derived.Lib.SmallJoins
import Derived.ShutString
import Derived.ChangeOld
namespace Go.Proofs.Ytbgfccfhiocomaa
open Go.ChangeShapes Go.WideShapes Go.ChangeAt Go.RowKit Go.Deep

section
variable {H : Type} {enc : TypeId × Value → H} {P : Program} {w : World}

theorem addr_flat {a : Addr} {i : Nat} {v : Value} (h : w.cell? (a.add i) = some v) : a.add i = ⟨a.block, a.off + i, none⟩ ∧ a.block < w.heap.size := by
  have hs := World.cell?_spot h
  have hlt := block_lt_of_cell h
  unfold Addr.add at hs hlt ⊢
  split
  · rename_i h0
    subst h0
    simp only [if_true] at hs hlt
    obtain ⟨b, o, s⟩ := a
    simp_all
  · simp_all

theorem spot0 {a : Addr} {v : Value} (h : w.cell? (a.add 0) = some v) : a.spot = none := by
  have := World.cell?_spot h
  simpa [Addr.add] using this

theorem exists_list {α : Type} (d : α) (R : Nat → α → Prop) : ∀ n, (∀ i, i < n → ∃ x, R i x) → ∃ l : List α, l.length = n ∧ ∀ i, i < n → R i (l[i]?.getD d)
  | 0, _ => ⟨[], rfl, fun i h => absurd h (by omega)⟩
  | n + 1, h => by
    obtain ⟨l, hl, hr⟩ := exists_list d R n fun i hi => h i (by omega)
    obtain ⟨x, hx⟩ := h n (by omega)
    refine ⟨l ++ [x], by simp [hl], fun i hi => ?_⟩
    by_cases e : i < n
    · rw [List.getElem?_append_left (by omega)]; exact hr i e
    · obtain rfl : i = n := by omega
      rw [List.getElem?_append_right (by omega), hl, Nat.sub_self]; exact hx

theorem mem_weightsAll {P : Program} {e : TypeId} {q : Nat} : ∀ {l : List (DataW H)} {d : DataW H}, d ∈ l → q ∈ d.weights P e → q ∈ DataW.weightsAll P e l
  | x :: l, d, hd, hq => by
    rw [DataW.weightsAll]
    rcases List.mem_cons.1 hd with rfl | hd
    · exact List.mem_append_left _ hq
    · exact List.mem_append_right _ (mem_weightsAll hd hq)

/-- What each element of a slice weighs, the slice weighs. -/
theorem weights_elem {t e : TypeId} {len cap i q : Nat} {D : Nat → DataW H} (ht : P.underlying t = some (.slice e)) (hl : len ≤ cap) (hi : i < cap) (hq : q ∈ (D i).weights P e) :
    q ∈ (DataW.slice ((List.range len).map D) ((List.range (cap - len)).map fun j => D (len + j))).weights P t := by
  simp only [DataW.weights, ht]
  refine List.mem_cons_of_mem _ ?_
  by_cases h : i < len
  · exact List.mem_append_left _ (mem_weightsAll (List.mem_map.2 ⟨i, List.mem_range.2 h, rfl⟩) hq)
  · exact List.mem_append_right _ (mem_weightsAll (List.mem_map.2 ⟨i - len, List.mem_range.2 (by omega), by rw [show len + (i - len) = i by omega]⟩) hq)

/-- What the slice itself weighs. -/
theorem weight_slice {t e : TypeId} {len cap B : Nat} {D : Nat → DataW H} (ht : P.underlying t = some (.slice e)) (hl : len ≤ cap) (hB : P.bytesOf e = B)
    (hsz : ∀ q ∈ (DataW.slice ((List.range len).map D) ((List.range (cap - len)).map fun j => D (len + j))).weights P t, q ≤ reachBytes) : cap * B ≤ 140737488351232 := by
  have := hsz _ (by simp only [DataW.weights, ht]; exact List.mem_cons_self ..)
  simp only [List.length_map, List.length_range, hB, reachBytes] at this
  rw [show len + (cap - len) = cap by omega] at this
  exact this

theorem open_bytes {t e : TypeId} {fuel : Nat} {cs : List Value} {x : DataW H × List MemPlace} (ht : P.underlying t = some (.slice e)) (he : P.underlying e = some (.int .u8)) (hc : P.cellsOf e = 1) (hby : P.bytesOf e = 1)
    (h : DataW.trod enc P w 0 (fun _ => true) true fuel t cs = some x) (hsz : ∀ q ∈ x.1.weights P t, q ≤ reachBytes) :
    ∃ a n c l, cs = [.slice a n c] ∧ n ≤ c ∧ c ≤ 140737488351232 ∧ BS w w.heap.size a n l := by
  rcases open_ints ht he hc h with ⟨rfl, rfl⟩ | ⟨a, len, cap, zs, rfl, _, hl, hm, hz, rfl, hcell, hwz⟩
  · exact ⟨none, 0, 0, [], rfl, by omega, by omega, BS.nil⟩
  · simp only [if_true] at hz
    have hcap : cap ≤ 140737488351232 := by
      have := hsz (((lits (H := H) .u8 (zs.take len)).length + (lits (H := H) .u8 (zs.drop len)).length) * P.bytesOf e) (by simp [DataW.weights, ht])
      rw [hby] at this
      simp only [lits, List.length_map, List.length_take, List.length_drop, reachBytes] at this
      omega
    have hok : ∀ z ∈ zs, 0 ≤ z ∧ z < 256 := by
      intro z hz'
      have := hwz z hz'
      simp [Lit.wf, IntKind.min, IntKind.max, IntKind.bits, IntKind.signed] at this
      omega
    refine ⟨some a, len, cap, zs.take len, rfl, hl, hcap, ⟨by rw [List.length_map, List.length_take]; omega, fun j hj => ?_⟩, fun z hz' => hok z (List.mem_of_mem_take hz')⟩
    have hj' : j < zs.length := by omega
    have h1 := hcell j hj'
    have hf := addr_flat h1
    have hs0 := spot0 (hcell 0 (by omega))
    refine ⟨a.block, a.off, by obtain ⟨b, o, s⟩ := a; simp_all, hf.2, ?_⟩
    rw [← hf.1, h1, List.getElem?_map, List.getElem?_take, if_pos (by omega), List.getElem?_eq_getElem hj']
    simp [u8, List.getElem?_eq_getElem hj']

theorem open_bss {t s e : TypeId} {fuel : Nat} {cs : List Value} {x : DataW H × List MemPlace} (ht : P.underlying t = some (.slice s)) (hcs : P.cellsOf s = 1) (hbs : P.bytesOf s = 24)
    (hs : P.underlying s = some (.slice e)) (he : P.underlying e = some (.int .u8)) (hc : P.cellsOf e = 1) (hby : P.bytesOf e = 1)
    (h : DataW.trod enc P w 0 (fun _ => true) true fuel t cs = some x) (hsz : ∀ q ∈ x.1.weights P t, q ≤ reachBytes) :
    ∃ a n c ls, cs = [.slice a n c] ∧ n ≤ c ∧ c * 24 ≤ 140737488351232 ∧ BSS w w.heap.size a n ls := by
  rcases open_slice ht h with ⟨rfl, rfl⟩ | ⟨a, len, cap, m, fu, D, Pl, rfl, _, hl, hm, hmm, rfl, hi⟩
  · exact ⟨none, 0, 0, [], rfl, by omega, by omega, ⟨rfl, fun j hj => absurd hj (by omega)⟩⟩
  · simp only [if_true] at hmm
    obtain rfl : m = cap := hmm
    rw [hcs] at hi
    have hw := weight_slice ht hl hbs hsz
    have each : ∀ i, i < len → ∃ l, ∃ b o, some a = some ⟨b, o, none⟩ ∧ b < w.heap.size ∧ ∃ a' n' c', w.cell? ⟨b, o + i, none⟩ = some (.slice a' n' c') ∧ CapOk n' c' ∧ BS w w.heap.size a' n' l := by
      intro i hil
      have cell1 : ∀ k, k < len → ∃ v, w.cell? (a.add k) = some v ∧ DataW.trod enc P w 0 (fun _ => true) true fu s [v] = some (D k, Pl k) := by
        intro k hk
        obtain ⟨cs', hcc, htr⟩ := hi k (by omega)
        obtain ⟨_, hcl, hat⟩ := World.cells?_some hcc
        match cs', hcl with
        | [v], _ => exact ⟨v, by have := hat 0 (by omega); simpa [Addr.add] using this, htr⟩
      obtain ⟨v, hv, htr⟩ := cell1 i hil
      obtain ⟨v0, hv0, _⟩ := cell1 0 (by omega)
      obtain ⟨a', n', c', l, e1, h1, h2, h3⟩ := open_bytes hs he hc hby htr (fun q hq => hsz q (weights_elem ht hl (by omega) hq))
      obtain rfl : v = .slice a' n' c' := by simpa using e1
      have hf := addr_flat hv
      have hs0 := spot0 hv0
      exact ⟨l, a.block, a.off, by obtain ⟨b, o, s⟩ := a; simp_all, hf.2, a', n', c', by rw [← hf.1, hv], ⟨h1, by unfold maxLen; omega, by omega⟩, h3⟩
    obtain ⟨ls, hlen, hls⟩ := exists_list [] _ len each
    exact ⟨some a, len, _, ls, rfl, hl, hw, hlen, hls⟩
theorem open_is {t e : TypeId} {fuel : Nat} {cs : List Value} {x : DataW H × List MemPlace} (ht : P.underlying t = some (.slice e)) (he : P.underlying e = some (.int .i64)) (hc : P.cellsOf e = 1) (hby : P.bytesOf e = 8)
    (h : DataW.trod enc P w 0 (fun _ => true) true fuel t cs = some x) (hsz : ∀ q ∈ x.1.weights P t, q ≤ reachBytes) :
    ∃ a n c l, cs = [.slice a n c] ∧ n ≤ c ∧ c * 8 ≤ 140737488351232 ∧ IS w w.heap.size a n l := by
  rcases open_ints ht he hc h with ⟨rfl, rfl⟩ | ⟨a, len, cap, zs, rfl, _, hl, hm, hz, rfl, hcell, hwz⟩
  · exact ⟨none, 0, 0, [], rfl, by omega, by omega, IS.nil⟩
  · simp only [if_true] at hz
    have hcap : cap * 8 ≤ 140737488351232 := by
      have := hsz (((lits (H := H) .i64 (zs.take len)).length + (lits (H := H) .i64 (zs.drop len)).length) * P.bytesOf e) (by simp [DataW.weights, ht])
      rw [hby] at this
      simp only [lits, List.length_map, List.length_take, List.length_drop, reachBytes] at this
      omega
    have hok : ∀ z ∈ zs, I64 z := by
      intro z hz'
      have := hwz z hz'
      simp [Lit.wf, IntKind.min, IntKind.max, IntKind.bits, IntKind.signed] at this
      unfold I64
      omega
    refine ⟨some a, len, cap, zs.take len, rfl, hl, hcap, ⟨by rw [List.length_map, List.length_take]; omega, fun j hj => ?_⟩, fun z hz' => hok z (List.mem_of_mem_take hz')⟩
    have hj' : j < zs.length := by omega
    have h1 := hcell j hj'
    have hf := addr_flat h1
    have hs0 := spot0 (hcell 0 (by omega))
    refine ⟨a.block, a.off, by obtain ⟨b, o, s⟩ := a; simp_all, hf.2, ?_⟩
    rw [← hf.1, h1, List.getElem?_map, List.getElem?_take, if_pos (by omega), List.getElem?_eq_getElem hj']
    simp [i64v, List.getElem?_eq_getElem hj']

/-! ## One value's reading, by kinds -/
theorem fd_bytes {t e : TypeId} {fuel : Nat} {v : Value} {x : DataW H × List MemPlace} (h : DataW.trod enc P w 0 (fun _ => true) true fuel t [v] = some x) (ht : P.underlying t = some (.slice e)) (he : P.underlying e = some (.int .u8)) (hc : P.cellsOf e = 1) (hby : P.bytesOf e = 1)
    (hsz : ∀ q ∈ x.1.weights P t, q ≤ reachBytes) : ∃ a n c l, v = .slice a n c ∧ n ≤ c ∧ c ≤ 140737488351232 ∧ BS w w.heap.size a n l := by
  obtain ⟨a, n, c, l, h1, h2⟩ := open_bytes ht he hc hby h hsz
  exact ⟨a, n, c, l, by simpa using h1, h2⟩
theorem fd_ints {t e : TypeId} {fuel : Nat} {v : Value} {x : DataW H × List MemPlace} (h : DataW.trod enc P w 0 (fun _ => true) true fuel t [v] = some x) (ht : P.underlying t = some (.slice e)) (he : P.underlying e = some (.int .i64)) (hc : P.cellsOf e = 1) (hby : P.bytesOf e = 8)
    (hsz : ∀ q ∈ x.1.weights P t, q ≤ reachBytes) : ∃ a n c l, v = .slice a n c ∧ n ≤ c ∧ c * 8 ≤ 140737488351232 ∧ IS w w.heap.size a n l := by
  obtain ⟨a, n, c, l, h1, h2⟩ := open_is ht he hc hby h hsz
  exact ⟨a, n, c, l, by simpa using h1, h2⟩
theorem fd_bss {t s e : TypeId} {fuel : Nat} {v : Value} {x : DataW H × List MemPlace} (h : DataW.trod enc P w 0 (fun _ => true) true fuel t [v] = some x) (ht : P.underlying t = some (.slice s)) (hcs : P.cellsOf s = 1) (hbs : P.bytesOf s = 24)
    (hs : P.underlying s = some (.slice e)) (he : P.underlying e = some (.int .u8)) (hc : P.cellsOf e = 1) (hby : P.bytesOf e = 1) (hsz : ∀ q ∈ x.1.weights P t, q ≤ reachBytes) :
    ∃ a n c ls, v = .slice a n c ∧ n ≤ c ∧ c * 24 ≤ 140737488351232 ∧ BSS w w.heap.size a n ls := by
  obtain ⟨a, n, c, l, h1, h2⟩ := open_bss ht hcs hbs hs he hc hby h hsz
  exact ⟨a, n, c, l, by simpa using h1, h2⟩
theorem fd_int {t : TypeId} {fuel : Nat} {v : Value} {x : DataW H × List MemPlace} (h : DataW.trod enc P w 0 (fun _ => true) true fuel t [v] = some x) (ht : P.underlying t = some (.int .i64)) : ∃ n, v = .int .i64 n ∧ I64 n := by
  obtain ⟨n, h1, _, h2⟩ := DataW.trod_int ht h
  refine ⟨n, by simpa using h1, ?_⟩
  simp [Lit.wf, IntKind.min, IntKind.max, IntKind.bits, IntKind.signed] at h2
  unfold I64
  omega
theorem fd_u8 {t : TypeId} {fuel : Nat} {v : Value} {x : DataW H × List MemPlace} (h : DataW.trod enc P w 0 (fun _ => true) true fuel t [v] = some x) (ht : P.underlying t = some (.int .u8)) : ∃ n, v = .int .u8 n ∧ 0 ≤ n ∧ n < 256 := by
  obtain ⟨n, h1, _, h2⟩ := DataW.trod_int ht h
  refine ⟨n, by simpa using h1, ?_⟩
  simp [Lit.wf, IntKind.min, IntKind.max, IntKind.bits, IntKind.signed] at h2
  omega
theorem fd_bool {t : TypeId} {fuel : Nat} {v : Value} {x : DataW H × List MemPlace} (h : DataW.trod enc P w 0 (fun _ => true) true fuel t [v] = some x) (ht : P.underlying t = some .bool) : ∃ b, v = .bool b := by
  obtain ⟨b, h1, _⟩ := DataW.trod_bool ht h
  exact ⟨b, by simpa using h1⟩
/-- What a struct's field weighs, the struct weighs. -/
theorem weights_field {t : TypeId} {fs : Array Field} {parts : List (DataW H)} {j : Nat} {f : Field} {d : DataW H} {q : Nat} (hs : P.underlying t = some (.struct fs)) (hf : fs[j]? = some f) (hd : parts[j]? = some d) (hq : q ∈ d.weights P f.type) :
    q ∈ (DataW.agg parts).weights P t := by
  simp only [DataW.weights, hs]
  exact DataW.weights_mem_each (by rw [List.getElem?_map, Array.getElem?_toList, hf]; rfl) hd q hq
theorem trod_cells {t : TypeId} {v : Value} {d : DataW H} {p : List MemPlace} (h : DataW.Trod enc P w 0 (fun _ => true) true t v d p) (hv : v.cells.toList = [v]) : ∃ fuel, DataW.trod enc P w 0 (fun _ => true) true fuel t [v] = some (d, p) := by
  obtain ⟨fuel, hf⟩ := h
  exact ⟨fuel, by rw [← hv]; exact hf⟩
end

end Go.Proofs.Ytbgfccfhiocomaa
