/- A slice whose elements are any shape: a reading of each element's cells, opened out of an argument. No program in sight. -/
import Derived.Test.YtbgfccfhiocomaaOpen
namespace Go.Proofs.Ytbgfccfhiocomaa
open Go.ChangeShapes Go.WideShapes Go.ChangeAt Go.RowKit Go.Deep

/-- The slice (a, n), k cells to the element, reads as the list xs: R tells what an element's cells say. Its block lies below B. -/
def RS {α : Type} (R : List Value → α → Prop) (k : Nat) (w : World) (B : Nat) (a : Option Addr) (n : Nat) (xs : List α) : Prop :=
  xs.length = n ∧ ∀ j, j < n → ∃ b o cs x, a = some ⟨b, o, none⟩ ∧ b < B ∧ cs.length = k ∧ (∀ (i : Nat) (v : Value), cs[i]? = some v → w.cell? ⟨b, o + j * k + i, none⟩ = some v) ∧ xs[j]? = some x ∧ R cs x
section
variable {α : Type} {R R' : List Value → α → Prop} {k : Nat} {w w' : World} {B B' n : Nat} {a : Option Addr} {xs : List α}
theorem RS.keep (h : RS R k w B a n xs) (hk : ∀ b, b < B → w'.heap[b]? = w.heap[b]?) (hr : ∀ cs x, R cs x → R' cs x) : RS R' k w' B a n xs :=
  ⟨h.1, fun j hj => by
    obtain ⟨b, o, cs, x, e, hb, hl, hc, hx, hR⟩ := h.2 j hj
    exact ⟨b, o, cs, x, e, hb, hl, fun i v hi => (World.cell?_of_block (w := w) (hk b hb)).trans (hc i v hi), hx, hr _ _ hR⟩⟩
theorem RS.below (h : RS R k w B a n xs) (hb : Below B w w') : RS R k w' B a n xs := h.keep (fun b hh => hb.block b hh) fun _ _ h => h
theorem RS.below' (h : RS R k w B a n xs) (hb : Below B' w w') (hB : B ≤ B') : RS R k w' B a n xs := h.keep (fun b hh => hb.block b (by omega)) fun _ _ h => h
theorem RS.more (h : RS R k w B a n xs) (hB : B ≤ B') : RS R k w B' a n xs :=
  ⟨h.1, fun j hj => by
    obtain ⟨b, o, cs, x, e, hb, h2⟩ := h.2 j hj
    exact ⟨b, o, cs, x, e, by omega, h2⟩⟩
theorem RS.nil : RS R k w B a 0 [] := ⟨rfl, fun j hj => absurd hj (by omega)⟩
end

section
variable {H : Type} {enc : TypeId × Value → H} {P : Program} {w : World}

theorem exists_list' {α : Type} (R : Nat → α → Prop) : ∀ n, (∀ i, i < n → ∃ x, R i x) → ∃ l : List α, l.length = n ∧ ∀ i, i < n → ∃ x, l[i]? = some x ∧ R i x
  | 0, _ => ⟨[], rfl, fun i h => absurd h (by omega)⟩
  | n + 1, h => by
    obtain ⟨l, hl, hr⟩ := exists_list' R n fun i hi => h i (by omega)
    obtain ⟨x, hx⟩ := h n (by omega)
    refine ⟨l ++ [x], by simp [hl], fun i hi => ?_⟩
    by_cases e : i < n
    · obtain ⟨y, hy, hR⟩ := hr i e
      exact ⟨y, by rw [List.getElem?_append_left (by omega)]; exact hy, hR⟩
    · obtain rfl : i = n := by omega
      exact ⟨x, by rw [List.getElem?_append_right (by omega), hl, Nat.sub_self]; rfl, hx⟩

theorem open_rs {α : Type} {R : List Value → α → Prop} {t e : TypeId} {fuel k by_ : Nat} {cs : List Value} {x : DataW H × List MemPlace} (ht : P.underlying t = some (.slice e)) (hc : P.cellsOf e = k) (hk : 0 < k) (hby : P.bytesOf e = by_)
    (elem : ∀ (fu : Nat) (cs : List Value) (y : DataW H × List MemPlace), DataW.trod enc P w 0 (fun _ => true) true fu e cs = some y → (∀ q ∈ y.1.weights P e, q ≤ reachBytes) → ∃ z, R cs z)
    (h : DataW.trod enc P w 0 (fun _ => true) true fuel t cs = some x) (hsz : ∀ q ∈ x.1.weights P t, q ≤ reachBytes) :
    ∃ a n c xs, cs = [.slice a n c] ∧ n ≤ c ∧ c ≤ maxLen ∧ c * by_ ≤ 140737488351232 ∧ RS R k w w.heap.size a n xs := by
  rcases open_slice ht h with ⟨rfl, rfl⟩ | ⟨a, len, cap, m, fu, D, Pl, rfl, _, hl, hm, hmm, rfl, hi⟩
  · exact ⟨none, 0, 0, [], rfl, by omega, by omega, by omega, RS.nil⟩
  · simp only [if_true] at hmm
    obtain rfl : m = cap := hmm
    rw [hc] at hi
    have hw := weight_slice ht hl hby hsz
    have each : ∀ i, i < len → ∃ z : α, ∃ b o cs, some a = some ⟨b, o, none⟩ ∧ b < w.heap.size ∧ cs.length = k ∧ (∀ (j : Nat) (v : Value), cs[j]? = some v → w.cell? ⟨b, o + i * k + j, none⟩ = some v) ∧ R cs z := by
      intro i hil
      obtain ⟨cs', hcc, htr⟩ := hi i (by omega)
      obtain ⟨_, hcl, hat⟩ := World.cells?_some hcc
      obtain ⟨cs0, hcc0, _⟩ := hi 0 (by omega)
      obtain ⟨_, hcl0, hat0⟩ := World.cells?_some hcc0
      have h00 := hat0 0 (by omega)
      obtain ⟨v00, hv00⟩ : ∃ v, cs0[0]? = some v := ⟨_, List.getElem?_eq_getElem (by omega)⟩
      rw [hv00] at h00
      have hsp : a.spot = none := by
        have := World.cell?_spot h00
        simpa [Addr.add] using this
      obtain ⟨b, o, s⟩ := a
      simp only at hsp
      subst hsp
      obtain ⟨z, hz⟩ := elem fu cs' _ htr (fun q hq => hsz q (weights_elem ht hl (by omega) hq))
      have haddr : ∀ p : Nat, (⟨b, o, none⟩ : Addr).add p = ⟨b, o + p, none⟩ := by
        intro p
        unfold Addr.add
        split <;> simp_all
      refine ⟨z, b, o, cs', rfl, ?_, hcl, fun j v hj => ?_, hz⟩
      · have := block_lt_of_cell h00
        simpa [Addr.add] using this
      · have hj' : j < cs'.length := (List.getElem?_eq_some_iff.1 hj).1
        have := hat j (by omega)
        rw [haddr, hj] at this
        have e2 : (⟨b, o + i * k, none⟩ : Addr).add j = ⟨b, o + i * k + j, none⟩ := by
          unfold Addr.add
          split <;> simp_all
        rw [e2] at this
        exact this
    obtain ⟨xs, hlen, hxs⟩ := exists_list' _ len each
    refine ⟨some a, len, _, xs, rfl, hl, hm, hw, hlen, fun j hj => ?_⟩
    obtain ⟨z, hz, b, o, cs, h1, h2, h3, h4, h5⟩ := hxs j hj
    exact ⟨b, o, cs, z, h1, h2, h3, h4, hz, h5⟩

/-! ## Elements of two ints -/
/-- Two ints. -/
def R2i (cs : List Value) (p : Int × Int) : Prop := cs = [.int .i64 p.1, .int .i64 p.2] ∧ I64 p.1 ∧ I64 p.2
theorem read_2i {s i : TypeId} {f0 f1 : Field} (hs : P.underlying s = some (.struct #[f0, f1])) (t0 : f0.type = i) (t1 : f1.type = i) (o0 : f0.offset = 0) (o1 : f1.offset = 1) (hi : P.underlying i = some (.int .i64)) (ci : P.cellsOf i = 1) (cs2 : P.cellsOf s = 2)
    (fu : Nat) (cs : List Value) (y : DataW H × List MemPlace) (h : DataW.trod enc P w 0 (fun _ => true) true fu s cs = some y) : ∃ z, R2i cs z := by
  obtain ⟨xs, n, rfl, rfl, hl, hxl, hf⟩ := DataW.trod_struct hs h
  rw [cs2] at hl
  match cs, hl, xs, hxl with
  | [v0, v1], _, [y0, y1], _ =>
    have g0 := hf 0 f0 rfl
    have g1 := hf 1 f1 rfl
    rw [t0, o0, ci] at g0
    rw [t1, o1, ci] at g1
    obtain ⟨x0, e0, k0⟩ := fd_int (v := v0) (x := y0) (by simpa using g0) hi
    obtain ⟨x1, e1, k1⟩ := fd_int (v := v1) (x := y1) (by simpa using g1) hi
    subst e0
    subst e1
    exact ⟨(x0, x1), rfl, k0, k1⟩
theorem fd_2is {t s i : TypeId} {f0 f1 : Field} {fuel : Nat} {v : Value} {x : DataW H × List MemPlace} (h : DataW.trod enc P w 0 (fun _ => true) true fuel t [v] = some x) (ht : P.underlying t = some (.slice s)) (hs : P.underlying s = some (.struct #[f0, f1]))
    (t0 : f0.type = i) (t1 : f1.type = i) (o0 : f0.offset = 0) (o1 : f1.offset = 1) (hi : P.underlying i = some (.int .i64)) (ci : P.cellsOf i = 1) (cs2 : P.cellsOf s = 2) (hby : P.bytesOf s = 16) (hsz : ∀ q ∈ x.1.weights P t, q ≤ reachBytes) :
    ∃ a n c l, v = .slice a n c ∧ n ≤ c ∧ c * 16 ≤ 140737488351232 ∧ RS R2i 2 w w.heap.size a n l := by
  obtain ⟨a, n, c, l, h1, h2, _, h3, h4⟩ := open_rs ht cs2 (by omega) hby (fun fu cs y hh _ => read_2i hs t0 t1 o0 o1 hi ci cs2 fu cs y hh) h hsz
  exact ⟨a, n, c, l, by simpa using h1, h2, h3, h4⟩

end
end Go.Proofs.Ytbgfccfhiocomaa
