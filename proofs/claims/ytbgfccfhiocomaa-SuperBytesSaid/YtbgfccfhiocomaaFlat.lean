/- Lists of cells, k to the element; the place of the first that answers true. No program in sight. -/
import Derived.Test.YtbgfccfhiocomaaOpenRows
namespace Go.Proofs.Ytbgfccfhiocomaa
open Go.RowKit

theorem flat_get {α β : Type} (f : α → List β) (k : Nat) (hf : ∀ x, (f x).length = k) : ∀ (xs : List α) (j i : Nat), i < k → (xs.flatMap f)[j * k + i]? = xs[j]?.bind fun x => (f x)[i]?
  | [], j, i, _ => by simp
  | x :: xs, 0, i, hi => by
    rw [List.flatMap_cons, List.getElem?_append_left (by rw [hf]; omega)]
    simp
  | x :: xs, j + 1, i, hi => by
    rw [List.flatMap_cons, List.getElem?_append_right (by rw [hf, Nat.add_mul]; omega), hf, show (j + 1) * k + i - k = j * k + i by rw [Nat.add_mul]; omega, flat_get f k hf xs j i hi]
    rfl
theorem flat_len {α β : Type} (f : α → List β) (k : Nat) (hf : ∀ x, (f x).length = k) (xs : List α) : (xs.flatMap f).length = xs.length * k := by
  induction xs with
  | nil => simp
  | cons x xs ih => rw [List.flatMap_cons, List.length_append, hf, ih, List.length_cons, Nat.add_mul]; omega

/-- The place of the first that answers true, or -1. -/
def idxOf {α : Type} (p : α → Bool) (xs : List α) : Int := match xs.findIdx? p with | some i => i | none => -1
theorem idxOf_hit {α : Type} {p : α → Bool} {xs : List α} {i : Nat} {x : α} (hx : xs[i]? = some x) (hp : p x = true) (hn : ∀ j y, j < i → xs[j]? = some y → p y = false) : idxOf p xs = i := by
  have : xs.findIdx? p = some i := by
    rw [List.findIdx?_eq_some_iff_getElem]
    obtain ⟨hi, rfl⟩ := List.getElem?_eq_some_iff.1 hx
    refine ⟨hi, hp, fun j hj => ?_⟩
    have := hn j _ hj (List.getElem?_eq_getElem (by omega))
    simp [this]
  rw [idxOf, this]
theorem idxOf_miss {α : Type} {p : α → Bool} {xs : List α} (hn : ∀ (j : Nat) y, xs[j]? = some y → p y = false) : idxOf p xs = -1 := by
  have : xs.findIdx? p = none := by
    rw [List.findIdx?_eq_none_iff]
    intro x hx
    obtain ⟨j, hj, rfl⟩ := List.getElem_of_mem hx
    exact hn j _ (List.getElem?_eq_getElem hj)
  rw [idxOf, this]
theorem idxOf_any {α : Type} (p : α → Bool) (xs : List α) : decide (0 ≤ idxOf p xs) = xs.any p := by
  unfold idxOf
  cases h : xs.findIdx? p with
  | none =>
    rw [List.findIdx?_eq_none_iff] at h
    have : xs.any p = false := by rw [List.any_eq_false]; intro x hx; simp [h x hx]
    rw [this]
    rfl
  | some i =>
    have : xs.any p = true := by
      rw [List.findIdx?_eq_some_iff_getElem] at h
      obtain ⟨hi, hp, _⟩ := h
      exact List.any_eq_true.2 ⟨_, List.getElem_mem _, hp⟩
    rw [this]
    exact decide_eq_true (Int.natCast_nonneg i)
theorem any_all_not {α : Type} (p : α → Bool) (xs : List α) : (xs.any fun x => !p x) = !(xs.all p) := by
  induction xs with
  | nil => rfl
  | cons x xs ih => simp only [List.any_cons, List.all_cons, ih, Bool.not_and]

/-! ## Pairs of ints in slices -/
def enC (p : Int × Int) : List Value := [.int .i64 p.1, .int .i64 p.2]
def enV (p : Int × Int) : Value := .agg #[.int .i64 p.1, .int .i64 p.2]
def EnOk (p : Int × Int) : Prop := I64 p.1 ∧ I64 p.2
/-- The slice (a, n) of pairs reads as the list, its block below B. -/
def ES (w : World) (B : Nat) (a : Option Addr) (n : Nat) (xs : List (Int × Int)) : Prop := SL w B 2 a n (xs.flatMap enC) ∧ ∀ x ∈ xs, EnOk x
theorem enC_one (xs : List (Int × Int)) : ∀ u ∈ xs.flatMap enC, u.oneCell' = true := by
  intro u hu
  obtain ⟨s, _, hs⟩ := List.mem_flatMap.1 hu
  simp only [enC, List.mem_cons, List.not_mem_nil, or_false] at hs
  rcases hs with rfl | rfl <;> rfl
section
variable {w w' : World} {B B' n : Nat} {a : Option Addr} {xs : List (Int × Int)}
theorem ES.len (h : ES w B a n xs) : xs.length = n := by
  have := h.1.1
  rw [flat_len enC 2 (fun _ => rfl)] at this
  omega
theorem ES.keep (h : ES w B a n xs) (hk : ∀ b, b < B → w'.heap[b]? = w.heap[b]?) : ES w' B a n xs := ⟨h.1.keep hk, h.2⟩
theorem ES.below (h : ES w B a n xs) (hb : Below B w w') : ES w' B a n xs := ⟨h.1.below hb, h.2⟩
theorem ES.more (h : ES w B a n xs) (hB : B ≤ B') : ES w B' a n xs := ⟨h.1.more hB, h.2⟩
/-- On in a later world. -/
theorem ES.next (h : ES w w.heap.size a n xs) (hb : Below w.heap.size w w') : ES w' w'.heap.size a n xs := (h.below hb).more hb.size
theorem ES.nil : ES w B a 0 [] := ⟨SL.nil, fun x hx => by cases hx⟩
theorem ES.at_ (h : ES w B a n xs) {j : Nat} (hj : j < n) :
    ∃ b o x, a = some ⟨b, o, none⟩ ∧ b < B ∧ xs[j]? = some x ∧ EnOk x ∧ w.cell? ⟨b, o + j * 2, none⟩ = some (.int .i64 x.1) ∧ w.cell? ⟨b, o + j * 2 + 1, none⟩ = some (.int .i64 x.2) := by
  have hl := h.len
  have hx : xs[j]? = some xs[j] := List.getElem?_eq_getElem (by omega)
  obtain ⟨b, o, ha, hb, h0⟩ := h.1.2 (j * 2) (by omega)
  obtain ⟨b', o', ha', _, h1⟩ := h.1.2 (j * 2 + 1) (by omega)
  rw [ha] at ha'
  injection ha' with ha'
  injection ha' with e1 e2
  subst e1
  subst e2
  have g0 := flat_get enC 2 (fun _ => rfl) xs j 0 (by omega)
  have g1 := flat_get enC 2 (fun _ => rfl) xs j 1 (by omega)
  rw [hx] at g0 g1
  rw [Nat.add_zero] at g0
  refine ⟨b, o, xs[j], ha, hb, hx, h.2 _ (List.getElem_mem _), ?_, ?_⟩
  · rw [h0, g0]; rfl
  · rw [Nat.add_assoc, h1, g1]; rfl
theorem ES.of_own {base : Nat} {e : TypeId} {c : Nat} (h : w.ownsRow base e 2 (.slice a n c) n (xs.flatMap enC)) (ho : ∀ x ∈ xs, EnOk x) : ES w w.heap.size a n xs := ⟨SL.of_own h, ho⟩
theorem RS.pairs (h : RS R2i 2 w B a n xs) : ES w B a n xs := by
  have hl := h.1
  refine ⟨⟨by rw [flat_len enC 2 (fun _ => rfl), hl], fun j hj => ?_⟩, fun x hx => ?_⟩
  · obtain ⟨b, o, cs, x, ha, hb, _, hc, hx, rfl, _⟩ := h.2 (j / 2) (by omega)
    refine ⟨b, o, ha, hb, ?_⟩
    have hg := flat_get enC 2 (fun _ => rfl) xs (j / 2) (j % 2) (Nat.mod_lt _ (by omega))
    rw [hx] at hg
    have hj2 : j = j / 2 * 2 + j % 2 := by omega
    rw [← hj2] at hg
    rw [hg]
    have : j % 2 = 0 ∨ j % 2 = 1 := by omega
    rcases this with e | e
    · rw [show o + j = o + j / 2 * 2 + 0 by omega, hc 0 _ rfl, e]; rfl
    · rw [show o + j = o + j / 2 * 2 + 1 by omega, hc 1 _ rfl, e]; rfl
  · obtain ⟨j, hj, rfl⟩ := List.getElem_of_mem hx
    obtain ⟨_, _, _, y, _, _, _, _, hy, _, hI⟩ := h.2 j (by omega)
    rw [List.getElem?_eq_getElem hj] at hy
    injection hy with hy
    rw [hy]
    exact hI
end

end Go.Proofs.Ytbgfccfhiocomaa
