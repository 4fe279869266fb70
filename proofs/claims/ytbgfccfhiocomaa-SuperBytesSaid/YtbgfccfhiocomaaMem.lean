/- Words for memory of this claim: slices that read as lists, rows of the call's own, append onto such a row whatever the source; no program in sight. -/
import Derived.WalkKit
import Derived.WalkSpells
import Derived.WalkLawsBesides
import Derived.Maps.AppendAt
import Derived.Deep.AppendLies
import Derived.Outline
import Derived.Deep.DeepCutAuto
import Derived.Deep.DeepFit
import Derived.Deep.DeepMust
import Derived.Deep.QuietTactic
import Derived.BigQuiet
import Derived.Laws.CopyOwn
import Derived.Deep.RegionHeld3
import Derived.Handy
import Derived.LaidEql
import Derived.Lib.SlBytesConst
import Derived.Laws.BitsAllLaws
namespace Go.Proofs.Ytbgfccfhiocomaa
open Go.RowKit

/-- The length in a slot, for a measure. -/
def lenV : Value → Nat | .slice _ m _ => m | _ => 0
theorem mkHid {p : Prop} (h : p) : Hid p := h
theorem ret_int {k : IntKind} {a b : Int} (h : a = b) : Ending.returned (.int k a) = .returned (.int k b) := by rw [h]
theorem ret_bool {a b : Bool} (h : a = b) : Ending.returned (.bool a) = .returned (.bool b) := by rw [h]

/-! ## A slice that reads as a list of cells -/

/-- The slice (a, n), 's' cells to the element, holds the cells xs; it lies below block B. -/
def SL (w : World) (B s : Nat) (a : Option Addr) (n : Nat) (xs : List Value) : Prop :=
  xs.length = n * s ∧ ∀ j, j < n * s → ∃ b o, a = some ⟨b, o, none⟩ ∧ b < B ∧ w.cell? ⟨b, o + j, none⟩ = some (xs[j]?.getD undef)

section
variable {w w' : World} {B B' s n : Nat} {a : Option Addr} {xs : List Value}
theorem SL.nil : SL w B s a 0 [] := ⟨by simp, fun j h => absurd h (by simp)⟩
theorem SL.keep (h : SL w B s a n xs) (hk : ∀ b, b < B → w'.heap[b]? = w.heap[b]?) : SL w' B s a n xs :=
  ⟨h.1, fun j hj => by
    obtain ⟨b, o, e, hb, hc⟩ := h.2 j hj
    exact ⟨b, o, e, hb, (World.cell?_of_block (w := w) (hk b hb)).trans hc⟩⟩
theorem SL.more (h : SL w B s a n xs) (hB : B ≤ B') : SL w B' s a n xs :=
  ⟨h.1, fun j hj => by
    obtain ⟨b, o, e, hb, hc⟩ := h.2 j hj
    exact ⟨b, o, e, by omega, hc⟩⟩
theorem SL.below (h : SL w B s a n xs) (hb : Below B w w') : SL w' B s a n xs := h.keep fun k hk => hb.block k hk
theorem SL.below' (h : SL w B s a n xs) (hb : Below B' w w') (hB : B ≤ B') : SL w' B s a n xs := h.keep fun k hk => hb.block k (by omega)
theorem SL.alloc (h : SL w B s a n xs) (hB : B ≤ w.heap.size) (o : Obj) : SL (w.alloc o) B s a n xs := h.keep fun b hb => Below.heap_alloc w o b (by omega)
theorem SL.of_own {base : Nat} {e : TypeId} {c : Nat} (h : w.ownsRow base e s (.slice a n c) n xs) : SL w w.heap.size s a n xs := by
  refine ⟨h.1, fun j hj => ?_⟩
  have hn : 0 < n := by
    rcases Nat.eq_zero_or_pos n with h0 | h0
    · subst h0; simp at hj
    · exact h0
  obtain ⟨g, cap, hv, _, hlt⟩ := h.form hn
  have ha : a = some ⟨g, 0, none⟩ := by injection hv
  subst ha
  have hc := h.cells (g := g) rfl j (xs[j]'(by rw [h.1]; exact hj)) (List.getElem?_eq_getElem _)
  refine ⟨g, 0, rfl, hlt, ?_⟩
  rw [List.getElem?_eq_getElem (by rw [h.1]; exact hj)]
  have e1 : (⟨g, 0, none⟩ : Addr).add j = ⟨g, 0 + j, none⟩ := by unfold Addr.add; split <;> simp_all
  rw [e1] at hc
  exact hc
/-- As the kit's laws on append and copy ask it. -/
theorem SL.news (h : SL w B s a n xs) (hn : 0 < xs.length) : ∃ ad, a = some ad ∧ ∀ (j : Nat) (v : Value), xs[j]? = some v → w.cell? (ad.add j) = some v := by
  obtain ⟨b, o, ha, _, _⟩ := h.2 0 (by rw [← h.1]; exact hn)
  refine ⟨_, ha, fun j u hu => ?_⟩
  obtain ⟨hj, rfl⟩ := List.getElem?_eq_some_iff.1 hu
  obtain ⟨b', o', h', _, hc⟩ := h.2 j (by rw [← h.1]; exact hj)
  rw [ha] at h'
  injection h' with h'
  rw [h']
  have e1 : (⟨b', o', none⟩ : Addr).add j = ⟨b', o' + j, none⟩ := by unfold Addr.add; split <;> simp_all
  rw [e1, hc, hu]
  rfl
/-- All of a block. -/
theorem SL.of_block {g m : Nat} {e : TypeId} {fr : Nat × Nat} {cur : Array Value} (hg : w.heap[g]? = some (.cells cur e fr)) (hm : cur.size = m * s) (hB : g < B) : SL w B s (some ⟨g, 0, none⟩) m cur.toList :=
  ⟨by rw [Array.length_toList, hm], fun j hj => ⟨g, 0, rfl, hB, by
    rw [cell_of_row _ _ _ _ _ _ hg, Nat.zero_add, Array.getElem?_toList, Array.getElem?_eq_getElem (by rw [hm]; exact hj)]; rfl⟩⟩
/-- A cut from k on, the model's 'if' kept. -/
theorem SL.drop {k cap : Nat} (h : SL w B s a n xs) (hk : k ≤ n) (hc : n ≤ cap) :
    SL w B s (if cap = k then a else a.map (·.add (k * s))) (n - k) (xs.drop (k * s)) := by
  refine ⟨by rw [List.length_drop, h.1, Nat.sub_mul], fun j hj => ?_⟩
  have hj' : j + k * s < n * s := by rw [Nat.sub_mul] at hj; omega
  obtain ⟨b, o, rfl, hb, hcell⟩ := h.2 (k * s + j) (by omega)
  have hlt : 0 < n - k := by
    rcases Nat.eq_zero_or_pos (n - k) with h0 | h0
    · rw [h0] at hj; simp at hj
    · exact h0
  rw [if_neg (by omega)]
  refine ⟨b, o + k * s, ?_, hb, ?_⟩
  · simp only [Option.map_some, Addr.add]
    split <;> simp_all
  · rw [Nat.add_assoc, hcell, List.getElem?_drop]
theorem SL.take {k : Nat} (h : SL w B s a n xs) (hk : k ≤ n) : SL w B s a k (xs.take (k * s)) := by
  have hm : k * s ≤ n * s := Nat.mul_le_mul_right _ hk
  refine ⟨by rw [List.length_take, h.1]; omega, fun j hj => ?_⟩
  obtain ⟨b, o, e, hb, hcell⟩ := h.2 j (by omega)
  exact ⟨b, o, e, hb, by rw [hcell, List.getElem?_take, if_pos hj]⟩
end

/-! ## Bytes -/
def u8 (x : Int) : Value := .int .u8 x
def okBytes (l : List Int) : Prop := ∀ x ∈ l, 0 ≤ x ∧ x < 256
/-- The slice (a, n) of bytes reads as the list l, its block below B. -/
def BS (w : World) (B : Nat) (a : Option Addr) (n : Nat) (l : List Int) : Prop := SL w B 1 a n (l.map u8) ∧ okBytes l

theorem okBytes.get {l : List Int} (h : okBytes l) (j : Nat) : 0 ≤ l[j]?.getD 0 ∧ l[j]?.getD 0 < 256 := by
  by_cases hj : j < l.length
  · rw [List.getElem?_eq_getElem hj]; exact h _ (List.getElem_mem _)
  · rw [List.getElem?_eq_none (by omega)]; decide
theorem okBytes.append {l m : List Int} (h : okBytes l) (k : okBytes m) : okBytes (l ++ m) := fun x hx => by
  rcases List.mem_append.1 hx with hx | hx
  · exact h x hx
  · exact k x hx
theorem okBytes.take {l : List Int} (h : okBytes l) (k : Nat) : okBytes (l.take k) := fun x hx => h x (List.mem_of_mem_take hx)
theorem okBytes.drop {l : List Int} (h : okBytes l) (k : Nat) : okBytes (l.drop k) := fun x hx => h x (List.mem_of_mem_drop hx)
theorem u8_cells (l : List Int) : ∀ u ∈ l.map u8, u.oneCell' = true := by
  intro u hu
  obtain ⟨x, _, rfl⟩ := List.mem_map.1 hu
  rfl

section
variable {w w' : World} {B B' n : Nat} {a : Option Addr} {l : List Int}
theorem BS.len (h : BS w B a n l) : l.length = n := by have := h.1.1; simpa using this
theorem BS.at_ (h : BS w B a n l) {j : Nat} (hj : j < n) :
    ∃ b o, a = some ⟨b, o, none⟩ ∧ b < B ∧ w.cell? ⟨b, o + j, none⟩ = some (.int .u8 (l[j]?.getD 0)) ∧ 0 ≤ l[j]?.getD 0 ∧ l[j]?.getD 0 < 256 := by
  obtain ⟨b, o, ha, hb, hc⟩ := h.1.2 j (by omega)
  refine ⟨b, o, ha, hb, ?_, h.2.get j⟩
  rw [hc, List.getElem?_map, List.getElem?_eq_getElem (by have := h.len; omega)]
  rfl
theorem BS.below (h : BS w B a n l) (hb : Below B w w') : BS w' B a n l := ⟨h.1.below hb, h.2⟩
theorem BS.below' (h : BS w B a n l) (hb : Below B' w w') (hB : B ≤ B') : BS w' B a n l := ⟨h.1.below' hb hB, h.2⟩
theorem BS.more (h : BS w B a n l) (hB : B ≤ B') : BS w B' a n l := ⟨h.1.more hB, h.2⟩
theorem BS.keep (h : BS w B a n l) (hk : ∀ b, b < B → w'.heap[b]? = w.heap[b]?) : BS w' B a n l := ⟨h.1.keep hk, h.2⟩
theorem BS.take {k : Nat} (h : BS w B a n l) (hk : k ≤ n) : BS w B a k (l.take k) := ⟨by have := h.1.take hk; rwa [Nat.mul_one, ← List.map_take] at this, h.2.take k⟩
theorem BS.drop {k cap : Nat} (h : BS w B a n l) (hk : k ≤ n) (hc : n ≤ cap) : BS w B (if cap = k then a else a.map (·.add k)) (n - k) (l.drop k) :=
  ⟨by have := h.1.drop hk hc; rwa [Nat.mul_one, ← List.map_drop] at this, h.2.drop k⟩
/-- A cut at a known address. -/
theorem BS.cut {b o : Nat} (h : BS w B (some ⟨b, o, none⟩) n l) (lo hi : Nat) (h1 : lo ≤ hi) (h2 : hi ≤ n) : BS w B (some ⟨b, o + lo, none⟩) (hi - lo) ((l.take hi).drop lo) := by
  have hl := h.len
  refine ⟨⟨by rw [List.length_map, List.length_drop, List.length_take]; omega, fun j hj => ?_⟩, (h.2.take hi).drop lo⟩
  obtain ⟨b', o', ha, hb, hc, _⟩ := h.at_ (j := lo + j) (by omega)
  injection ha with ha
  injection ha with e1 e2
  subst e1
  subst e2
  refine ⟨b, o + lo, rfl, hb, ?_⟩
  rw [Nat.add_assoc, hc, List.getElem?_map, List.getElem?_drop, List.getElem?_take, if_pos (by omega), List.getElem?_eq_getElem (by omega)]
  rfl
theorem BS.nil : BS w B a 0 [] := ⟨SL.nil, fun x hx => by cases hx⟩
end

/-! ## Ints -/
def i64v (x : Int) : Value := .int .i64 x
/-- Fits an int. -/
def I64 (x : Int) : Prop := -9223372036854775808 ≤ x ∧ x ≤ 9223372036854775807
/-- The slice (a, n) of ints reads as the list l, its block below B. -/
def IS (w : World) (B : Nat) (a : Option Addr) (n : Nat) (l : List Int) : Prop := SL w B 1 a n (l.map i64v) ∧ ∀ x ∈ l, I64 x
theorem i64_cells (l : List Int) : ∀ u ∈ l.map i64v, u.oneCell' = true := by
  intro u hu
  obtain ⟨x, _, rfl⟩ := List.mem_map.1 hu
  rfl
section
variable {w w' : World} {B B' n : Nat} {a : Option Addr} {l : List Int}
theorem IS.len (h : IS w B a n l) : l.length = n := by have := h.1.1; simpa using this
theorem IS.at_ (h : IS w B a n l) {j : Nat} (hj : j < n) :
    ∃ b o, a = some ⟨b, o, none⟩ ∧ b < B ∧ w.cell? ⟨b, o + j, none⟩ = some (.int .i64 (l[j]?.getD 0)) ∧ I64 (l[j]?.getD 0) := by
  obtain ⟨b, o, ha, hb, hc⟩ := h.1.2 j (by omega)
  have hl := h.len
  refine ⟨b, o, ha, hb, ?_, ?_⟩
  · rw [hc, List.getElem?_map, List.getElem?_eq_getElem (by omega)]
    rfl
  · rw [List.getElem?_eq_getElem (by omega)]
    exact h.2 _ (List.getElem_mem _)
theorem IS.keep (h : IS w B a n l) (hk : ∀ b, b < B → w'.heap[b]? = w.heap[b]?) : IS w' B a n l := ⟨h.1.keep hk, h.2⟩
theorem IS.below (h : IS w B a n l) (hb : Below B w w') : IS w' B a n l := ⟨h.1.below hb, h.2⟩
theorem IS.more (h : IS w B a n l) (hB : B ≤ B') : IS w B' a n l := ⟨h.1.more hB, h.2⟩
theorem IS.nil : IS w B a 0 [] := ⟨SL.nil, fun x hx => by cases hx⟩
end

/-- A slice's length and capacity: what fits. -/
def CapOk (n c : Nat) : Prop := n ≤ c ∧ c ≤ maxLen ∧ n ≤ 140737488355328
/-- The slice (a, n) of byte slices reads as the list of lists. -/
def BSS (w : World) (B : Nat) (a : Option Addr) (n : Nat) (ls : List (List Int)) : Prop :=
  ls.length = n ∧ ∀ j, j < n → ∃ b o, a = some ⟨b, o, none⟩ ∧ b < B ∧ ∃ a' n' c', w.cell? ⟨b, o + j, none⟩ = some (.slice a' n' c') ∧ CapOk n' c' ∧ BS w B a' n' (ls[j]?.getD [])

theorem BSS.keep {w w' : World} {B n : Nat} {a : Option Addr} {ls : List (List Int)} (h : BSS w B a n ls) (hk : ∀ b, b < B → w'.heap[b]? = w.heap[b]?) : BSS w' B a n ls :=
  ⟨h.1, fun j hj => by
    obtain ⟨b, o, ha, hb, a', n', c', hc, h1, h3⟩ := h.2 j hj
    exact ⟨b, o, ha, hb, a', n', c', (World.cell?_of_block (w := w) (hk b hb)).trans hc, h1, h3.keep hk⟩⟩
theorem BSS.below {w w' : World} {B n : Nat} {a : Option Addr} {ls : List (List Int)} (h : BSS w B a n ls) (hb : Below B w w') : BSS w' B a n ls := h.keep fun k hk => hb.block k hk

theorem BSS.more {w : World} {B B' n : Nat} {a : Option Addr} {ls : List (List Int)} (h : BSS w B a n ls) (hB : B ≤ B') : BSS w B' a n ls :=
  ⟨h.1, fun j hj => by
    obtain ⟨b, o, ha, hb, a', n', c', hc, h1, h3⟩ := h.2 j hj
    exact ⟨b, o, ha, by omega, a', n', c', hc, h1, h3.more hB⟩⟩
theorem BSS.ok {w : World} {B n : Nat} {a : Option Addr} {ls : List (List Int)} (h : BSS w B a n ls) : okBytes ls.flatten := by
  intro x hx
  obtain ⟨l, hl, hxl⟩ := List.mem_flatten.1 hx
  obtain ⟨j, hj, rfl⟩ := List.getElem_of_mem hl
  obtain ⟨_, _, _, _, _, _, _, _, _, h3⟩ := h.2 j (by rw [← h.1]; exact hj)
  rw [List.getElem?_eq_getElem hj] at h3
  exact h3.2 x hxl

/-- The slice of one byte slice that a call with one part makes. -/
theorem BSS.one {W : World} {a : Option Addr} {n c g : Nat} {l : List Int} {t : TypeId} (h : BS W W.heap.size a n l) (hc : CapOk n c) (hg : W.heap.size = g) :
    BSS (W.alloc (.cells #[.slice a n c] t)) (W.alloc (.cells #[.slice a n c] t)).heap.size (some ⟨g, 0, none⟩) 1 [l] := by
  subst hg
  refine ⟨rfl, fun j hj => ?_⟩
  obtain rfl : j = 0 := by omega
  refine ⟨_, _, rfl, by simp, a, n, c, ?_, hc, (h.below ((Below.refl _ _).alloc (Nat.le_refl _) _)).more (by simp)⟩
  rw [cell_of_row _ _ _ _ _ _ (heap_alloc_new W _)]; rfl

/-- The slice of the parts nil, b, nil. -/
theorem BSS.three {W : World} {a : Option Addr} {n c : Nat} {l : List Int} {t : TypeId} (h : BS W W.heap.size a n l) (hc : CapOk n c) :
    BSS (W.alloc (.cells #[.slice none 0 0, .slice a n c, .slice none 0 0] t)) (W.alloc (.cells #[.slice none 0 0, .slice a n c, .slice none 0 0] t)).heap.size (some ⟨W.heap.size, 0, none⟩) 3 [[], l, []] := by
  refine ⟨rfl, fun j hj => ?_⟩
  have hcell := fun j => cell_of_row _ W.heap.size j _ _ _ (heap_alloc_new W (.cells #[.slice none 0 0, .slice a n c, .slice none 0 0] t))
  obtain rfl | rfl | rfl : j = 0 ∨ j = 1 ∨ j = 2 := by omega
  · exact ⟨_, _, rfl, by simp, none, 0, 0, (hcell 0).trans rfl, ⟨by omega, by unfold maxLen; omega, by omega⟩, BS.nil⟩
  · exact ⟨_, _, rfl, by simp, a, n, c, (hcell 1).trans rfl, hc, (h.below ((Below.refl _ _).alloc (Nat.le_refl _) _)).more (by simp)⟩
  · exact ⟨_, _, rfl, by simp, none, 0, 0, (hcell 2).trans rfl, ⟨by omega, by unfold maxLen; omega, by omega⟩, BS.nil⟩

/-! ## Rows of the call's own -/
/-- What is known of a slice type and its element type: t = []e. -/
structure ElemOk (P : Program) (t e : TypeId) (size bytes : Nat) : Prop where
  ht : P.underlying t = some (.slice e)
  hi : ∃ i z, P.info? e = some i ∧ i.zero = some z ∧ i.size = size ∧ i.bytes = bytes ∧ z.cells.size = size
  pos : 0 < size
theorem ElemOk.mk' {P : Program} {t e : TypeId} {z : Value} {size bytes : Nat} (ht : P.underlying t = some (.slice e))
    (hi : (P.info? e).map (fun i => (i.zero, i.size, i.bytes)) = some (some z, size, bytes)) (hz : z.cells.size = size) (pos : 0 < size) : ElemOk P t e size bytes := by
  obtain ⟨i, h0, h1, h2, h3⟩ := info_parts hi
  exact ⟨ht, ⟨i, z, h0, h1, h2, h3, hz⟩, pos⟩

theorem grownBy_refl (w : World) (row : Option Nat) : w.grownBy w row := ⟨rfl, rfl, rfl, Nat.le_refl _, fun _ _ _ => rfl⟩

section
variable {P : Program} (w : World)
theorem run_app_nil (base : Nat) {t ty e : TypeId} {size bytes : Nat} (he : ElemOk P t e size bytes) (v : Value) (n : Nat) (xs : List Value) (hown : w.ownsRow base e size v n xs) (c : Nat) :
    (Builtin.append_ #[t, t] ty #[v, .slice none 0 c]).run P w = .ok v w := by
  obtain ⟨ht, ⟨i, z, hi, hz, hs, hb, hzs⟩, _⟩ := he
  rcases hown.2 with ⟨rfl, rfl⟩ | ⟨g, cap, cur, rfl, _, _, hnc, _⟩
  · simp [Builtin.append_, run_underlying ht, sizeOf, typeInfo, hi, Builtin.lenOf, Builtin.firstCells]
  · simp [Builtin.append_, run_underlying ht, sizeOf, typeInfo, hi, Builtin.lenOf, Builtin.firstCells, hnc, storeCells]

theorem own_form {base : Nat} {e : TypeId} {size : Nat} {v : Value} {n : Nat} {xs : List Value} (h : w.ownsRow base e size v n xs) : ∃ A c, v = .slice A n c ∧ (n ≤ c ∧ c ≤ maxLen) ∧ (A = none ∨ ∃ g, A = some ⟨g, 0, none⟩ ∧ base ≤ g ∧ g < w.heap.size) := by
  rcases h.2 with ⟨rfl, rfl⟩ | ⟨g, cap, cur, rfl, hb, hg, h1, h2, _⟩
  · exact ⟨none, 0, rfl, ⟨Nat.le_refl _, Nat.zero_le _⟩, .inl rfl⟩
  · exact ⟨_, cap, rfl, ⟨h1, h2⟩, .inr ⟨g, rfl, hb, (Array.getElem?_eq_some_iff.1 hg).1⟩⟩

theorem run_app (base : Nat) {t ty e : TypeId} {size bytes : Nat} (he : ElemOk P t e size bytes) (A : Option Addr) (n c : Nat) (xs : List Value) (hown : w.ownsRow base e size (.slice A n c) n xs)
    (B : Nat) (A2 : Option Addr) (m c2 : Nat) (news : List Value) (hr : SL w B size A2 m news) (h1 : ∀ u ∈ news, u.oneCell' = true)
    (h63 : n + m ≤ maxLen) (hbytes : (n + m) * bytes ≤ 140737488355328) (hbase : base ≤ w.heap.size) :
    ∃ A' c' w', (Builtin.append_ #[t, t] ty #[.slice A n c, .slice A2 m c2]).run P w = .ok (.slice A' (n + m) c') w' ∧ w'.ownsRow base e size (.slice A' (n + m) c') (n + m) (xs ++ news) ∧
      w.grownBy w' (Value.slice A n c).ownBlock ∧ ((Value.slice A' (n + m) c').ownBlock = (Value.slice A n c).ownBlock ∨ (Value.slice A' (n + m) c').ownBlock = some w.heap.size) := by
  obtain ⟨ht, ⟨i, z, hi, hz, hs, hb, hzs⟩, pos⟩ := id he
  rcases A2 with _ | ad
  · have hm : m = 0 := by
      rcases Nat.eq_zero_or_pos m with h0 | h0
      · exact h0
      · obtain ⟨b, o, h, _⟩ := hr.2 0 (Nat.mul_pos h0 pos)
        cases h
    subst hm
    have hn : news = [] := List.eq_nil_of_length_eq_zero (by simpa using hr.1)
    subst hn
    exact ⟨A, c, w, run_app_nil w base he _ n xs hown c2, by simpa using hown, grownBy_refl w _, .inl rfl⟩
  · have hcells : ∀ j u, news[j]? = some u → w.cell? (ad.add j) = some u := by
      intro j u hu
      obtain ⟨hj, rfl⟩ := List.getElem?_eq_some_iff.1 hu
      obtain ⟨b, o, h, _, hc⟩ := hr.2 j (by rw [← hr.1]; exact hj)
      injection h with h
      subst h
      have e1 : (⟨b, o, none⟩ : Addr).add j = ⟨b, o + j, none⟩ := by unfold Addr.add; split <;> simp_all
      rw [e1, hc, hu]
      rfl
    obtain ⟨v', w', hrun, h2, h3, _, h5⟩ := run_append_own_at (P := P) w base t ty e i z size bytes ht hi hz hs hb hzs pos _ n xs hown ad m c2 news hr.1 hcells h1 h63 hbytes hbase
    obtain ⟨A', c', rfl, _⟩ := own_form w' h2
    exact ⟨A', c', w', hrun, h2, h3, h5⟩

/-- A row out of a block that is known whole. -/
theorem own_of_block {base g : Nat} {e : TypeId} {n cap : Nat} {cur : Array Value} (hb : base ≤ g) (hg : w.heap[g]? = some (.cells cur e (0, 0))) (hn : n ≤ cap) (hc : cap ≤ maxLen) (hs : cur.size = cap) :
    w.ownsRow base e 1 (.slice (some ⟨g, 0, none⟩) n cap) n (cur.toList.take n) := by
  refine ⟨by rw [List.length_take, Array.length_toList, hs]; omega, .inr ⟨g, cap, cur, rfl, hb, hg, hn, hc, by rw [hs]; omega, by rw [Nat.mul_one]⟩⟩

/-- 'x = append(x, y...)', x a row of the call's own, y nil or not, at a plain region's list. -/
theorem wpList_app {ops : Array Oper} {rest : List Oper} {o : Oper} {a : Act} {Q : Exit → Act → World → Prop} (hgd : o.guard = none) (s x : Operand) (t : TypeId)
    (ho : o.op = .call { callee := .builtin .append, args := #[s, x], argTypes := #[t, t] })
    (base : Nat) {e : TypeId} {size bytes : Nat} (he : ElemOk P t e size bytes) (A : Option Addr) (n c : Nat) (xs : List Value) (hs : a.eval s = .slice A n c) (hown : w.ownsRow base e size (.slice A n c) n xs)
    (B : Nat) (A2 : Option Addr) (m c2 : Nat) (news : List Value) (hx : a.eval x = .slice A2 m c2) (hr : SL w B size A2 m news) (h1 : ∀ u ∈ news, u.oneCell' = true)
    (h63 : n + m ≤ maxLen) (hbytes : (n + m) * bytes ≤ 140737488355328) (hbase : base ≤ w.heap.size)
    (h : ∀ A' c' w', w'.ownsRow base e size (.slice A' (n + m) c') (n + m) (xs ++ news) → w.grownBy w' (Value.slice A n c).ownBlock →
      ((Value.slice A' (n + m) c').ownBlock = (Value.slice A n c).ownBlock ∨ (Value.slice A' (n + m) c').ownBlock = some w.heap.size) → wpList P ops Q rest (a.put o.dst (.slice A' (n + m) c')) w') : wpList P ops Q (o :: rest) a w := by
  refine wpList_plain hgd fun K hK => ?_
  obtain ⟨A', c', w', hrun, h2, h3, h4⟩ := run_app (P := P) w base (ty := o.type) he A n c xs hown B A2 m c2 news hr h1 h63 hbytes hbase
  unfold Oper.wp execOp
  simp only [ho, resolve, invoke, builtin, Sem.run_bind, Sem.run_pure, Result.andThen_ok, List.map_toArray, List.map_cons, List.map_nil, hs, hx, hrun]
  exact hK _ _ (h A' c' w' h2 h3 h4)
end

/-- 'append(nil, y...)'. -/
theorem wpList_app0 {P : Program} (w : World) {ops : Array Oper} {rest : List Oper} {o : Oper} {a : Act} {Q : Exit → Act → World → Prop} (hgd : o.guard = none) (s x : Operand) (t : TypeId)
    (ho : o.op = .call { callee := .builtin .append, args := #[s, x], argTypes := #[t, t] })
    (base : Nat) {e : TypeId} {size bytes : Nat} (he : ElemOk P t e size bytes) (hs : a.eval s = .slice none 0 0)
    (B : Nat) (A2 : Option Addr) (m c2 : Nat) (news : List Value) (hx : a.eval x = .slice A2 m c2) (hr : SL w B size A2 m news) (h1 : ∀ u ∈ news, u.oneCell' = true)
    (h63 : m ≤ maxLen) (hbytes : m * bytes ≤ 140737488355328) (hbase : base ≤ w.heap.size)
    (h : ∀ A' c' w', w'.ownsRow base e size (.slice A' m c') m news → w.grownBy w' none →
      ((Value.slice A' m c').ownBlock = none ∨ (Value.slice A' m c').ownBlock = some w.heap.size) → wpList P ops Q rest (a.put o.dst (.slice A' m c')) w') : wpList P ops Q (o :: rest) a w :=
  wpList_app w hgd s x t ho base he none 0 0 [] hs (World.ownsRow_nil _ _ _ _) B A2 m c2 news hx hr h1 (by omega) (by rw [Nat.zero_add]; exact hbytes) hbase fun A' c' w' h2 h3 h4 => by
    rw [Nat.zero_add] at h2 h4 ⊢
    exact h A' c' w' h2 h3 h4

/-- A make whose run is known. -/
theorem wpList_make_run {P : Program} (w : World) {ops : Array Oper} {rest : List Oper} {o : Oper} {a : Act} {Q : Exit → Act → World → Prop}
    (hg : o.guard = none) (l c : Operand) (t : TypeId) (hop : o.op = Op.makeSlice t l c) (L C v : Value) (w' : World) (hl : a.eval l = L) (hc : a.eval c = C)
    (hrun : (Instr.makeSlice t L C).run P w = .ok v w') (h : wpList P ops Q rest (a.put o.dst v) w') : wpList P ops Q (o :: rest) a w := by
  refine wpList_plain hg fun K hK' => ?_
  unfold Oper.wp
  simp [execOp, hop, hl, hc, hrun, Result.andThen]
  exact hK' _ _ h

/-- An owned row of bytes that is not empty, written out: where it lies, and each cell. -/
theorem own_cells {w : World} {base : Nat} {e : TypeId} {A : Option Addr} {n c : Nat} {l : List Int} (h : w.ownsRow base e 1 (.slice A n c) n (l.map u8)) (hn : 0 < n) :
    ∃ g, A = some ⟨g, 0, none⟩ ∧ base ≤ g ∧ g < w.heap.size ∧ ∀ j, j < n → w.cell? ⟨g, j, none⟩ = some (.int .u8 (l[j]?.getD 0)) := by
  obtain ⟨g, cap, hv, hb, hlt⟩ := h.form hn
  have ha : A = some ⟨g, 0, none⟩ := by injection hv
  subst ha
  refine ⟨g, rfl, hb, hlt, fun j hj => ?_⟩
  have hl : l.length = n := by have := h.1; simpa using this
  have hc := h.cells (g := g) rfl j (u8 (l[j]'(by omega))) (by rw [List.getElem?_map, List.getElem?_eq_getElem (by omega)]; rfl)
  have e1 : (⟨g, 0, none⟩ : Addr).add j = ⟨g, j, none⟩ := by unfold Addr.add; split <;> simp_all
  rw [e1] at hc
  rw [hc, List.getElem?_eq_getElem (by omega)]
  rfl

theorem one_slice (A : Option Addr) (n c : Nat) : ∀ u ∈ [Value.slice A n c], u.oneCell' = true := by
  intro u hu
  obtain rfl := List.mem_singleton.1 hu
  rfl
/-- The block of the one element that an append lays. -/
theorem SL.one {w : World} (v : Value) (t : TypeId) : SL (w.alloc (.cells #[v] t)) (w.heap.size + 1) 1 (some ⟨w.heap.size, 0, none⟩) 1 [v] := SL.of_block (heap_alloc_new w _) rfl (by omega)
/-- A row of the call's own (element type e) of byte slices, each below B. -/
def OSS (w : World) (e base B : Nat) (A : Option Addr) (L C : Nat) (ls : List (List Int)) : Prop :=
  ∃ vs : List Value, w.ownsRow base e 1 (.slice A L C) L vs ∧ ls.length = L ∧ ∀ j, j < L → ∃ a' n' c', vs[j]? = some (.slice a' n' c') ∧ CapOk n' c' ∧ BS w B a' n' (ls[j]?.getD [])
theorem OSS.nil (w : World) (e base B : Nat) : OSS w e base B none 0 0 [] := ⟨[], World.ownsRow_nil _ _ _ _, rfl, fun j hj => absurd hj (by omega)⟩
theorem OSS.bss {w : World} {e base B : Nat} {A : Option Addr} {L C : Nat} {ls : List (List Int)} (h : OSS w e base B A L C ls) (hB : B ≤ w.heap.size) : BSS w w.heap.size A L ls := by
  obtain ⟨vs, ho, hl, hv⟩ := h
  have hs := SL.of_own ho
  refine ⟨hl, fun j hj => ?_⟩
  obtain ⟨b, o, ha, hb, hc⟩ := hs.2 j (by omega)
  obtain ⟨a', n', c', h1, h2, h4⟩ := hv j hj
  exact ⟨b, o, ha, hb, a', n', c', by rw [hc, h1]; rfl, h2, h4.more hB⟩
theorem OSS.snoc {w w' : World} {e base B : Nat} {A' : Option Addr} {L C' : Nat} {ls : List (List Int)} {vs : List Value} {l : List Int} {a' : Option Addr} {n' c' : Nat}
    (hv : ∀ j, j < L → ∃ a' n' c', vs[j]? = some (.slice a' n' c') ∧ CapOk n' c' ∧ BS w B a' n' (ls[j]?.getD [])) (hl : ls.length = L) (hvl : vs.length = L)
    (ho : w'.ownsRow base e 1 (.slice A' (L + 1) C') (L + 1) (vs ++ [.slice a' n' c'])) (hk : ∀ b, b < B → w'.heap[b]? = w.heap[b]?) (h1 : CapOk n' c') (hb : BS w B a' n' l) :
    OSS w' e base B A' (L + 1) C' (ls ++ [l]) := by
  refine ⟨_, ho, by simp [hl], fun j hj => ?_⟩
  by_cases e1 : j < L
  · obtain ⟨a1, n1, c1, g1, g2, g4⟩ := hv j e1
    exact ⟨a1, n1, c1, by rw [List.getElem?_append_left (by omega)]; exact g1, g2, by rw [List.getElem?_append_left (by omega)]; exact g4.keep hk⟩
  · obtain rfl : j = L := by omega
    exact ⟨a', n', c', by rw [List.getElem?_append_right (by omega), hvl, Nat.sub_self]; rfl, h1, by rw [List.getElem?_append_right (by omega), hl, Nat.sub_self]; exact hb.keep hk⟩

theorem frozen_of_own {w : World} {base : Nat} {e : TypeId} {s g n c : Nat} {xs : List Value} (h : w.ownsRow base e s (.slice (some ⟨g, 0, none⟩) n c) n xs) (p : Nat) : w.frozen? ⟨g, p, none⟩ = false := by
  rcases h.2 with ⟨h1, _⟩ | ⟨g', cap, cur, hv, _, hg, _⟩
  · cases h1
  · injection hv with h1
    injection h1 with h1
    injection h1 with h1
    subst h1
    exact frozen_of_row _ _ _ _ _ hg
/-- A store into a row of the call's own. -/
theorem own_set {w : World} {base : Nat} {e : TypeId} {g n c p : Nat} {xs : List Value} {v : Value} (h : w.ownsRow base e 1 (.slice (some ⟨g, 0, none⟩) n c) n xs) (_ : p < n) :
    (w.setCell ⟨g, p, none⟩ v).ownsRow base e 1 (.slice (some ⟨g, 0, none⟩) n c) n (xs.set p v) := by
  refine ⟨by rw [List.length_set]; exact h.1, ?_⟩
  rcases h.2 with ⟨h1, _⟩ | ⟨g', cap, cur, hv, hb, hg, h1, h2, h3, h4⟩
  · cases h1
  · injection hv with hv1 hv2 hv3
    injection hv1 with hv1
    injection hv1 with hv1
    subst hv1
    subst hv3
    refine .inr ⟨g, c, cur.setIfInBounds p v, rfl, hb, heap_setCell_same _ _ _ _ _ _ hg, h1, h2, by rw [Array.size_setIfInBounds]; exact h3, ?_⟩
    rw [Array.toList_setIfInBounds, ← h4, List.take_set]

/-- What is owned from a later base on is owned from an earlier one on. -/
theorem own_weaken {w : World} {base base' : Nat} {e : TypeId} {s n : Nat} {v : Value} {xs : List Value} (h : w.ownsRow base e s v n xs) (hb : base' ≤ base) : w.ownsRow base' e s v n xs := by
  refine ⟨h.1, ?_⟩
  rcases h.2 with h0 | ⟨g, cap, cur, h1, h2, h3⟩
  · exact .inl h0
  · exact .inr ⟨g, cap, cur, h1, by omega, h3⟩

/-- What is owned stays owned while no block that was there turns. -/
theorem own_keep {w w' : World} {base : Nat} {e : TypeId} {s n : Nat} {v : Value} {xs : List Value} (h : w.ownsRow base e s v n xs) (hk : ∀ b, b < w.heap.size → w'.heap[b]? = w.heap[b]?) : w'.ownsRow base e s v n xs := by
  refine ⟨h.1, ?_⟩
  rcases h.2 with h0 | ⟨g, cap, cur, h1, h2, h3, h4⟩
  · exact .inl h0
  · exact .inr ⟨g, cap, cur, h1, h2, (hk g (Array.getElem?_eq_some_iff.1 h3).1).trans h3, h4⟩
theorem own_below {w w' : World} {base : Nat} {e : TypeId} {s n : Nat} {v : Value} {xs : List Value} (h : w.ownsRow base e s v n xs) (hb : Below w.heap.size w w') : w'.ownsRow base e s v n xs := own_keep h fun b hh => hb.block b hh
theorem own_cap {w : World} {base : Nat} {e : TypeId} {s n c : Nat} {A : Option Addr} {xs : List Value} (h : w.ownsRow base e s (.slice A n c) n xs) : n ≤ c ∧ c ≤ maxLen := by
  obtain ⟨A4, c4, hv, hq, _⟩ := own_form _ h
  injection hv with _ _ hv
  subst hv
  exact hq

/-- The grown row lies from 'base' on. -/
theorem own_base {w : World} {base : Nat} {e : TypeId} {size : Nat} {v : Value} {n : Nat} {xs : List Value} (h : w.ownsRow base e size v n xs) : ∀ k, v.ownBlock = some k → base ≤ k := fun k hk => (h.lt k hk).1

end Go.Proofs.Ytbgfccfhiocomaa
