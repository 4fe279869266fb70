/- Merged: RdA4, RdB4, RdC4, RdD4, RdE4, RdF4, RdG4. -/
import Derived.Test.YtpoeneabhoajaaaDoorDkK4
import Derived.Deep.RegionLaw
import Derived.Test.YtpoeneabhoajaaaDoorBkC
namespace Go.Proofs.YtpoeneabhoajaaaDoor
open Go.RowKit

theorem el_rsec : ElemOk Tryd.prog 46 110 2 32 := .mk' Tryd.underlying46 (z := .agg #[.slice none 0 0, .bool false]) (by kernel_rfl) rfl (by decide)

/-- The row at a holds the byte slices vs, of 128 bytes each; F tells its blocks. -/
def VB (w : World) (F : Nat → Prop) (a : Option Addr) (vs : List (List Int)) : Prop :=
  ∃ b cur fr, a = some ⟨b, 0, none⟩ ∧ F b ∧ w.heap[b]? = some (.cells cur 37 fr) ∧ ∀ (j : Nat) (l : List Int), vs[j]? = some l → ∃ (a' : Option Addr) (c' : Nat), cur[j]? = some (.slice a' 128 c') ∧ (128 ≤ c' ∧ c' ≤ maxLen) ∧ GB w F a' l
section
variable {w w' : World} {F F' M : Nat → Prop} {a : Option Addr} {vs : List (List Int)}
theorem VB.keepX (h : VB w F a vs) (hk : ∀ b, F b → ¬ M b → w'.heap[b]? = w.heap[b]?) (hM : ∀ b cur fr, M b → w.heap[b]? ≠ some (.cells cur 5 fr)) (hM2 : ∀ b cur fr, M b → w.heap[b]? ≠ some (.cells cur 37 fr)) (hF : ∀ b, F b → F' b) : VB w' F' a vs := by
  obtain ⟨b, cur, fr, ha, hb, hh, hc⟩ := h
  refine ⟨b, cur, fr, ha, hF b hb, (hk b hb fun hm => hM2 b cur fr hm hh).trans hh, fun j l hl => ?_⟩
  obtain ⟨a', c', e1, e2, e3⟩ := hc j l hl
  exact ⟨a', c', e1, e2, e3.keepX hk hM hF⟩
theorem VB.keep (h : VB w F a vs) (hk : ∀ b, F b → w'.heap[b]? = w.heap[b]?) (hF : ∀ b, F b → F' b) : VB w' F' a vs := h.keepX (M := fun _ => False) (fun b hb _ => hk b hb) (fun _ _ _ hm => hm.elim) (fun _ _ _ hm => hm.elim) hF
/-- One value, written out. -/
theorem VB.at_ (h : VB w F a vs) {j : Nat} (hj : j < vs.length) : ∃ b a' c' l, a = some ⟨b, 0, none⟩ ∧ F b ∧ w.cell? ⟨b, j, none⟩ = some (.slice a' 128 c') ∧ (128 ≤ c' ∧ c' ≤ maxLen) ∧ vs[j]? = some l ∧ GB w F a' l := by
  obtain ⟨b, cur, fr, ha, hb, hh, hc⟩ := h
  obtain ⟨a', c', e1, e2, e3⟩ := hc j _ (List.getElem?_eq_getElem hj)
  exact ⟨b, a', c', _, ha, hb, by rw [cell_of_row _ _ _ _ _ _ hh]; exact e1, e2, List.getElem?_eq_getElem hj, e3⟩
/-- Out of a row of the call's own. -/
theorem VB.of_own {base n c : Nat} {A : Option Addr} {xs : List Value} (h : w.ownsRow base 37 1 (.slice A n c) n xs) (hn : 0 < n) (hF : ∀ b, base ≤ b → b < w.heap.size → F b) (hx : ∀ (j : Nat) (l : List Int), vs[j]? = some l → ∃ (a' : Option Addr) (c' : Nat), xs[j]? = some (.slice a' 128 c') ∧ (128 ≤ c' ∧ c' ≤ maxLen) ∧ GB w F a' l) : VB w F A vs := by
  rcases h.2 with ⟨h0, h1⟩ | ⟨g, cap, cur, h1, h2, h3, h4, h5, h6, h7⟩
  · injection h0 with _ h0 _; omega
  · have ha : A = some ⟨g, 0, none⟩ := by injection h1
    refine ⟨g, cur, (0, 0), ha, hF g h2 (Array.getElem?_eq_some_iff.1 h3).1, h3, fun j l hl => ?_⟩
    obtain ⟨a', c', e1, e2, e3⟩ := hx j l hl
    refine ⟨a', c', ?_, e2, e3⟩
    rw [← h7, List.getElem?_take] at e1
    split at e1
    · rw [Array.getElem?_toList] at e1; exact e1
    · cases e1
/-- One value in a new block. -/
theorem VB.one {a' : Option Addr} {c' : Nat} {l : List Int} {b : Nat} {fr : Nat × Nat} (hb : F b) (hh : w.heap[b]? = some (.cells #[.slice a' 128 c'] 37 fr)) (hc : 128 ≤ c' ∧ c' ≤ maxLen) (hg : GB w F a' l) : VB w F (some ⟨b, 0, none⟩) [l] :=
  ⟨b, _, fr, rfl, hb, hh, fun j l' hl => by
    have hj : j = 0 := by have := (List.getElem?_eq_some_iff.1 hl).1; simp at this; exact this
    subst hj
    injection hl with hl
    subst hl
    exact ⟨a', c', rfl, hc, hg⟩⟩
/-- As it is read by append. -/
theorem VB.sl (h : VB w F a vs) (hF : ∀ b, F b → b < w.heap.size) : ∃ xs : List Value, SL w w.heap.size 1 a vs.length xs ∧ (∀ u ∈ xs, u.oneCell' = true) ∧ ∀ (j : Nat) (l : List Int), vs[j]? = some l → ∃ (a' : Option Addr) (c' : Nat), xs[j]? = some (.slice a' 128 c') ∧ (128 ≤ c' ∧ c' ≤ maxLen) ∧ GB w F a' l := by
  obtain ⟨b, cur, fr, ha, hb, hh, hc⟩ := h
  have hsz : vs.length ≤ cur.toList.length := by
    rw [Array.length_toList]
    rcases Nat.lt_or_ge cur.size vs.length with h0 | h0
    · obtain ⟨a', c', e1, _⟩ := hc cur.size _ (List.getElem?_eq_getElem h0)
      have := (Array.getElem?_eq_some_iff.1 e1).1
      omega
    · exact h0
  have hel : ∀ j, j < vs.length → ∃ (a' : Option Addr) (c' : Nat), (cur.toList.take vs.length)[j]? = some (.slice a' 128 c') := fun j hj => by
    obtain ⟨a', c', e1, _⟩ := hc j _ (List.getElem?_eq_getElem hj)
    exact ⟨a', c', by rw [List.getElem?_take, if_pos hj, Array.getElem?_toList]; exact e1⟩
  refine ⟨cur.toList.take vs.length, ⟨by rw [List.length_take]; omega, fun j hj => ⟨b, 0, ha, hF b hb, ?_⟩⟩, fun u hu => ?_, fun j l hl => ?_⟩
  · have hj' : j < vs.length := by omega
    obtain ⟨a', c', e1⟩ := hel j hj'
    rw [Nat.zero_add, cell_of_row _ _ _ _ _ _ hh, e1]
    rw [List.getElem?_take, if_pos hj', Array.getElem?_toList] at e1
    rw [e1]; rfl
  · obtain ⟨j, hj, rfl⟩ := List.getElem_of_mem hu
    obtain ⟨a', c', e1⟩ := hel j (by rw [List.length_take] at hj; omega)
    rw [List.getElem?_eq_getElem hj] at e1
    injection e1 with e1
    rw [e1]; rfl
  · have hj' := (List.getElem?_eq_some_iff.1 hl).1
    obtain ⟨a', c', e1, e2, e3⟩ := hc j l hl
    exact ⟨a', c', by rw [List.getElem?_take, if_pos hj', Array.getElem?_toList]; exact e1, e2, e3⟩
end

/-- A sector's values: what it holds for good, what waits. -/
def Sec.vals (s : Sec) : List (List Int) := s.good :: s.wait
theorem Sec.vals_len (s : Sec) : s.vals.length = s.wait.length + 1 := rfl
theorem Sec.vals_last (s : Sec) : s.vals[s.wait.length]? = some s.last := by
  unfold Sec.vals Sec.last
  rcases s with ⟨g, l, b⟩
  cases l with
  | nil => rfl
  | cons x t =>
    show (g :: x :: t)[t.length + 1]? = _
    rw [List.getElem?_cons_succ, List.getLast?_eq_getElem?]
    show (x :: t)[t.length]? = some ((x :: t)[t.length]?.getD g)
    rw [List.getElem?_eq_getElem (by simp)]
    rfl

/-- Cells j, j + 1 of the row are sector s. -/
def RSec (w : World) (F : Nat → Prop) (cs : List Value) (j : Nat) (s : Sec) : Prop :=
  ∃ (a : Option Addr) (c : Nat), cs[j * 2]? = some (.slice a (s.wait.length + 1) c) ∧ cs[j * 2 + 1]? = some (.bool s.bad) ∧ (s.wait.length + 1 ≤ c ∧ c ≤ maxLen) ∧ s.wait.length ≤ 1000000 ∧ VB w F a s.vals
/-- Block g is the document's disk of the sectors ss; F tells its blocks. -/
structure RDr (w : World) (F : Nat → Prop) (g : Nat) (A : Option Addr) (n c : Nat) (cs : List Value) (ss : List Sec) : Prop where
  blk : w.heap[g]? = some (.cells #[.slice A n c] 48 (0, 0))
  row : w.ownsRow 0 110 2 (.slice A n c) n cs
  sec : ∀ (j : Nat) (s : Sec), ss[j]? = some s → RSec w F cs j s
  len : ss.length = n
  fg : F g
  fr : ∀ r, (Value.slice A n c).ownBlock = some r → F r
  lt : ∀ b, F b → b < w.heap.size
  nl : n ≤ 4096
def RD (w : World) (F : Nat → Prop) (g : Nat) (ss : List Sec) : Prop := ∃ A n c cs, RDr w F g A n c cs ss
section
variable {w w' : World} {F F' M : Nat → Prop} {g : Nat} {A : Option Addr} {n c : Nat} {cs : List Value} {ss : List Sec}
theorem RSec.keepX {j : Nat} {s : Sec} (h : RSec w F cs j s) (hk : ∀ b, F b → ¬ M b → w'.heap[b]? = w.heap[b]?) (hM : ∀ b cur fr, M b → w.heap[b]? ≠ some (.cells cur 5 fr)) (hM2 : ∀ b cur fr, M b → w.heap[b]? ≠ some (.cells cur 37 fr)) (hF : ∀ b, F b → F' b) : RSec w' F' cs j s := by
  obtain ⟨a, c, h1, h2, h3, h4, h5⟩ := h
  exact ⟨a, c, h1, h2, h3, h4, h5.keepX hk hM hM2 hF⟩
theorem RSec.cells {cs' : List Value} {j : Nat} {s : Sec} (h : RSec w F cs j s) (h0 : cs'[j * 2]? = cs[j * 2]?) (h1 : cs'[j * 2 + 1]? = cs[j * 2 + 1]?) : RSec w F cs' j s := by
  obtain ⟨a, c, e1, e2, e3⟩ := h
  exact ⟨a, c, h0.trans e1, h1.trans e2, e3⟩
theorem RDr.keep (h : RDr w F g A n c cs ss) (hs : w.heap.size ≤ w'.heap.size) (hk : ∀ b, F b → w'.heap[b]? = w.heap[b]?) : RDr w' F g A n c cs ss := by
  refine ⟨(hk g h.fg).trans h.blk, ⟨h.row.1, ?_⟩, fun j s hj => (h.sec j s hj).keepX (M := fun _ => False) (fun b hb _ => hk b hb) (fun _ _ _ hm => hm.elim) (fun _ _ _ hm => hm.elim) fun _ hb => hb, h.len, h.fg, h.fr, fun b hb => Nat.lt_of_lt_of_le (h.lt b hb) hs, h.nl⟩
  rcases h.row.2 with h0 | ⟨r, cap, cur, h1, h2, h3, h4⟩
  · exact .inl h0
  · exact .inr ⟨r, cap, cur, h1, h2, (hk r (h.fr r (by rw [h1]; rfl))).trans h3, h4⟩
theorem RDr.below (h : RDr w F g A n c cs ss) (hb : Below w.heap.size w w') : RDr w' F g A n c cs ss := h.keep hb.size fun b hF => hb.block b (h.lt b hF)
theorem RD.keep (h : RD w F g ss) (hs : w.heap.size ≤ w'.heap.size) (hk : ∀ b, F b → w'.heap[b]? = w.heap[b]?) : RD w' F g ss := by
  obtain ⟨A, n, c, cs, h⟩ := h
  exact ⟨A, n, c, cs, h.keep hs hk⟩
theorem RD.below (h : RD w F g ss) (hb : Below w.heap.size w w') : RD w' F g ss := by
  obtain ⟨A, n, c, cs, h⟩ := h
  exact ⟨A, n, c, cs, h.below hb⟩
theorem RD.lt (h : RD w F g ss) : ∀ b, F b → b < w.heap.size := by obtain ⟨A, n, c, cs, h⟩ := h; exact h.lt
theorem RD.glt (h : RD w F g ss) : g < w.heap.size := by obtain ⟨A, n, c, cs, h⟩ := h; exact h.lt g h.fg
theorem RD.nl (h : RD w F g ss) : ss.length ≤ 4096 := by obtain ⟨A, n, c, cs, h⟩ := h; rw [h.len]; exact h.nl
/-- The place of a sector. -/
theorem RDr.at_ (h : RDr w F g A n c cs ss) {j : Nat} (hj : j < n) : ∃ r s a c', A = some ⟨r, 0, none⟩ ∧ ss[j]? = some s ∧ w.cell? ⟨r, j * 2, none⟩ = some (.slice a (s.wait.length + 1) c') ∧ w.cell? ⟨r, j * 2 + 1, none⟩ = some (.bool s.bad) ∧ (s.wait.length + 1 ≤ c' ∧ c' ≤ maxLen) ∧ s.wait.length ≤ 1000000 ∧ VB w F a s.vals ∧ F r ∧ r ≠ g := by
  have hs := List.getElem?_eq_getElem (l := ss) (i := j) (by rw [h.len]; exact hj)
  obtain ⟨a, c', h1, h2, h3, h4, h5⟩ := h.sec j _ hs
  obtain ⟨r, cap, hv, _, _⟩ := h.row.form (by omega)
  have ha : A = some ⟨r, 0, none⟩ := by injection hv
  subst ha
  have e1 : ∀ k, (⟨r, 0, none⟩ : Addr).add k = ⟨r, k, none⟩ := fun k => by unfold Addr.add; split <;> simp_all
  have c1 := h.row.cells (g := r) rfl _ _ h1
  have c2 := h.row.cells (g := r) rfl _ _ h2
  rw [e1] at c1 c2
  refine ⟨r, _, a, c', rfl, hs, c1, c2, h3, h4, h5, h.fr r rfl, fun e => ?_⟩
  obtain ⟨cur, h'⟩ := own_type h.row (b := r) rfl
  rw [e, h.blk] at h'
  simp at h'
/-- Blocks of the disk that are no bytes and no row of values. -/
theorem RDr.kinds (h : RDr w F g A n c cs ss) {b : Nat} (hb : b = g ∨ (Value.slice A n c).ownBlock = some b) : (∀ cur fr, w.heap[b]? ≠ some (.cells cur 5 fr)) ∧ ∀ cur fr, w.heap[b]? ≠ some (.cells cur 37 fr) := by
  rcases hb with rfl | hb
  · exact ⟨fun cur fr hh => (by rw [h.blk] at hh; simp at hh), fun cur fr hh => (by rw [h.blk] at hh; simp at hh)⟩
  · obtain ⟨cur', h'⟩ := own_type h.row hb
    exact ⟨fun cur fr hh => (by rw [h'] at hh; simp at hh), fun cur fr hh => (by rw [h'] at hh; simp at hh)⟩
/-- One cell of the row turns. -/
theorem own_set2 {base : Nat} {e : TypeId} {r s p : Nat} {xs : List Value} {v : Value} (h : w.ownsRow base e s (.slice (some ⟨r, 0, none⟩) n c) n xs) : (w.setCell ⟨r, p, none⟩ v).ownsRow base e s (.slice (some ⟨r, 0, none⟩) n c) n (xs.set p v) := by
  refine ⟨by rw [List.length_set]; exact h.1, ?_⟩
  rcases h.2 with ⟨h1, _⟩ | ⟨g', cap, cur, hv, hb, hg, h1, h2, h3, h4⟩
  · cases h1
  · injection hv with hv1 hv2 hv3
    injection hv1 with hv1
    injection hv1 with hv1
    subst hv1
    subst hv3
    refine .inr ⟨r, c, cur.setIfInBounds p v, rfl, hb, heap_setCell_same _ _ _ _ _ _ hg, h1, h2, by rw [Array.size_setIfInBounds]; exact h3, ?_⟩
    rw [Array.toList_setIfInBounds, ← h4, List.take_set]
theorem RDr.cell (h : RDr w F g A n c cs ss) {r i p : Nat} {v : Value} {s' : Sec} (hA : A = some ⟨r, 0, none⟩) (hi : i < n) (hp : p = i * 2 ∨ p = i * 2 + 1) (hF : ∀ b, F b → F' b) (hlt : ∀ b, F' b → b < w.heap.size) (hs : RSec w F' (cs.set p v) i s') :
    RDr (w.setCell ⟨r, p, none⟩ v) F' g A n c (cs.set p v) (ss.set i s') := by
  subst hA
  have hrg : g ≠ r := fun e => by
    obtain ⟨cur, h'⟩ := own_type h.row (b := r) rfl
    rw [← e, h.blk] at h'
    simp at h'
  have hk : ∀ b, b ≠ r → (w.setCell ⟨r, p, none⟩ v).heap[b]? = w.heap[b]? := fun b hb => heap_setCell_other _ _ _ _ hb
  have hkd := h.kinds (b := r) (.inr rfl)
  refine ⟨(hk g hrg).trans h.blk, own_set2 h.row, fun j s hj => ?_, by rw [List.length_set]; exact h.len, hF g h.fg, fun r' hr => hF r' (h.fr r' hr), fun b hb => by rw [set_size]; exact hlt b hb, h.nl⟩
  by_cases hij : i = j
  · subst hij
    rw [List.getElem?_set_self (by rw [h.len]; exact hi)] at hj
    injection hj with hj
    subst hj
    exact hs.keepX (M := fun b => b = r) (fun b _ hb => hk b hb) (fun b cur fr hm => hm ▸ hkd.1 cur fr) (fun b cur fr hm => hm ▸ hkd.2 cur fr) fun _ hb => hb
  · rw [List.getElem?_set_ne hij] at hj
    exact ((h.sec j s hj).cells (List.getElem?_set_ne (by omega)) (List.getElem?_set_ne (by omega))).keepX (M := fun b => b = r) (fun b _ hb => hk b hb) (fun b cur fr hm => hm ▸ hkd.1 cur fr) (fun b cur fr hm => hm ▸ hkd.2 cur fr) hF
/-- One sector's values turn. -/
theorem RDr.put (h : RDr w F g A n c cs ss) {r i : Nat} {s s' : Sec} {a : Option Addr} {c' : Nat} (hA : A = some ⟨r, 0, none⟩) (hs : ss[i]? = some s) (hF : ∀ b, F b → F' b) (hlt : ∀ b, F' b → b < w.heap.size) (hv : VB w F' a s'.vals) (hb : s'.bad = s.bad) (hc : s'.wait.length + 1 ≤ c' ∧ c' ≤ maxLen) (hw : s'.wait.length ≤ 1000000) :
    RDr (w.setCell ⟨r, i * 2, none⟩ (.slice a (s'.wait.length + 1) c')) F' g A n c (cs.set (i * 2) (.slice a (s'.wait.length + 1) c')) (ss.set i s') := by
  have hi : i < n := by rw [← h.len]; exact (List.getElem?_eq_some_iff.1 hs).1
  obtain ⟨a0, c0, h1, h2, _⟩ := h.sec i s hs
  refine h.cell hA hi (.inl rfl) hF hlt ⟨a, c', List.getElem?_set_self (List.getElem?_eq_some_iff.1 h1).1, ?_, hc, hw, hv⟩
  rw [List.getElem?_set_ne (by omega), hb]
  exact h2
/-- One sector turns bad, or good. -/
theorem RDr.bad (h : RDr w F g A n c cs ss) {r i : Nat} {s : Sec} {on : Bool} (hA : A = some ⟨r, 0, none⟩) (hs : ss[i]? = some s) : RDr (w.setCell ⟨r, i * 2 + 1, none⟩ (.bool on)) F g A n c (cs.set (i * 2 + 1) (.bool on)) (ss.set i { s with bad := on }) := by
  have hi : i < n := by rw [← h.len]; exact (List.getElem?_eq_some_iff.1 hs).1
  obtain ⟨a0, c0, h1, h2, h3, h4, h5⟩ := h.sec i s hs
  refine h.cell hA hi (.inr rfl) (fun _ hb => hb) h.lt ⟨a0, c0, ?_, List.getElem?_set_self (List.getElem?_eq_some_iff.1 h2).1, h3, h4, h5⟩
  rw [List.getElem?_set_ne (by omega)]
  exact h1
end


theorem rhas_any (F : Nat → Prop) (g : Nat) (ss : List Sec) (i : Int) (w : World) (h : RD w F g ss) (hi : I64 i) :
    Calls Tryd.prog 58 #[.pointer (some ⟨g, 0, none⟩), .int .i64 i] w fun e w' => e = .returned (.bool (hasOf ss.length i)) ∧ w = w' := by
  obtain ⟨A, n, c, cs, h⟩ := h
  rw [h.len]
  have c0 := cell_of_row w g 0 _ _ _ h.blk
  have hnl := h.nl
  simp at c0
  obtain ⟨i0, i1⟩ := hi
  clear h
  by_cases h1 : 0 ≤ i
  · by_cases h2 : i < n
    · rw [show hasOf n i = true from decide_eq_true ⟨h1, h2⟩]
      go_enter Tryd.func58, Tryd.ntmps58
      go_wp2_with fail
      go_ret
      exact ⟨rfl, rfl⟩
    · rw [show hasOf n i = false from decide_eq_false fun h => h2 h.2]
      go_enter Tryd.func58, Tryd.ntmps58
      go_wp2_with fail
      go_ret
      exact ⟨rfl, rfl⟩
  · rw [show hasOf n i = false from decide_eq_false fun h => h1 h.1]
    go_enter Tryd.func58, Tryd.ntmps58
    go_wp2_with fail
    go_ret
    exact ⟨rfl, rfl⟩

set_option maxRecDepth 20000 in
theorem rread_no (F : Nat → Prop) (g : Nat) (ss : List Sec) (i : Int) (w : World) (h : RD w F g ss) (hi : I64 i) (hh : hasOf ss.length i = false) :
    Calls Tryd.prog 56 #[.pointer (some ⟨g, 0, none⟩), .int .i64 i] w fun e w' => e = .returned (.tuple #[.slice none 0 0, .int .i64 20]) ∧ w = w' := by
  have H := mkHid (rhas_any F g ss i w h hi)
  rw [hh] at H
  clear h hi hh
  go_enter Tryd.func56, Tryd.ntmps56
  go_wp2_with fail
  refine H.out.mono ?_
  rintro e w1 ⟨rfl, rfl⟩
  go_wp2_with fail
  go_ret2
  exact ⟨rfl, rfl⟩

set_option maxRecDepth 20000 in
theorem rread_bad (F : Nat → Prop) (g : Nat) (ss : List Sec) (i : Nat) (s : Sec) (w : World) (h : RD w F g ss) (hs : ss[i]? = some s) (hb : s.bad = true) :
    Calls Tryd.prog 56 #[.pointer (some ⟨g, 0, none⟩), .int .i64 i] w fun e w' => e = .returned (.tuple #[.slice none 0 0, .int .i64 21]) ∧ w = w' := by
  have hil := (List.getElem?_eq_some_iff.1 hs).1
  have hnl := h.nl
  have H := mkHid (rhas_any F g ss i w h ⟨by omega, by omega⟩)
  rw [show hasOf ss.length (i : Int) = true from decide_eq_true ⟨by omega, by omega⟩] at H
  obtain ⟨A, n, c, cs, h⟩ := h
  have hlen := h.len
  obtain ⟨r, s', a, c', rfl, hs', k0, k1, _, _, _, _, _⟩ := h.at_ (j := i) (by omega)
  rw [hs] at hs'
  injection hs' with hs'
  subst hs'
  rw [hb] at k1
  obtain ⟨hc1, hc2⟩ := own_cap h.row
  have c0 := cell_of_row w g 0 _ _ _ h.blk
  simp at c0
  rw [hlen] at hil
  clear h hs hb hlen
  go_enter Tryd.func56, Tryd.ntmps56
  go_wp2_with fail
  refine H.out.mono ?_
  rintro e w1 ⟨rfl, rfl⟩
  go_wp2_with fail
  go_ret2
  exact ⟨rfl, rfl⟩

set_option maxRecDepth 20000 in
theorem rread_ok (F : Nat → Prop) (g : Nat) (ss : List Sec) (i : Nat) (s : Sec) (w : World) (h : RD w F g ss) (hs : ss[i]? = some s) (hb : s.bad = false) :
    Calls Tryd.prog 56 #[.pointer (some ⟨g, 0, none⟩), .int .i64 i] w fun e w' => ∃ a c, e = .returned (.tuple #[.slice a 128 c, .int .i64 0]) ∧ (128 ≤ c ∧ c ≤ maxLen) ∧ BS w' w'.heap.size a 128 s.last ∧ Below w.heap.size w w' := by
  have hil := (List.getElem?_eq_some_iff.1 hs).1
  have hnl := h.nl
  have H := mkHid (rhas_any F g ss i w h ⟨by omega, by omega⟩)
  rw [show hasOf ss.length (i : Int) = true from decide_eq_true ⟨by omega, by omega⟩] at H
  have HLT := mkHid h.lt
  obtain ⟨A, n, c, cs, h⟩ := h
  have hlen := h.len
  obtain ⟨r, s', a, c', rfl, hs', k0, k1, hc', hw, hv, _, _⟩ := h.at_ (j := i) (by omega)
  rw [hs] at hs'
  injection hs' with hs'
  subst hs'
  rw [hb] at k1
  obtain ⟨hc1, hc2⟩ := own_cap h.row
  have c0 := cell_of_row w g 0 _ _ _ h.blk
  simp at c0
  rw [hlen] at hil
  obtain ⟨b, a', c2, l, rfl, _, kc, hc3, hl, hgb⟩ := hv.at_ (j := s.wait.length) (by rw [s.vals_len]; omega)
  rw [s.vals_last] at hl
  injection hl with hl
  subst hl
  generalize s.wait.length = m at *
  have HG := mkHid hgb
  have HS0 := mkHid (And.intro c0 (And.intro k0 kc))
  have hwr : IntKind.i64.wrap ((m : Int) + 1 - 1) = (m : Int) := by rw [IntKind.wrap_i64]; omega
  have hj0 : (0 : Int) ≤ (m : Int) := by omega
  have hj1 : (m : Int) < (m : Int) + 1 := by omega
  clear h hs hb hlen hv hgb
  go_enter Tryd.func56, Tryd.ntmps56
  go_wp2_with fail
  refine H.out.mono ?_
  rintro e w1 ⟨rfl, rfl⟩
  go_wp2_with fail
  go_quiet (fail)
  go_wp2_with fail
  go_ret2
  exact ⟨a', c2, rfl, hc3, HG.out.bs HLT.out, below_drewN (Below.refl _ _) _⟩

/-- A new sector of noughts: its values in block b, its bytes in block d. -/
structure ZS (w w' : World) (b d : Nat) : Prop where
  vb : w'.heap[b]? = some (.cells #[.slice (some ⟨d, 0, none⟩) 128 128] 37 (0, 0))
  vd : w'.heap[d]? = some (.cells (zeros.map u8).toArray 5 (0, 0))
  b0 : w.heap.size ≤ b
  d0 : w.heap.size ≤ d
  b1 : b < w'.heap.size
  d1 : d < w'.heap.size
  bel : Below w.heap.size w w'
theorem ZS.gb {w w' : World} {b d : Nat} {F : Nat → Prop} (h : ZS w w' b d) (hF : ∀ b, w.heap.size ≤ b → b < w'.heap.size → F b) : GB w' F (some ⟨d, 0, none⟩) zeros :=
  ⟨zeros_len, zeros_ok, d, 0, _, (0, 0), rfl, hF d h.d0 h.d1, h.vd, fun j hj => by
    rw [Nat.zero_add, List.getElem?_toArray, List.getElem?_map, List.getElem?_eq_getElem (by rw [zeros_len]; exact hj)]; rfl⟩
theorem ZS.vals {w w' : World} {b d : Nat} {F : Nat → Prop} (h : ZS w w' b d) (hF : ∀ b, w.heap.size ≤ b → b < w'.heap.size → F b) : VB w' F (some ⟨b, 0, none⟩) sec0.vals :=
  VB.one (hF b h.b0 h.b1) h.vb ⟨Nat.le_refl _, by unfold maxLen; omega⟩ (h.gb hF)

set_option maxRecDepth 20000 in
theorem zero_any (w : World) : Calls Tryd.prog 80 #[] w fun e w' => ∃ b d, e = .returned (.agg #[.slice (some ⟨b, 0, none⟩) 1 1, .bool false]) ∧ ZS w w' b d := by
  go_enter Tryd.func80, Tryd.ntmps80
  go_wp2_with (at_make; refine wpList_make128 _ rfl rfl w.heap.size (by simp) ?_; intro wm hm1 hm2; have HM1 := mkHid hm1; have HM2 := mkHid hm2; have hszm : w.heap.size + 1 ≤ wm.heap.size := (by have := hm2.size; simpa using this); have hQ := (hm2.block w.heap.size (by simp) (by simp)).trans (heap_alloc_new w _); have hQ' : ∀ o, (wm.alloc o).heap[w.heap.size]? = _ := (fun o => (Below.heap_alloc _ _ _ (by omega)).trans hQ); have k0 : ∀ o, (wm.alloc o).cell? ⟨w.heap.size, 0, none⟩ = some (.slice none 0 0) := (fun o => cell_of_row _ _ 0 _ _ _ (hQ' o)); have k1 : ∀ o, (wm.alloc o).cell? ⟨w.heap.size, 1, none⟩ = some (.bool false) := (fun o => cell_of_row _ _ 1 _ _ _ (hQ' o)); have f0 : ∀ o, (wm.alloc o).frozen? ⟨w.heap.size, 0, none⟩ = false := (fun o => frozen_of_row _ _ 0 _ _ (hQ' o)); have f1 : ∀ o, (wm.alloc o).frozen? ⟨w.heap.size, 1, none⟩ = false := (fun o => frozen_of_row _ _ 1 _ _ (hQ' o)); have HQ := mkHid hQ; clear hm1 hm2 hQ hQ')
  have hQW : ∀ (W : World) (v v' : Value) (b : Nat), b ≠ w.heap.size → ((W.setCell ⟨w.heap.size, 0, none⟩ v).setCell ⟨w.heap.size, 1, none⟩ v').heap[b]? = W.heap[b]? := fun W v v' b hb => (heap_setCell_other _ _ _ _ hb).trans (heap_setCell_other _ _ _ _ hb)
  have hb1 := (((Below.refl w.heap.size w).alloc (Nat.le_refl _) (.cells #[.slice none 0 0, .bool false] 110)).grown HM2.out (by simp) (fun k hk => by cases hk)).alloc (o := .cells #[.slice (some ⟨w.heap.size + 1, 0, none⟩) 128 128] 37) (by omega)
  have ho := HM1.out
  obtain ⟨r, cur, hr, hr0, hr1, hr2, _, _, hr3, hr4⟩ := own_block ho (by omega)
  injection hr with hr
  injection hr with hr
  rw [Nat.mul_one] at hr3 hr4
  rw [List.take_of_length_le (by omega)] at hr4
  subst hr4
  simp at hr
  subst hr
  refine bodyPost_ret (v := .agg #[.slice (some ⟨wm.heap.size, 0, none⟩) 1 1, .bool false]) (by simp [results, Tryd.results80, go_sem, k0, k1]) rfl ⟨wm.heap.size, w.heap.size + 1, rfl, ?_⟩
  refine ⟨(hQW _ _ _ _ (by omega)).trans (heap_alloc_new wm _), (hQW _ _ _ _ (by omega)).trans ((Below.heap_alloc _ _ _ (by omega)).trans hr2), by omega, by omega, by simp, by simp; omega, (hb1.setCell (Nat.le_refl _) _).setCell (Nat.le_refl _) _⟩


/-- The row has one sector more. -/
theorem RDr.snoc {w w2 w3 : World} {F : Nat → Prop} {g : Nat} {A A' : Option Addr} {n c c' : Nat} {cs : List Value} {ss : List Sec} (h : RDr w F g A n c cs ss) {b d : Nat} (hz : ZS w w2 b d)
    (ho3 : w3.ownsRow 0 110 2 (.slice A' (n + 1) c') (n + 1) (cs ++ [.slice (some ⟨b, 0, none⟩) 1 1, .bool false])) {o : Obj} (hg3 : (w2.alloc o).grownBy w3 (Value.slice A n c).ownBlock)
    (hat : (Value.slice A' (n + 1) c').ownBlock = (Value.slice A n c).ownBlock ∨ (Value.slice A' (n + 1) c').ownBlock = some (w2.alloc o).heap.size) (hnm : n + 1 ≤ 4096) :
    Turn F w (w3.setCell ⟨g, 0, none⟩ (.slice A' (n + 1) c')) ∧ ∃ F', RD (w3.setCell ⟨g, 0, none⟩ (.slice A' (n + 1) c')) F' g (ss ++ [sec0]) ∧ ∀ b, F' b → F b ∨ w.heap.size ≤ b := by
  have hb2 := hz.bel
  have s2 := hb2.size
  have s3 : w2.heap.size + 1 ≤ w3.heap.size := by have := hg3.size; simpa using this
  have s4 : (w3.setCell ⟨g, 0, none⟩ (.slice A' (n + 1) c')).heap.size = w3.heap.size := by simp [World.setCell]
  have hglt := h.lt g h.fg
  have hrlt : ∀ b, (Value.slice A n c).ownBlock = some b → b < w.heap.size := fun b hb => h.lt b (h.fr b hb)
  have hgr : (Value.slice A n c).ownBlock ≠ some g := fun e => by
    obtain ⟨cur, h'⟩ := own_type h.row e
    rw [h.blk] at h'
    simp at h'
  have keep2 : ∀ b, b < w2.heap.size → ¬ (b = g ∨ (Value.slice A n c).ownBlock = some b) → (w3.setCell ⟨g, 0, none⟩ (.slice A' (n + 1) c')).heap[b]? = w2.heap[b]? := fun b hb hno =>
    (heap_setCell_other _ _ _ _ fun e => hno (.inl e)).trans ((hg3.block b (by simp; omega) fun e => hno (.inr e.symm)).trans (Below.heap_alloc _ _ _ hb))
  have keep : ∀ b, b < w.heap.size → ¬ (b = g ∨ (Value.slice A n c).ownBlock = some b) → (w3.setCell ⟨g, 0, none⟩ (.slice A' (n + 1) c')).heap[b]? = w.heap[b]? := fun b hb hno => (keep2 b (by omega) hno).trans (hb2.block b hb)
  have hblk : w3.heap[g]? = some (.cells #[.slice A n c] 48 (0, 0)) := (((hg3.block g (by simp; omega) fun e => hgr e.symm).trans (Below.heap_alloc _ _ _ (by omega))).trans (hb2.block g hglt)).trans h.blk
  have hcl : cs.length = n * 2 := h.row.1
  have hF : ∀ b, F b → F b ∨ (w.heap.size ≤ b ∧ b < w3.heap.size) := fun b hb => .inl hb
  refine ⟨⟨hg3.os.trans hb2.os, hg3.tape.trans hb2.tape, hg3.output.trans hb2.output, by omega, fun k hk hf => keep k hk fun e => hf ?_⟩, fun b => F b ∨ (w.heap.size ≤ b ∧ b < w3.heap.size), ⟨A', n + 1, c', cs ++ [.slice (some ⟨b, 0, none⟩) 1 1, .bool false], ?_⟩, fun b hb => hb.imp id fun h => h.1⟩
  · rcases e with e | e
    · exact e ▸ h.fg
    · exact h.fr k e
  refine ⟨heap_setCell_same _ _ _ _ _ _ hblk, ⟨ho3.1, ?_⟩, fun j s hj => ?_, by simp [h.len], .inl h.fg, fun r hr => ?_, fun b hb => ?_, hnm⟩
  · rcases ho3.2 with h0 | ⟨r', cap, cur, e1, e2, e3, e4⟩
    · exact .inl h0
    · refine .inr ⟨r', cap, cur, e1, e2, (heap_setCell_other _ _ _ _ fun e => ?_).trans e3, e4⟩
      have e : r' = g := e
      rw [e, hblk] at e3
      simp at e3
  · by_cases hjl : j < ss.length
    · rw [List.getElem?_append_left hjl] at hj
      have hjn : j < n := by rw [← h.len]; exact hjl
      exact ((h.sec j s hj).cells (List.getElem?_append_left (by omega)) (List.getElem?_append_left (by omega))).keepX (M := fun b => b = g ∨ (Value.slice A n c).ownBlock = some b) (fun b hb hm => keep b (h.lt b hb) hm) (fun b cur fr hm => (h.kinds hm).1 cur fr) (fun b cur fr hm => (h.kinds hm).2 cur fr) hF
    · have hjl2 := (List.getElem?_eq_some_iff.1 hj).1
      rw [List.length_append, List.length_singleton] at hjl2
      have hjn : j = n := by rw [← h.len]; omega
      rw [List.getElem?_append_right (by omega), show j - ss.length = 0 by omega] at hj
      injection hj with hj
      subst hj
      refine ⟨some ⟨b, 0, none⟩, 1, by rw [List.getElem?_append_right (by omega), hcl, hjn, Nat.sub_self]; rfl, by rw [List.getElem?_append_right (by omega), hcl, hjn, show n * 2 + 1 - n * 2 = 1 by omega]; rfl, ⟨Nat.le_refl _, by unfold maxLen; omega⟩, by simp [sec0], ?_⟩
      have hnew : ∀ b, w.heap.size ≤ b → ¬ (b = g ∨ (Value.slice A n c).ownBlock = some b) := fun b hb hm => by
        rcases hm with e | e
        · omega
        · have := hrlt b e; omega
      exact (hz.vals (F := fun b => w.heap.size ≤ b ∧ b < w2.heap.size) (fun b h1 h2 => ⟨h1, h2⟩)).keep (fun b hb => keep2 b hb.2 (hnew b hb.1)) fun b hb => .inr ⟨hb.1, by omega⟩
  · rcases hat with e | e
    · exact .inl (h.fr r (by rw [← e]; exact hr))
    · have h1 := (ho3.lt r hr).2
      rw [hr] at e
      injection e with e
      exact .inr ⟨by rw [e]; simp; omega, h1⟩
  · rw [s4]
    rcases hb with hb | hb
    · have := h.lt b hb; omega
    · exact hb.2

set_option maxRecDepth 20000 in
set_option maxHeartbeats 2000000 in
theorem rmore_any (F : Nat → Prop) (g : Nat) (ss : List Sec) (m : Nat) (w : World) (h : RD w F g ss) (hm2 : ss.length + m ≤ 4096) :
    Calls Tryd.prog 75 #[.pointer (some ⟨g, 0, none⟩), .int .i64 m] w fun e w' => e = .returned (.tuple #[]) ∧ Turn F w w' ∧ ∃ F', RD w' F' g (ss ++ List.replicate m sec0) ∧ ∀ b, F' b → F b ∨ w.heap.size ≤ b := by
  have H := mkHid h
  clear h
  go_enter Tryd.func75, Tryd.ntmps75
  go_wp2_with fail
  go_loopw [4] (fun i wr => ∃ (q : Nat) (F' : Nat → Prop), q ≤ m ∧ i = .int .i64 q ∧ Turn F w wr ∧ RD wr F' g (ss ++ List.replicate q sec0) ∧ ∀ b, F' b → F b ∨ w.heap.size ≤ b) (fun i _ => m - (intOf i).toNat)
  case atStart => exact ⟨0, F, Nat.zero_le _, rfl, Turn.of_below (Below.refl _ _), by simpa using H.out, fun b hb => .inl hb⟩
  case round =>
    obtain ⟨q, F', hq, rfl, ht, hd, hF⟩ := hrel
    have HT := mkHid ht
    have HF := mkHid hF
    by_cases hlt : q < m
    · obtain ⟨A, n, c, cs, h⟩ := hd
      have hn : n = ss.length + q := by rw [← h.len]; simp
      have hn1 : n + 1 ≤ 4096 := by omega
      have hglt := h.lt g h.fg
      obtain ⟨hc1, hc2⟩ := own_cap h.row
      have HGR := mkHid (fun (w2 w3 : World) (A' : Option Addr) (c' b d : Nat) (o : Obj) hz ho3 hg3 hat => h.snoc (w2 := w2) (w3 := w3) (A' := A') (c' := c') (b := b) (d := d) (o := o) hz ho3 hg3 hat hn1)
      have hgr : (Value.slice A n c).ownBlock ≠ some g := fun e => by
        obtain ⟨cur, h'⟩ := own_type h.row e
        rw [h.blk] at h'
        simp at h'
      have HQN := mkHid hgr
      have HPC := mkHid (show ∀ s1 : World, s1.heap[g]? = wr.heap[g]? → s1.cell? ⟨g, 0, none⟩ = some (.slice A n c) ∧ s1.frozen? ⟨g, 0, none⟩ = false from fun s1 hs1 => by
        have hs' := hs1.trans h.blk
        exact ⟨cell_of_row s1 g 0 _ _ _ hs', frozen_of_row s1 g 0 _ _ hs'⟩)
      have HOW := mkHid (show ∀ W : World, (∀ b, b < wr.heap.size → W.heap[b]? = wr.heap[b]?) → W.ownsRow 0 110 2 (.slice A n c) n cs from fun W hW => own_keep h.row hW)
      obtain ⟨e1, e2⟩ := HPC.out wr rfl
      have HN := mkHid hn
      clear h hgr ht hF hn
      go_wp2_with fail
      go_region_law (first
        | (go_simp; go_at_call 80; refine (zero_any _).mono ?_; rintro e w2 ⟨zb, zd, rfl, hz⟩; have hk2 : w2.heap[g]? = wr.heap[g]? := hz.bel.block g hglt; obtain ⟨hp0, hp2⟩ := HPC.out w2 hk2; obtain ⟨hp3, hp4⟩ := HPC.out (w2.alloc (.cells #[.slice (some ⟨zb, 0, none⟩) 1 1, .bool false] 110)) ((Below.heap_alloc _ _ _ (Nat.lt_of_lt_of_le hglt hz.bel.size)).trans hk2); have HK2 := mkHid hk2; have HZ := mkHid hz; have hs2 : wr.heap.size ≤ w2.heap.size := hz.bel.size; clear hz hk2)
        | (refine step_app _ rfl (.tmp 14) (.tmp 16) _ rfl 0 el_rsec A n c cs rfl (HOW.out _ (fun b hb => (Below.heap_alloc _ _ _ (by omega)).trans (HZ.out.bel.block b hb))) (w2.heap.size + 1) (some ⟨w2.heap.size, 0, none⟩) 1 1 [.slice (some ⟨zb, 0, none⟩) 1 1, .bool false] rfl (SL.of_block (heap_alloc_new _ _) rfl (by omega)) (fun u hu => by simp at hu; rcases hu with rfl | rfl <;> rfl) (by unfold maxLen; omega) (by omega) (by omega) ?_; intro A' c' w3 ho3 hg3 hat3; obtain ⟨hq0, hq2⟩ := HPC.out w3 ((hg3.block g (by simp; omega) (fun e => HQN.out e.symm)).trans ((Below.heap_alloc _ _ _ (by omega)).trans HK2.out)); have HO3 := mkHid ho3; have HG3 := mkHid hg3; have HAT3 := mkHid hat3; clear ho3 hg3 hat3))
      all_goals go_wp2
      all_goals have hst := HGR.out _ _ _ _ _ _ _ ⟨HZ.out.vb, HZ.out.vd, HZ.out.b0, HZ.out.d0, HZ.out.b1, HZ.out.d1, Below.mk HZ.out.bel.os HZ.out.bel.tape HZ.out.bel.output HZ.out.bel.size HZ.out.bel.block⟩ HO3.out HG3.out HAT3.out
      all_goals obtain ⟨k1, F'', k2, k3⟩ := hst
      all_goals have K1 := mkHid k1
      all_goals have K2 := mkHid k2
      all_goals have K3 := mkHid k3
      all_goals clear k1 k2 k3
      all_goals go_roundw
      all_goals first
        | exact ⟨q + 1, F'', by omega, by go_num, HT.out.trans K1.out HF.out, by rw [List.replicate_succ', ← List.append_assoc]; exact K2.out, fun b hb => (K3.out b hb).elim (HF.out b) fun h => .inr (Nat.le_trans HT.out.size h)⟩
        | (simp [intOf]; omega)
    · obtain rfl : q = m := by omega
      have HD := mkHid hd
      clear hd ht hF
      go_wp2_with fail
      go_end0
      exact ⟨rfl, HT.out, F', HD.out, HF.out⟩

theorem RD.new {w : World} {_F : Nat → Prop} {g : Nat} (h : w.heap[g]? = some (.cells #[.slice none 0 0] 48 (0, 0))) : RD w (fun b => b = g) g [] :=
  ⟨none, 0, 0, [], h, World.ownsRow_nil _ _ _ _, (fun j s hj => by simp at hj), rfl, rfl, (fun r hr => by cases hr), (fun b (hb : b = g) => by rw [hb]; exact (Array.getElem?_eq_some_iff.1 h).1), by omega⟩

set_option maxRecDepth 20000 in
theorem rnew_any (n : Nat) (w : World) (h1 : 1 ≤ n) (h2 : n ≤ 4096) : Calls Tryd.prog 51 #[.int .i64 n] w fun e w' => ∃ g F, e = .returned (.pointer (some ⟨g, 0, none⟩)) ∧ RD w' F g (List.replicate n sec0) ∧ (∀ b, F b → w.heap.size ≤ b) ∧ Below w.heap.size w w' := by
  have HD := mkHid (RD.new (_F := fun _ => False) (heap_alloc_new w (.cells #[.slice none 0 0] 48)))
  go_enter Tryd.func51, Tryd.ntmps51
  go_wp2_with fail
  refine (rmore_any _ w.heap.size [] n _ HD.out (by simpa using h2)).mono ?_
  rintro e w1 ⟨rfl, ht, F', hd, hF⟩
  rw [List.nil_append] at hd
  have HD1 := mkHid hd
  have HF := mkHid (show ∀ b, F' b → w.heap.size ≤ b from fun b hb => by
    rcases hF b hb with e | e
    · omega
    · simp at e; omega)
  have HB := mkHid (((Below.refl w.heap.size w).alloc (Nat.le_refl _) (.cells #[.slice none 0 0] 48)).trans (ht.below (fun b hb => by omega) (by simp)))
  clear ht hd hF
  go_wp2_with fail
  go_ret
  exact ⟨_, F', rfl, HD1.out, HF.out, HB.out⟩
theorem rnew_no (n : Int) (w : World) (hn : I64 n) (h : n < 1 ∨ 4096 < n) : Calls Tryd.prog 51 #[.int .i64 n] w fun e w' => e = .returned (.pointer none) ∧ w = w' := by
  obtain ⟨n0, n1⟩ := hn
  rcases h with h | h
  · go_enter Tryd.func51, Tryd.ntmps51
    go_wp2_with fail
    go_ret
    exact ⟨rfl, rfl⟩
  · go_enter Tryd.func51, Tryd.ntmps51
    go_wp2_with fail
    go_ret
    exact ⟨rfl, rfl⟩

set_option maxRecDepth 20000 in
theorem rgrow_no (F : Nat → Prop) (g : Nat) (ss : List Sec) (m : Int) (w : World) (h : RD w F g ss) (hm : I64 m) (hb : m < 1 ∨ 4096 - (ss.length : Int) < m) :
    Calls Tryd.prog 54 #[.pointer (some ⟨g, 0, none⟩), .int .i64 m] w fun e w' => e = .returned (.int .i64 20) ∧ w = w' := by
  obtain ⟨A, n, c, cs, h⟩ := h
  rw [h.len] at hb
  have c0 := cell_of_row w g 0 _ _ _ h.blk
  have hnl := h.nl
  simp at c0
  obtain ⟨m0, m1⟩ := hm
  clear h
  by_cases h1 : m < 1
  · go_enter Tryd.func54, Tryd.ntmps54
    go_wp2_with fail
    go_ret
    exact ⟨rfl, rfl⟩
  · have h2 : 4096 - (n : Int) < m := by omega
    clear hb
    go_enter Tryd.func54, Tryd.ntmps54
    go_wp2_with fail
    go_ret
    exact ⟨rfl, rfl⟩

set_option maxRecDepth 20000 in
theorem rgrow_ok (F : Nat → Prop) (g : Nat) (ss : List Sec) (m : Nat) (w : World) (h : RD w F g ss) (hm1 : 1 ≤ m) (hm2 : ss.length + m ≤ 4096) :
    Calls Tryd.prog 54 #[.pointer (some ⟨g, 0, none⟩), .int .i64 m] w fun e w' => e = .returned (.int .i64 0) ∧ Turn F w w' ∧ ∃ F', RD w' F' g (ss ++ List.replicate m sec0) ∧ ∀ b, F' b → F b ∨ w.heap.size ≤ b := by
  have HM := mkHid (rmore_any F g ss m w h hm2)
  obtain ⟨A, n, c, cs, h⟩ := h
  rw [h.len] at hm2
  have c0 := cell_of_row w g 0 _ _ _ h.blk
  simp at c0
  have hle : (m : Int) ≤ 4096 - (n : Int) := by omega
  clear h
  go_enter Tryd.func54, Tryd.ntmps54
  go_wp2_with fail
  refine HM.out.mono ?_
  rintro e w1 ⟨rfl, ht, F', hd, hF⟩
  have HT := mkHid ht
  have HD := mkHid hd
  have HF := mkHid hF
  clear ht hd hF
  go_wp2_with fail
  go_ret
  exact ⟨rfl, HT.out, F', HD.out, HF.out⟩


set_option maxRecDepth 20000 in
theorem rwrite_no (F : Nat → Prop) (g : Nat) (ss : List Sec) (i : Int) (a : Option Addr) (m c : Nat) (w : World) (h : RD w F g ss) (hi : I64 i) (hh : hasOf ss.length i = false) :
    Calls Tryd.prog 60 #[.pointer (some ⟨g, 0, none⟩), .int .i64 i, .slice a m c] w fun e w' => e = .returned (.int .i64 20) ∧ w = w' := by
  have H := mkHid (rhas_any F g ss i w h hi)
  rw [hh] at H
  clear h hi hh
  go_enter Tryd.func60, Tryd.ntmps60
  go_wp2_with fail
  refine H.out.mono ?_
  rintro e w1 ⟨rfl, rfl⟩
  go_wp2_with fail
  go_ret
  exact ⟨rfl, rfl⟩

set_option maxRecDepth 20000 in
theorem rwrite_size (F : Nat → Prop) (g : Nat) (ss : List Sec) (i : Int) (a : Option Addr) (m c : Nat) (w : World) (h : RD w F g ss) (hi : I64 i) (hh : hasOf ss.length i = true) (hm : m ≠ 128) :
    Calls Tryd.prog 60 #[.pointer (some ⟨g, 0, none⟩), .int .i64 i, .slice a m c] w fun e w' => e = .returned (.int .i64 11) ∧ w = w' := by
  have H := mkHid (rhas_any F g ss i w h hi)
  rw [hh] at H
  have hmb : ((m : Int) != 128) = true := by simp; omega
  clear h hi hh
  go_enter Tryd.func60, Tryd.ntmps60
  go_wp2_with fail
  refine H.out.mono ?_
  rintro e w1 ⟨rfl, rfl⟩
  go_wp2_with fail
  go_ret
  exact ⟨rfl, rfl⟩

/-- Behind the stores of a Write. -/
theorem RDr.wrote {w w1 w2 w3 : World} {F : Nat → Prop} {g r n c i : Nat} {cs : List Value} {ss : List Sec} {s : Sec} {l : List Int} {xs : List Value} {k c1 c3 cc : Nat} {A1 A3 CA : Option Addr} {o : Obj} (h : RDr w F g (some ⟨r, 0, none⟩) n c cs ss) (hs : ss[i]? = some s) (hk : s.wait.length = k)
    (hxs : ∀ (j : Nat) (l : List Int), s.vals[j]? = some l → ∃ (a' : Option Addr) (c' : Nat), xs[j]? = some (.slice a' 128 c') ∧ (128 ≤ c' ∧ c' ≤ maxLen) ∧ GB w F a' l) (hxl : xs.length = k + 1) (hw : k < 1000000)
    (ho1 : w1.ownsRow w.heap.size 37 1 (.slice A1 (k + 1) c1) (k + 1) xs) (hg1 : w.grownBy w1 none)
    (ho2 : w2.ownsRow w1.heap.size 5 1 (.slice CA 128 cc) 128 (l.map u8)) (hl : okBytes l) (hb2 : Below w1.heap.size w1 w2)
    (ho3 : w3.ownsRow w.heap.size 37 1 (.slice A3 (k + 1 + 1) c3) (k + 1 + 1) (xs ++ [.slice CA 128 cc])) (hg3 : (w2.alloc o).grownBy w3 (Value.slice A1 (k + 1) c1).ownBlock) :
    Turn F w (w3.setCell ⟨r, i * 2, none⟩ (.slice A3 (k + 1 + 1) c3)) ∧ ∃ F', RD (w3.setCell ⟨r, i * 2, none⟩ (.slice A3 (k + 1 + 1) c3)) F' g (ss.set i { s with wait := s.wait ++ [l] }) ∧ ∀ b, F' b → F b ∨ w.heap.size ≤ b := by
  subst hk
  have s1 := hg1.size
  have s2 := hb2.size
  have s3 : w2.heap.size + 1 ≤ w3.heap.size := by have := hg3.size; simpa using this
  have hcc := own_cap ho2
  have hown : ∀ b, (Value.slice A1 (s.wait.length + 1) c1).ownBlock = some b → w.heap.size ≤ b ∧ b < w1.heap.size := fun b hb => ho1.lt b hb
  have k3 : ∀ b, b < w2.heap.size → (Value.slice A1 (s.wait.length + 1) c1).ownBlock ≠ some b → w3.heap[b]? = w2.heap[b]? := fun b hb hne => (hg3.block b (by simp; omega) (fun e => hne e.symm)).trans (Below.heap_alloc _ _ _ hb)
  have hbel : Below w.heap.size w w3 := ⟨hg3.os.trans (hb2.os.trans hg1.os), hg3.tape.trans (hb2.tape.trans hg1.tape), hg3.output.trans (hb2.output.trans hg1.output), by omega, fun b hb => (k3 b (by omega) fun e => by have := hown b e; omega).trans ((hb2.block b (by omega)).trans (hg1.block b hb (by simp)))⟩
  have hd3 := h.below hbel
  have hold : ∀ (a' : Option Addr) (l' : List Int), GB w F a' l' → GB w3 (fun b => F b ∨ (w.heap.size ≤ b ∧ b < w3.heap.size)) a' l' := fun a' l' hg => hg.keep (fun b hb => hbel.block b (h.lt b hb)) fun b hb => .inl hb
  have hnew : GB w3 (fun b => F b ∨ (w.heap.size ≤ b ∧ b < w3.heap.size)) CA l := (GB.of_own ho2 hl).keep (fun b hb => k3 b hb.2 fun e => by have := hown b e; omega) fun b hb => .inr ⟨by omega, by omega⟩
  have hv : VB w3 (fun b => F b ∨ (w.heap.size ≤ b ∧ b < w3.heap.size)) A3 (Sec.vals { s with wait := s.wait ++ [l] }) := by
    refine VB.of_own ho3 (by omega) (fun b h1 h2 => .inr ⟨h1, h2⟩) fun j l' hj => ?_
    have hvv : Sec.vals { s with wait := s.wait ++ [l] } = s.vals ++ [l] := rfl
    rw [hvv] at hj
    by_cases hjl : j < s.wait.length + 1
    · rw [List.getElem?_append_left (by rw [s.vals_len]; exact hjl)] at hj
      obtain ⟨a', c', e1, e2, e3⟩ := hxs j l' hj
      exact ⟨a', c', by rw [List.getElem?_append_left (by omega)]; exact e1, e2, hold _ _ e3⟩
    · have hj2 := (List.getElem?_eq_some_iff.1 hj).1
      rw [List.length_append, s.vals_len, List.length_singleton] at hj2
      obtain rfl : j = s.wait.length + 1 := by omega
      rw [List.getElem?_append_right (by rw [s.vals_len]; omega), s.vals_len, Nat.sub_self] at hj
      injection hj with hj
      subst hj
      exact ⟨CA, cc, by rw [List.getElem?_append_right (by omega), hxl, Nat.sub_self]; rfl, hcc, hnew⟩
  have hp := hd3.put (F' := fun b => F b ∨ (w.heap.size ≤ b ∧ b < w3.heap.size)) (s' := { s with wait := s.wait ++ [l] }) (a := A3) (c' := c3) rfl hs (fun b hb => .inl hb) (fun b hb => hb.elim (hd3.lt b) fun e => e.2) hv rfl (by have := own_cap ho3; simpa using this) (by simp; omega)
  have hle : ({ s with wait := s.wait ++ [l] } : Sec).wait.length + 1 = s.wait.length + 1 + 1 := by simp
  rw [hle] at hp
  refine ⟨⟨hbel.os, hbel.tape, hbel.output, by rw [set_size]; exact hbel.size, fun b hb hf => (heap_setCell_other _ _ _ _ fun e => hf ?_).trans (hbel.block b hb)⟩, _, ⟨_, _, _, _, hp⟩, fun b hb => hb.imp id fun e => e.1⟩
  have e : b = r := e
  exact e ▸ h.fr r rfl

set_option maxRecDepth 20000 in
set_option maxHeartbeats 2000000 in
theorem rwrite_ok (F : Nat → Prop) (g : Nat) (ss : List Sec) (i : Nat) (s : Sec) (a : Option Addr) (c0 : Nat) (l : List Int) (w : World) (h : RD w F g ss) (hs : ss[i]? = some s) (hx : BS w w.heap.size a 128 l) (hw : s.wait.length < 1000000) :
    Calls Tryd.prog 60 #[.pointer (some ⟨g, 0, none⟩), .int .i64 i, .slice a 128 c0] w fun e w' => e = .returned (.int .i64 0) ∧ Turn F w w' ∧ ∃ F', RD w' F' g (ss.set i { s with wait := s.wait ++ [l] }) ∧ ∀ b, F' b → F b ∨ w.heap.size ≤ b := by
  have hil := (List.getElem?_eq_some_iff.1 hs).1
  have hnl := h.nl
  have H := mkHid (rhas_any F g ss i w h ⟨by omega, by omega⟩)
  rw [show hasOf ss.length (i : Int) = true from decide_eq_true ⟨by omega, by omega⟩] at H
  obtain ⟨A, n, c, cs, h⟩ := h
  have hlen := h.len
  obtain ⟨r, s', va, vc, rfl, hs', q0, q1, hvc, hw6, hv, hFr, hrg⟩ := h.at_ (j := i) (by omega)
  rw [hs] at hs'
  injection hs' with hs'
  subst hs'
  obtain ⟨hc1, hc2⟩ := own_cap h.row
  have d0 := cell_of_row w g 0 _ _ _ h.blk
  simp at d0
  have hglt := h.lt g h.fg
  have hrlt := h.lt r hFr
  obtain ⟨xs, hsl, hx1, hxs⟩ := hv.sl h.lt
  have hxl : xs.length = s.wait.length + 1 := by have := hsl.1; rw [s.vals_len] at this; omega
  have hll : l.length = 128 := hx.len
  have HW := mkHid (fun w1 w2 w3 c1 c3 cc A1 A3 CA o => h.wrote (w1 := w1) (w2 := w2) (w3 := w3) (l := l) (xs := xs) (c1 := c1) (c3 := c3) (cc := cc) (A1 := A1) (A3 := A3) (CA := CA) (o := o) hs rfl hxs hxl hw)
  have HPC := mkHid (show ∀ s1 : World, s1.heap[g]? = w.heap[g]? → s1.heap[r]? = w.heap[r]? → s1.cell? ⟨g, 0, none⟩ = some (.slice (some ⟨r, 0, none⟩) n c) ∧ s1.cell? ⟨r, i * 2, none⟩ = some (.slice va (s.wait.length + 1) vc) ∧ s1.frozen? ⟨r, i * 2, none⟩ = false from fun s1 h1 h2 => by
    refine ⟨cell_of_row s1 g 0 _ _ _ (h1.trans h.blk), (World.cell?_of_block (w := w) h2).trans q0, ?_⟩
    obtain ⟨cur, hcur⟩ := own_type h.row (b := r) rfl
    exact frozen_of_row s1 r _ _ _ (h2.trans hcur))
  rw [s.vals_len] at hsl
  have HSL := mkHid hsl
  have HX1 := mkHid hx1
  have HX := mkHid hx
  have hin : i < n := by omega
  have hwl : s.wait.length < 1000000 := hw
  generalize s.wait.length = k at *
  clear h hs hlen hxs hv hsl hx1 hx hil hw q1
  go_enter Tryd.func60, Tryd.ntmps60
  go_wp2_with fail
  refine H.out.mono ?_
  rintro e w1 ⟨rfl, rfl⟩
  go_wp2_with (at_builtin; refine wpList_app0 _ rfl (.tmp 15) (.tmp 23) _ rfl w.heap.size el_bs rfl w.heap.size va (k + 1) vc xs rfl HSL.out HX1.out (by unfold maxLen; omega) (by omega) (Nat.le_refl _) ?_; intro A1 c1 w1 ho1 hg1 hat1; have hq1g : w1.heap[g]? = w.heap[g]? := hg1.block g hglt (by simp); have hq1r : w1.heap[r]? = w.heap[r]? := hg1.block r hrlt (by simp); obtain ⟨f0, f1, f2⟩ := HPC.out w1 hq1g hq1r; have HO1 := mkHid ho1; have HG1 := mkHid hg1; have HQ1 := mkHid (And.intro hq1g hq1r); have hsz1 := hg1.size; clear ho1 hg1 hat1 hq1g hq1r)
  have HXA := mkHid (show ∀ W : World, W.heap = w1.heap → BS W W.heap.size a 128 l from fun W hW => by
    rw [hW]
    exact (HX.out.keep fun b hb => by rw [hW]; exact HG1.out.block b hb (by simp)).more hsz1)
  have HK1 := mkHid (show ∀ b, (Value.slice A1 (k + 1) c1).ownBlock = some b → w.heap.size ≤ b from fun b hb => (HO1.out.lt b hb).1)
  go_region_law (first
    | (go_simp; go_at_call 22; refine (copy_any a 128 c0 l _ (HXA.out _ (by rfl)) (by omega)).mono ?_; rintro e w2 ⟨CA, cc, rfl, hcl, hb2⟩; rw [hll] at hcl ⊢; have hk2 : w2.heap[g]? = w.heap[g]? := (hb2.block g (Nat.lt_of_lt_of_le hglt hsz1)).trans HQ1.out.1; have hr2 : w2.heap[r]? = w.heap[r]? := (hb2.block r (Nat.lt_of_lt_of_le hrlt hsz1)).trans HQ1.out.2; have hs2 : w1.heap.size ≤ w2.heap.size := hb2.size; obtain ⟨a0, a1, a2⟩ := HPC.out w2 hk2 hr2; obtain ⟨b0, b1, b2⟩ := HPC.out (w2.alloc (.cells #[.slice CA 128 cc] 37)) ((Below.heap_alloc _ _ _ (by omega)).trans hk2) ((Below.heap_alloc _ _ _ (by omega)).trans hr2); have HK2 := mkHid (And.intro hk2 hr2); have HCL := mkHid hcl; have HB2 := mkHid hb2; clear hcl hb2 hk2 hr2)
    | (refine step_app _ rfl (.tmp 30) (.tmp 33) _ rfl w.heap.size el_bs A1 (k + 1) c1 xs rfl (own_keep HO1.out (fun b hb => (Below.heap_alloc _ _ b (by omega)).trans (HB2.out.block b hb))) (w2.heap.size + 1) (some ⟨w2.heap.size, 0, none⟩) 1 1 [.slice CA 128 cc] rfl (SL.of_block (heap_alloc_new w2 _) rfl (by omega)) (fun u hu => by obtain rfl := List.mem_singleton.1 hu; rfl) (by unfold maxLen; omega) (by omega) (by simp; omega) ?_; intro A3 c3 w3 ho3 hg3 hat3; obtain ⟨e0, e1, e2⟩ := HPC.out w3 (((hg3.block g (by simp; omega) (fun e => by have := HK1.out _ e.symm; omega)).trans (Below.heap_alloc w2 _ g (by omega))).trans HK2.out.1) (((hg3.block r (by simp; omega) (fun e => by have := HK1.out _ e.symm; omega)).trans (Below.heap_alloc w2 _ r (by omega))).trans HK2.out.2); have HO3 := mkHid ho3; have HG3 := mkHid hg3; clear ho3 hg3 hat3))
  all_goals go_wp2
  all_goals go_ret
  all_goals exact ⟨rfl, HW.out _ _ _ _ _ _ _ _ _ _ HO1.out HG1.out HCL.out HX.out.2 (Below.mk HB2.out.os HB2.out.tape HB2.out.output HB2.out.size HB2.out.block) HO3.out HG3.out⟩


set_option maxRecDepth 20000 in
set_option maxHeartbeats 1000000 in
theorem rpending_any (F : Nat → Prop) (g : Nat) (ss : List Sec) (w : World) (h : RD w F g ss) :
    Calls Tryd.prog 64 #[.pointer (some ⟨g, 0, none⟩)] w (RetI w (pend ss)) := by
  obtain ⟨A, n, c, cs, h⟩ := h
  have hnl := h.nl
  obtain ⟨hc1, hc2⟩ := own_cap h.row
  have HD := mkHid h
  have hlen := h.len
  unfold pend
  rw [hlen]
  clear h hlen
  go_enter Tryd.func64, Tryd.ntmps64
  go_wp2_with fail
  go_loopw [4, 3] (fun i out wr => ∃ (q : Nat) (O : Option Addr) (L C : Nat), q ≤ n ∧ i = .int .i64 q ∧ out = .slice O L C ∧ L = (pendN ss q).length ∧ wr.ownsRow w.heap.size 3 1 (.slice O L C) L ((pendN ss q).map i64v) ∧ Below w.heap.size w wr) (fun i _ _ => n - (intOf i).toNat)
  case atStart => exact ⟨0, none, 0, 0, Nat.zero_le _, rfl, rfl, rfl, World.ownsRow_nil _ _ _ _, Below.refl _ _⟩
  case round =>
    obtain ⟨q, O, L, C, hq, rfl, rfl, hL, ho, hb⟩ := hrel
    have hsz := hb.size
    have hLq : L ≤ q := by rw [hL]; exact pendN_len ss q
    have hdr := HD.out.below hb
    have c0 := cell_of_row wr g 0 _ _ _ hdr.blk
    simp at c0
    have HL := mkHid hL
    have HO := mkHid ho
    have HB := mkHid hb
    by_cases hlt : q < n
    · obtain ⟨r, s, a, vc, rfl, hs', q0, _, hvc, h9, _, _, _⟩ := hdr.at_ hlt
      have hwt : waits ss q = decide (0 < s.wait.length) := by unfold waits; rw [hs']; rfl
      have HWT := mkHid hwt
      generalize s.wait.length = wn at *
      clear hL ho hb hs' hwt hdr
      rcases Nat.eq_zero_or_pos wn with h0 | h0
      · subst h0
        go_wp2_with fail
        go_roundw
        case rel =>
          refine ⟨q + 1, O, L, C, by omega, by go_num, rfl, ?_, ?_, HB.out⟩
          · rw [pendN_succ, HWT.out]; simpa using HL.out
          · rw [pendN_succ, HWT.out]; simpa using HO.out
        case measure => simp [intOf]; omega
      · have hwp : (1 : Int) < (wn : Int) + 1 := by omega
        go_wp2_with (at_builtin; refine wpList_app _ rfl (.tmp 24) (.tmp 26) _ rfl w.heap.size el_int O L C _ rfl (HO.out.alloc _) (wr.heap.size + 1) (some ⟨wr.heap.size, 0, none⟩) 1 1 [i64v q] rfl (SL.one _ _) (fun u hu => by obtain rfl := List.mem_singleton.1 hu; rfl) (by unfold maxLen; omega) (by omega) (by simp; omega) ?_; intro O' C' w3 ho3 hg3 hat3; have HO3 := mkHid ho3; have HG3 := mkHid hg3; clear ho3 hg3 hat3)
        go_roundw
        case rel =>
          refine ⟨q + 1, O', L + 1, C', by omega, by go_num, rfl, ?_, ?_, (HB.out.alloc hsz _).grown HG3.out (by simp; omega) (own_base HO.out)⟩
          · rw [pendN_succ, HWT.out, decide_eq_true h0]; simpa using HL.out
          · rw [pendN_succ, HWT.out, decide_eq_true h0]; simpa using HO3.out
        case measure => simp [intOf]; omega
    · obtain rfl : q = n := by omega
      clear hL ho hb hdr
      go_wp2_with fail
      go_ret
      obtain rfl := HL.out
      exact ⟨O, C, rfl, HO.out, HB.out⟩

/-- One sector has one value in a new row. -/
theorem RDr.one {w W : World} {F : Nat → Prop} {g r n c i : Nat} {cs : List Value} {ss : List Sec} {s : Sec} {a' : Option Addr} {c' : Nat} {l : List Int} (h : RDr w F g (some ⟨r, 0, none⟩) n c cs ss) (hs : ss[i]? = some s) (hg : GB w F a' l) (hc : 128 ≤ c' ∧ c' ≤ maxLen)
    (hW : W.heap = ((w.setCell ⟨r, i * 2, none⟩ (.slice (some ⟨w.heap.size, 0, none⟩) 1 1)).alloc (.cells #[.slice a' 128 c'] 37)).heap) (ho : W.os = w.os ∧ W.tape = w.tape ∧ W.output = w.output) :
    Turn F w W ∧ ∃ F', (∃ cs', RDr W F' g (some ⟨r, 0, none⟩) n c cs' (ss.set i ⟨l, [], s.bad⟩)) ∧ ∀ b, F' b → F b ∨ w.heap.size ≤ b := by
  have hrF : F r := h.fr r rfl
  rw [← World.setCell_alloc_past _ _ _ _ (h.lt r hrF)] at hW
  have hrlt := h.lt r hrF
  have hb : Below w.heap.size w (w.alloc (.cells #[.slice a' 128 c'] 37)) := (Below.refl _ _).alloc (Nat.le_refl _) _
  have hv : VB (w.alloc (.cells #[.slice a' 128 c'] 37)) (fun b => F b ∨ b = w.heap.size) (some ⟨w.heap.size, 0, none⟩) (Sec.vals ⟨l, [], s.bad⟩) :=
    VB.one (.inr rfl) (heap_alloc_new w _) hc (hg.keep (fun b hb' => hb.block b (h.lt b hb')) fun b hb' => .inl hb')
  have hp := (h.below hb).put (F' := fun b => F b ∨ b = w.heap.size) (s' := ⟨l, [], s.bad⟩) (c' := 1) rfl hs (fun b hb => .inl hb) (fun b hb' => by
    rcases hb' with e | e
    · have := h.lt b e; simp; omega
    · rw [e]; simp) hv rfl ⟨Nat.le_refl _, by unfold maxLen; omega⟩ (by simp)
  have hsz : W.heap.size = w.heap.size + 1 := by rw [hW, set_size]; simp
  refine ⟨⟨ho.1, ho.2.1, ho.2.2, by omega, fun k hk hf => ?_⟩, _, ⟨_, hp.keep (by rw [hW]; exact Nat.le_refl _) fun b _ => by rw [hW]; rfl⟩, fun b hb' => hb'.imp id fun e => by omega⟩
  rw [hW]
  exact (heap_setCell_other _ _ _ _ fun e => hf (by have e : k = r := e; rw [e]; exact hrF)).trans (Below.heap_alloc _ _ _ hk)

set_option maxRecDepth 20000 in
set_option maxHeartbeats 2000000 in
theorem rflush_any (F : Nat → Prop) (g : Nat) (ss : List Sec) (w : World) (h : RD w F g ss) :
    Calls Tryd.prog 61 #[.pointer (some ⟨g, 0, none⟩)] w fun e w' => e = .returned (.int .i64 (pend ss).length) ∧ Turn F w w' ∧ ∃ F', RD w' F' g (flushed ss) ∧ ∀ b, F' b → F b ∨ w.heap.size ≤ b := by
  have HP := mkHid (rpending_any F g ss w h)
  have hpl : (pend ss).length ≤ 4096 := Nat.le_trans (pendN_len ss _) h.nl
  obtain ⟨A, n, c, cs, h⟩ := h
  have hnl := h.nl
  obtain ⟨hc1, hc2⟩ := own_cap h.row
  have HD := mkHid h
  have hlen := h.len
  clear h
  go_enter Tryd.func61, Tryd.ntmps61
  go_wp2_with fail
  refine HP.out.mono ?_
  rintro e w1 ⟨PA, pc, rfl, _, hb1⟩
  have HB1 := mkHid hb1
  clear hb1
  go_wp2_with fail
  go_loopw [4] (fun i wr => ∃ (q : Nat) (F' : Nat → Prop) (cs : List Value), q ≤ n ∧ i = .int .i64 q ∧ Turn F w wr ∧ RDr wr F' g A n c cs (flN ss q) ∧ ∀ b, F' b → F b ∨ w.heap.size ≤ b) (fun i _ => n - (intOf i).toNat)
  case atStart => exact ⟨0, F, cs, Nat.zero_le _, rfl, Turn.of_below HB1.out, by simpa [flN] using HD.out.below HB1.out, fun b hb => .inl hb⟩
  case round =>
    clear HB1 HD HP
    obtain ⟨q, F', cs, hq, rfl, ht, hd, hF⟩ := hrel
    have c0 := cell_of_row wr g 0 _ _ _ hd.blk
    simp at c0
    have HT := mkHid ht
    have HF := mkHid hF
    by_cases hlt : q < n
    · obtain ⟨r, s, a, vc, rfl, hs', q0, q1, hvc, h9, hv, hFr, hrg⟩ := hd.at_ hlt
      obtain ⟨b, a', c', l, rfl, hFb, kc, hc', hl, hgb⟩ := hv.at_ (j := s.wait.length) (by rw [s.vals_len]; omega)
      rw [s.vals_last] at hl
      injection hl with hl
      subst hl
      have HON := mkHid (fun (W : World) => hd.one (W := W) hs' hgb hc')
      rw [flN_get (by omega)] at hs'
      have HST := mkHid (flN_set hs')
      have hrlt := hd.lt r hFr
      have hglt := hd.lt g hd.fg
      have hblt := hd.lt b hFb
      have hfz : wr.frozen? ⟨r, q * 2, none⟩ = false := by
        obtain ⟨cur, hcur⟩ := own_type hd.row (b := r) rfl
        exact frozen_of_row wr r _ _ _ hcur
      have HS := mkHid (show ∀ Z : World, (∀ k, k < wr.heap.size → k ≠ r → Z.heap[k]? = wr.heap[k]?) → Z.cell? ⟨g, 0, none⟩ = some (.slice (some ⟨r, 0, none⟩) n c) ∧ Z.cell? ⟨b, s.wait.length, none⟩ = some (.slice a' 128 c') from fun Z hZ => ⟨(World.cell?_of_block (w := wr) (hZ g hglt (fun e => hrg e.symm))).trans c0, (World.cell?_of_block (w := wr) (hZ b hblt (fun e => by
        obtain ⟨cur, hcur⟩ := own_type hd.row (b := r) rfl
        obtain ⟨b', cur', fr, e1, _, e2, _⟩ := hv
        injection e1 with e1
        injection e1 with e1
        rw [← e1, e, hcur] at e2
        simp at e2))).trans kc⟩)
      clear hs' hd hv hgb ht hF
      generalize s.wait.length = wn at *
      have hwr : IntKind.i64.wrap ((wn : Int) + 1 - 1) = (wn : Int) := by rw [IntKind.wrap_i64]; omega
      have hwr2 : IntKind.i64.wrap (wn : Int) = (wn : Int) := by rw [IntKind.wrap_i64]; omega
      have hj0 : (0 : Int) ≤ (wn : Int) := by omega
      have hj1 : (wn : Int) < (wn : Int) + 1 := by omega
      go_wp2_with fail
      go_region_held3 (fun s => s.cell? ⟨g, 0, none⟩ = some (.slice (some ⟨r, 0, none⟩) n c) ∧ s.cell? ⟨b, wn, none⟩ = some (.slice a' 128 c')) (first | assumption | exact HS.out _ (fun _ _ _ => rfl) | exact HS.out _ (fun k hk _ => Below.heap_alloc _ _ _ hk) | exact HS.out _ (fun k hk hkr => (Below.heap_alloc _ _ _ (by rw [set_size]; exact hk)).trans (heap_setCell_other _ _ _ _ hkr))) (fail)
      go_wp2_with fail
      go_roundw
      case rel =>
        obtain ⟨k1, F'', ⟨cs', k2⟩, k3⟩ := HON.out ((wr.setCell ⟨r, q * 2, none⟩ (.slice (some ⟨wr.heap.size, 0, none⟩) 1 1)).alloc (.cells #[.slice a' 128 c'] 37)).drew rfl ⟨rfl, rfl, rfl⟩
        refine ⟨q + 1, F'', cs', by omega, by go_num, HT.out.trans k1 HF.out, ?_, fun b hb => (k3 b hb).elim (HF.out b) fun h => .inr (Nat.le_trans HT.out.size h)⟩
        rw [← HST.out]
        exact k2
      case measure => simp [intOf]; omega
    · obtain rfl : q = n := by omega
      rw [← hlen, flN_all] at hd
      have HD := mkHid hd
      clear hd ht hF
      go_wp2_with fail
      go_ret
      exact ⟨rfl, HT.out, F', ⟨_, _, _, _, HD.out⟩, HF.out⟩


theorem crashS_at {s : Sec} {x : Int} {J : Nat} {l : List Int} (hw : 0 < s.wait.length) (hl : s.vals[J]? = some l) (hJ : (x ≤ 0 ∧ J = 0) ∨ (0 < x ∧ x ≤ s.wait.length ∧ x = J) ∨ ((s.wait.length : Int) < x ∧ J = s.wait.length)) : crashS x s = ⟨l, [], s.bad⟩ := by
  unfold crashS
  rcases hJ with ⟨h1, rfl⟩ | ⟨h1, h2, h3⟩ | ⟨h1, rfl⟩
  · rw [if_neg (by omega)]
    injection hl with hl
    rw [hl]
  · obtain ⟨m, rfl⟩ : ∃ m, J = m + 1 := ⟨J - 1, by omega⟩
    rw [if_pos h1, show (min x (s.wait.length : Int)).toNat - 1 = m by omega]
    rw [show s.vals[m + 1]? = s.wait[m]? from rfl] at hl
    rw [hl]
    rfl
  · obtain ⟨m, hm⟩ : ∃ m, s.wait.length = m + 1 := ⟨s.wait.length - 1, by omega⟩
    rw [if_pos (by omega), show (min x (s.wait.length : Int)).toNat - 1 = m by omega]
    rw [hm, show s.vals[m + 1]? = s.wait[m]? from rfl] at hl
    rw [hl]
    rfl

/-- A slice of ints that lies outside of what may turn, if it is not empty. -/
theorem IS.turn0 {w w' : World} {F : Nat → Prop} {n : Nat} {a : Option Addr} {l : List Int} (h : IS w w.heap.size a n l) (ht : Turn F w w') (ho : 0 < n → ∀ ad : Addr, a = some ad → ¬ F ad.block) : IS w' w'.heap.size a n l :=
  ⟨⟨h.1.1, fun j hj => by
    obtain ⟨b, o, ha, hb, hc⟩ := h.1.2 j hj
    exact ⟨b, o, ha, Nat.lt_of_lt_of_le hb ht.size, (World.cell?_of_block (w := w) (ht.block b hb (ho (by omega) _ ha))).trans hc⟩⟩, h.2⟩

/-- The state of the crash's loop. -/
structure RCR (w wr : World) (F F' : Nat → Prop) (g : Nat) (A : Option Addr) (n c : Nat) (cs : List Value) (ss0 ss : List Sec) (P : List Int) (k : Nat) (l : List Int) : Prop where
  t : Turn F w wr
  d : RDr wr F' g A n c cs ss
  ff : ∀ b, F' b → F b ∨ w.heap.size ≤ b
  fin : crashL (P.drop k) (l.drop k) ss = crashL P l ss0
  keep : ∀ (t i : Nat), k ≤ t → P[t]? = some (i : Int) → ss[i]? = ss0[i]?
theorem RCR.step {w wr W : World} {F F' : Nat → Prop} {g r : Nat} {n c : Nat} {cs : List Value} {ss0 ss : List Sec} {P : List Int} {k : Nat} {l : List Int} (h : RCR w wr F F' g (some ⟨r, 0, none⟩) n c cs ss0 ss P k l) {i J : Nat} {s : Sec} (hP : P.drop k = (i : Int) :: P.drop (k + 1)) (hPk : P[k]? = some (i : Int)) (hinj : ∀ (t t' : Nat) (x : Int), P[t]? = some x → P[t']? = some x → t = t')
    (hs : ss[i]? = some s) (hw : 0 < s.wait.length) {a' : Option Addr} {c' : Nat} {v : List Int} (hv : s.vals[J]? = some v) (hJ : (l[k]?.getD 0 ≤ 0 ∧ J = 0) ∨ (0 < l[k]?.getD 0 ∧ l[k]?.getD 0 ≤ s.wait.length ∧ l[k]?.getD 0 = J) ∨ ((s.wait.length : Int) < l[k]?.getD 0 ∧ J = s.wait.length)) (hg : GB wr F' a' v) (hc : 128 ≤ c' ∧ c' ≤ maxLen)
    (hW : W.heap = ((wr.setCell ⟨r, i * 2, none⟩ (.slice (some ⟨wr.heap.size, 0, none⟩) 1 1)).alloc (.cells #[.slice a' 128 c'] 37)).heap) (ho : W.os = wr.os ∧ W.tape = wr.tape ∧ W.output = wr.output) :
    ∃ F'' cs' ss', RCR w W F F'' g (some ⟨r, 0, none⟩) n c cs' ss0 ss' P (k + 1) l := by
  obtain ⟨k1, F'', ⟨cs', k2⟩, k3⟩ := h.d.one hs hg hc hW ho
  refine ⟨F'', cs', _, h.t.trans k1 h.ff, k2, fun b hb => (k3 b hb).elim (h.ff b) fun e => .inr (Nat.le_trans h.t.size e), ?_, fun t j ht hj => ?_⟩
  · have hf := h.fin
    rw [hP, crashL, Int.toNat_natCast, hs, List.drop_drop, List.getElem?_drop] at hf
    simp only [Nat.add_zero] at hf
    rw [crashS_at hw hv hJ] at hf
    exact hf
  · have hji : i ≠ j := fun e => by
      subst e
      have := hinj t k _ hj hPk
      omega
    rw [List.getElem?_set_ne hji]
    exact h.keep t j (by omega) hj

set_option maxRecDepth 20000 in
set_option maxHeartbeats 4000000 in
theorem rcrash_any (F : Nat → Prop) (g : Nat) (ss : List Sec) (a : Option Addr) (np cp : Nat) (l : List Int) (w : World) (h : RD w F g ss) (hx : IS w w.heap.size a np l) (hout : 0 < np → ∀ ad : Addr, a = some ad → ¬ F ad.block) (hc : np ≤ cp ∧ cp ≤ 9223372036854775807) :
    Calls Tryd.prog 65 #[.pointer (some ⟨g, 0, none⟩), .slice a np cp] w fun e w' => e = .returned (.tuple #[]) ∧ Turn F w w' ∧ ∃ F', RD w' F' g (crashed ss l) ∧ ∀ b, F' b → F b ∨ w.heap.size ≤ b := by
  have HP := mkHid (rpending_any F g ss w h)
  have hpl : (pend ss).length ≤ 4096 := Nat.le_trans (pendN_len ss _) h.nl
  obtain ⟨A, n, c, cs, h⟩ := h
  have hnl := h.nl
  have hlen := h.len
  obtain ⟨hc1, hc2⟩ := own_cap h.row
  have HD := mkHid h
  have HX := mkHid hx
  have HO := mkHid hout
  obtain ⟨hcp1, hcp2⟩ := hc
  clear h hx hout
  go_enter Tryd.func65, Tryd.ntmps65
  go_wp2_with fail
  refine HP.out.mono ?_
  rintro e w1 ⟨PA, pc, rfl, hop, hb1⟩
  have HOP := mkHid hop
  have HB1 := mkHid hb1
  have HX1 := mkHid ((HX.out.below hb1).more hb1.size)
  have HCR := mkHid (show RCR w1 w1 F F g A n c cs ss ss (pend ss) 0 l from ⟨Turn.of_below (Below.refl _ _), HD.out.below hb1, fun b hb => .inl hb, rfl, fun _ _ _ _ => rfl⟩)
  have hNF : ∀ b, (Value.slice PA (pend ss).length pc).ownBlock = some b → ¬ F b := fun b hb hf => by
    have h1 := HD.out.lt b hf
    have h2 := (hop.lt b hb).1
    omega
  have HNF := mkHid hNF
  clear hop hb1 hNF
  generalize hPP : pend ss = P at *
  have HPP := mkHid hPP
  have HINJ := mkHid (show ∀ (t t' : Nat) (x : Int), P[t]? = some x → P[t']? = some x → t = t' from fun t t' x h1 h2 => by rw [← hPP] at h1 h2; exact pend_inj h1 h2)
  clear hPP
  go_wp2_with fail
  go_loopw [5] (fun i wr => ∃ (k : Nat) (F' : Nat → Prop) (cs : List Value) (ss' : List Sec), k ≤ P.length ∧ i = .int .i64 k ∧ RCR w1 wr F F' g A n c cs ss ss' P k l) (fun i _ => P.length - (intOf i).toNat)
  case atStart => exact ⟨0, F, cs, ss, Nat.zero_le _, rfl, HCR.out⟩
  case round =>
    clear HCR HP HD
    obtain ⟨k, F', cs, ss', hk, rfl, hcr⟩ := hrel
    have HCR := mkHid hcr
    clear hcr
    by_cases hlt : k < P.length
    · obtain ⟨i, hi, hin, hwt⟩ := pend_get (ss := ss) (k := k) (x := P[k]) (by rw [HPP.out, List.getElem?_eq_getElem hlt])
      have hsl : SL wr wr.heap.size 1 PA P.length (P.map i64v) := SL.of_own (own_turn HOP.out HCR.out.t HNF.out)
      obtain ⟨pb, po, hPA, hb, hcell⟩ := hsl.2 k (by omega)
      rw [List.getElem?_map, List.getElem?_eq_getElem hlt] at hcell
      simp only [Option.map_some, Option.getD_some, i64v, hi] at hcell
      have hln' : ss'.length = n := HCR.out.d.len
      obtain ⟨r, s, va, vc, rfl, hs', q0, q1, hvc, h9, hv, hFr, hrg⟩ := HCR.out.d.at_ (j := i) (by omega)
      have hpr : pb ≠ r := fun e => by
        have hOP := own_turn HOP.out HCR.out.t HNF.out
        obtain ⟨g', cap', hv', hg0, hg1⟩ := hOP.form (by omega)
        obtain ⟨cur, h'⟩ := own_type hOP (b := pb) (by
          rw [hPA] at hv' ⊢
          injection hv' with hv' _ _
          injection hv' with hv'
          injection hv' with e1 e2
          rw [e2]
          rfl)
        obtain ⟨cur2, h2⟩ := own_type HCR.out.d.row (b := r) rfl
        rw [e, h2] at h'
        simp at h'
      subst hPA
      have c0 := cell_of_row wr g 0 _ _ _ HCR.out.d.blk
      simp at c0
      have hss : ss[i]? = some s := by rw [← HCR.out.keep k i (Nat.le_refl _) (by rw [List.getElem?_eq_getElem hlt, hi]), hs']
      have hwl : 0 < s.wait.length := by
        unfold waits at hwt
        rw [hss] at hwt
        simpa using hwt
      have HPK := mkHid (show P.drop k = (i : Int) :: P.drop (k + 1) by rw [List.drop_eq_getElem_cons hlt, hi])
      have HKI := mkHid (show P[k]? = some (i : Int) by rw [List.getElem?_eq_getElem hlt, hi])
      have HS' := mkHid hs'
      have HWL := mkHid hwl
      have hrlt := HCR.out.d.lt r hFr
      have hglt := HCR.out.d.lt g HCR.out.d.fg
      have hfz : wr.frozen? ⟨r, i * 2, none⟩ = false := by
        obtain ⟨cur, hcur⟩ := own_type HCR.out.d.row (b := r) rfl
        exact frozen_of_row wr r _ _ _ hcur
      have HAT := mkHid (show ∀ J, J < s.wait.length + 1 → ∃ vb a' c' l, va = some ⟨vb, 0, none⟩ ∧ vb < wr.heap.size ∧ vb ≠ r ∧ wr.cell? ⟨vb, J, none⟩ = some (.slice a' 128 c') ∧ (128 ≤ c' ∧ c' ≤ maxLen) ∧ s.vals[J]? = some l ∧ GB wr F' a' l from fun J hJ => by
        obtain ⟨vb, a', c', l, e1, e2, e3, e4, e5, e6⟩ := hv.at_ (j := J) (by rw [s.vals_len]; exact hJ)
        refine ⟨vb, a', c', l, e1, HCR.out.d.lt vb e2, fun e => ?_, e3, e4, e5, e6⟩
        obtain ⟨cur, hcur⟩ := own_type HCR.out.d.row (b := r) rfl
        obtain ⟨b', cur', fr, e1', _, e2', _⟩ := hv
        rw [e1] at e1'
        injection e1' with e1'
        injection e1' with e1'
        rw [← e1', e, hcur] at e2'
        simp at e2')
      have HKZ := mkHid (show ∀ Z : World, (∀ k, k < wr.heap.size → k ≠ r → Z.heap[k]? = wr.heap[k]?) → Z.cell? ⟨g, 0, none⟩ = some (.slice (some ⟨r, 0, none⟩) n c) ∧ Z.cell? ⟨pb, po + k, none⟩ = some (.int .i64 (i : Int)) from fun Z hZ => ⟨(World.cell?_of_block (w := wr) (hZ g hglt (fun e => hrg e.symm))).trans c0, (World.cell?_of_block (w := wr) (hZ pb hb hpr)).trans hcell⟩)
      have HS0 := mkHid (And.intro c0 (And.intro hcell q0))
      have hcapP := own_cap HOP.out
      have HXR := mkHid (HX1.out.turn0 HCR.out.t HO.out)
      have HWN := mkHid h9
      obtain ⟨wn, hwn⟩ : ∃ wn, wn = s.wait.length := ⟨_, rfl⟩
      have HNW := mkHid hwn
      rw [← hwn] at HAT HS0 q0 hwl
      have hwn9 : wn ≤ 1000000 := by omega
      clear hss hs' hsl hi hwt hv hwn h9 hwl q1
      have hin1 : i < n := by omega
      have hin2 : (i : Int) < (n : Int) := by omega
      have hin0 : (0 : Int) ≤ (i : Int) := by omega
      by_cases hkn : k < np
      · obtain ⟨b2, o2, ha2, hb2, hx0, hxI⟩ := HXR.out.at_ (j := k) hkn
        have HA2 := mkHid ha2
        subst ha2
        generalize hX : l[k]?.getD 0 = X at *
        have HXX := mkHid hX
        obtain ⟨x0, x1⟩ := hxI
        clear hX
        have HX0 := mkHid hx0
        by_cases hXp : 0 < X
        · by_cases hXw : X ≤ wn
          · obtain ⟨J, rfl⟩ : ∃ J : Nat, X = (J : Int) := ⟨X.toNat, by omega⟩
            obtain ⟨vb, a3, c3, l3, rfl, hvb, hvr, hc3, hcc3, hl3, hgb3⟩ := HAT.out J (by omega)
            have HL3 := mkHid hl3
            have HG3 := mkHid hgb3
            have HCV := mkHid hc3
            have HKV := mkHid (show ∀ Z : World, (∀ k, k < wr.heap.size → k ≠ r → Z.heap[k]? = wr.heap[k]?) → Z.cell? ⟨vb, J, none⟩ = some (.slice a3 128 c3) from fun Z hZ => (World.cell?_of_block (w := wr) (hZ vb hvb hvr)).trans HCV.out)
            clear hl3 hgb3 hc3
            go_wp2_with fail
            go_region_held3 (fun s => s.cell? ⟨g, 0, none⟩ = some (.slice (some ⟨r, 0, none⟩) n c) ∧ s.cell? ⟨pb, po + k, none⟩ = some (.int .i64 (i : Int)) ∧ s.cell? ⟨r, i * 2, none⟩ = some (.slice (some ⟨vb, 0, none⟩) (wn + 1) vc)) (first | exact HS0.out | assumption) (fail)
            go_wp2_with fail
            have hwr2 : IntKind.i64.wrap (J : Int) = (J : Int) := by rw [IntKind.wrap_i64]; omega
            have hj0 : (0 : Int) ≤ (J : Int) := by omega
            have hj1 : (J : Int) < (wn : Int) + 1 := by omega
            go_region_held3 (fun s => s.cell? ⟨g, 0, none⟩ = some (.slice (some ⟨r, 0, none⟩) n c) ∧ s.cell? ⟨pb, po + k, none⟩ = some (.int .i64 (i : Int)) ∧ s.cell? ⟨vb, J, none⟩ = some (.slice a3 128 c3)) (first | assumption | exact ⟨(HKZ.out _ (fun _ _ _ => rfl)).1, (HKZ.out _ (fun _ _ _ => rfl)).2, HKV.out _ (fun _ _ _ => rfl)⟩ | exact ⟨(HKZ.out _ (fun k hk _ => Below.heap_alloc _ _ _ hk)).1, (HKZ.out _ (fun k hk _ => Below.heap_alloc _ _ _ hk)).2, HKV.out _ (fun k hk _ => Below.heap_alloc _ _ _ hk)⟩ | exact ⟨(HKZ.out _ (fun k hk hkr => (Below.heap_alloc _ _ _ (by rw [set_size]; exact hk)).trans (heap_setCell_other _ _ _ _ hkr))).1, (HKZ.out _ (fun k hk hkr => (Below.heap_alloc _ _ _ (by rw [set_size]; exact hk)).trans (heap_setCell_other _ _ _ _ hkr))).2, HKV.out _ (fun k hk hkr => (Below.heap_alloc _ _ _ (by rw [set_size]; exact hk)).trans (heap_setCell_other _ _ _ _ hkr))⟩) (fail)
            go_wp2_with fail
            go_roundw
            case rel =>
              obtain ⟨F2, cs2, ss2, hst⟩ := HCR.out.step (J := J) HPK.out HKI.out HINJ.out HS'.out HWL.out HL3.out (by rw [HXX.out, ← HNW.out]; exact .inr (.inl ⟨by omega, by omega, rfl⟩)) HG3.out hcc3 (W := ((wr.setCell ⟨r, i * 2, none⟩ (.slice (some ⟨wr.heap.size, 0, none⟩) 1 1)).alloc (.cells #[.slice a3 128 c3] 37)).drew.drew) rfl ⟨rfl, rfl, rfl⟩
              exact ⟨k + 1, F2, cs2, ss2, by omega, by go_num, hst⟩
            case measure => simp [intOf]; omega
          · have hXw' : (wn : Int) < X := by omega
            obtain ⟨vb, a3, c3, l3, rfl, hvb, hvr, hc3, hcc3, hl3, hgb3⟩ := HAT.out wn (by omega)
            have HL3 := mkHid hl3
            have HG3 := mkHid hgb3
            have HCV := mkHid hc3
            have HKV := mkHid (show ∀ Z : World, (∀ k, k < wr.heap.size → k ≠ r → Z.heap[k]? = wr.heap[k]?) → Z.cell? ⟨vb, wn, none⟩ = some (.slice a3 128 c3) from fun Z hZ => (World.cell?_of_block (w := wr) (hZ vb hvb hvr)).trans HCV.out)
            clear hl3 hgb3 hc3
            go_wp2_with fail
            go_region_held3 (fun s => s.cell? ⟨g, 0, none⟩ = some (.slice (some ⟨r, 0, none⟩) n c) ∧ s.cell? ⟨pb, po + k, none⟩ = some (.int .i64 (i : Int)) ∧ s.cell? ⟨r, i * 2, none⟩ = some (.slice (some ⟨vb, 0, none⟩) (wn + 1) vc)) (first | exact HS0.out | assumption) (fail)
            go_wp2_with fail
            have hwr2 : IntKind.i64.wrap (wn : Int) = (wn : Int) := by rw [IntKind.wrap_i64]; omega
            have hj0 : (0 : Int) ≤ (wn : Int) := by omega
            have hj1 : (wn : Int) < (wn : Int) + 1 := by omega
            go_region_held3 (fun s => s.cell? ⟨g, 0, none⟩ = some (.slice (some ⟨r, 0, none⟩) n c) ∧ s.cell? ⟨pb, po + k, none⟩ = some (.int .i64 (i : Int)) ∧ s.cell? ⟨vb, wn, none⟩ = some (.slice a3 128 c3)) (first | assumption | exact ⟨(HKZ.out _ (fun _ _ _ => rfl)).1, (HKZ.out _ (fun _ _ _ => rfl)).2, HKV.out _ (fun _ _ _ => rfl)⟩ | exact ⟨(HKZ.out _ (fun k hk _ => Below.heap_alloc _ _ _ hk)).1, (HKZ.out _ (fun k hk _ => Below.heap_alloc _ _ _ hk)).2, HKV.out _ (fun k hk _ => Below.heap_alloc _ _ _ hk)⟩ | exact ⟨(HKZ.out _ (fun k hk hkr => (Below.heap_alloc _ _ _ (by rw [set_size]; exact hk)).trans (heap_setCell_other _ _ _ _ hkr))).1, (HKZ.out _ (fun k hk hkr => (Below.heap_alloc _ _ _ (by rw [set_size]; exact hk)).trans (heap_setCell_other _ _ _ _ hkr))).2, HKV.out _ (fun k hk hkr => (Below.heap_alloc _ _ _ (by rw [set_size]; exact hk)).trans (heap_setCell_other _ _ _ _ hkr))⟩) (fail)
            go_wp2_with fail
            go_roundw
            case rel =>
              obtain ⟨F2, cs2, ss2, hst⟩ := HCR.out.step (J := wn) HPK.out HKI.out HINJ.out HS'.out HWL.out HL3.out (by rw [HXX.out, ← HNW.out]; exact .inr (.inr ⟨by omega, rfl⟩)) HG3.out hcc3 (W := ((wr.setCell ⟨r, i * 2, none⟩ (.slice (some ⟨wr.heap.size, 0, none⟩) 1 1)).alloc (.cells #[.slice a3 128 c3] 37)).drew.drew) rfl ⟨rfl, rfl, rfl⟩
              exact ⟨k + 1, F2, cs2, ss2, by omega, by go_num, hst⟩
            case measure => simp [intOf]; omega
        · have hXp' : X ≤ 0 := by omega
          obtain ⟨vb, a3, c3, l3, rfl, hvb, hvr, hc3, hcc3, hl3, hgb3⟩ := HAT.out 0 (by omega)
          have HL3 := mkHid hl3
          have HG3 := mkHid hgb3
          have HCV := mkHid hc3
          have HKV := mkHid (show ∀ Z : World, (∀ k, k < wr.heap.size → k ≠ r → Z.heap[k]? = wr.heap[k]?) → Z.cell? ⟨vb, 0, none⟩ = some (.slice a3 128 c3) from fun Z hZ => (World.cell?_of_block (w := wr) (hZ vb hvb hvr)).trans HCV.out)
          clear hl3 hgb3 hc3
          go_wp2_with fail
          go_region_held3 (fun s => s.cell? ⟨g, 0, none⟩ = some (.slice (some ⟨r, 0, none⟩) n c) ∧ s.cell? ⟨pb, po + k, none⟩ = some (.int .i64 (i : Int)) ∧ s.cell? ⟨r, i * 2, none⟩ = some (.slice (some ⟨vb, 0, none⟩) (wn + 1) vc)) (first | exact HS0.out | assumption) (fail)
          go_wp2_with fail
          have hwr2 : IntKind.i64.wrap (0 : Int) = (0 : Int) := by rw [IntKind.wrap_i64]; omega
          have hj0 : (0 : Int) ≤ (0 : Int) := by omega
          have hj1 : (0 : Int) < (wn : Int) + 1 := by omega
          go_region_held3 (fun s => s.cell? ⟨g, 0, none⟩ = some (.slice (some ⟨r, 0, none⟩) n c) ∧ s.cell? ⟨pb, po + k, none⟩ = some (.int .i64 (i : Int)) ∧ s.cell? ⟨vb, 0, none⟩ = some (.slice a3 128 c3)) (first | assumption | exact ⟨(HKZ.out _ (fun _ _ _ => rfl)).1, (HKZ.out _ (fun _ _ _ => rfl)).2, HKV.out _ (fun _ _ _ => rfl)⟩ | exact ⟨(HKZ.out _ (fun k hk _ => Below.heap_alloc _ _ _ hk)).1, (HKZ.out _ (fun k hk _ => Below.heap_alloc _ _ _ hk)).2, HKV.out _ (fun k hk _ => Below.heap_alloc _ _ _ hk)⟩ | exact ⟨(HKZ.out _ (fun k hk hkr => (Below.heap_alloc _ _ _ (by rw [set_size]; exact hk)).trans (heap_setCell_other _ _ _ _ hkr))).1, (HKZ.out _ (fun k hk hkr => (Below.heap_alloc _ _ _ (by rw [set_size]; exact hk)).trans (heap_setCell_other _ _ _ _ hkr))).2, HKV.out _ (fun k hk hkr => (Below.heap_alloc _ _ _ (by rw [set_size]; exact hk)).trans (heap_setCell_other _ _ _ _ hkr))⟩) (fail)
          go_wp2_with fail
          go_roundw
          case rel =>
            obtain ⟨F2, cs2, ss2, hst⟩ := HCR.out.step (J := 0) HPK.out HKI.out HINJ.out HS'.out HWL.out HL3.out (by rw [HXX.out, ← HNW.out]; exact .inl ⟨by omega, rfl⟩) HG3.out hcc3 (W := ((wr.setCell ⟨r, i * 2, none⟩ (.slice (some ⟨wr.heap.size, 0, none⟩) 1 1)).alloc (.cells #[.slice a3 128 c3] 37)).drew.drew) rfl ⟨rfl, rfl, rfl⟩
            exact ⟨k + 1, F2, cs2, ss2, by omega, by go_num, hst⟩
          case measure => simp [intOf]; omega
      · have hkn' : (np : Int) ≤ (k : Int) := by omega
        have HXX := mkHid (show l[k]?.getD 0 = 0 by rw [List.getElem?_eq_none (by have := HXR.out.len; omega)]; rfl)
        obtain ⟨vb, a3, c3, l3, rfl, hvb, hvr, hc3, hcc3, hl3, hgb3⟩ := HAT.out 0 (by omega)
        have HL3 := mkHid hl3
        have HG3 := mkHid hgb3
        have HCV := mkHid hc3
        have HKV := mkHid (show ∀ Z : World, (∀ k, k < wr.heap.size → k ≠ r → Z.heap[k]? = wr.heap[k]?) → Z.cell? ⟨vb, 0, none⟩ = some (.slice a3 128 c3) from fun Z hZ => (World.cell?_of_block (w := wr) (hZ vb hvb hvr)).trans HCV.out)
        clear hl3 hgb3 hc3
        go_wp2_with fail
        go_region_held3 (fun s => s.cell? ⟨g, 0, none⟩ = some (.slice (some ⟨r, 0, none⟩) n c) ∧ s.cell? ⟨pb, po + k, none⟩ = some (.int .i64 (i : Int)) ∧ s.cell? ⟨r, i * 2, none⟩ = some (.slice (some ⟨vb, 0, none⟩) (wn + 1) vc)) (first | exact HS0.out | assumption) (fail)
        go_wp2_with fail
        have hwr2 : IntKind.i64.wrap (0 : Int) = (0 : Int) := by rw [IntKind.wrap_i64]; omega
        have hj0 : (0 : Int) ≤ (0 : Int) := by omega
        have hj1 : (0 : Int) < (wn : Int) + 1 := by omega
        go_region_held3 (fun s => s.cell? ⟨g, 0, none⟩ = some (.slice (some ⟨r, 0, none⟩) n c) ∧ s.cell? ⟨pb, po + k, none⟩ = some (.int .i64 (i : Int)) ∧ s.cell? ⟨vb, 0, none⟩ = some (.slice a3 128 c3)) (first | assumption | exact ⟨(HKZ.out _ (fun _ _ _ => rfl)).1, (HKZ.out _ (fun _ _ _ => rfl)).2, HKV.out _ (fun _ _ _ => rfl)⟩ | exact ⟨(HKZ.out _ (fun k hk _ => Below.heap_alloc _ _ _ hk)).1, (HKZ.out _ (fun k hk _ => Below.heap_alloc _ _ _ hk)).2, HKV.out _ (fun k hk _ => Below.heap_alloc _ _ _ hk)⟩ | exact ⟨(HKZ.out _ (fun k hk hkr => (Below.heap_alloc _ _ _ (by rw [set_size]; exact hk)).trans (heap_setCell_other _ _ _ _ hkr))).1, (HKZ.out _ (fun k hk hkr => (Below.heap_alloc _ _ _ (by rw [set_size]; exact hk)).trans (heap_setCell_other _ _ _ _ hkr))).2, HKV.out _ (fun k hk hkr => (Below.heap_alloc _ _ _ (by rw [set_size]; exact hk)).trans (heap_setCell_other _ _ _ _ hkr))⟩) (fail)
        go_wp2_with fail
        go_roundw
        case rel =>
          obtain ⟨F2, cs2, ss2, hst⟩ := HCR.out.step (J := 0) HPK.out HKI.out HINJ.out HS'.out HWL.out HL3.out (by rw [HXX.out, ← HNW.out]; exact .inl ⟨by omega, rfl⟩) HG3.out hcc3 (W := ((wr.setCell ⟨r, i * 2, none⟩ (.slice (some ⟨wr.heap.size, 0, none⟩) 1 1)).alloc (.cells #[.slice a3 128 c3] 37)).drew.drew) rfl ⟨rfl, rfl, rfl⟩
          exact ⟨k + 1, F2, cs2, ss2, by omega, by go_num, hst⟩
        case measure => simp [intOf]; omega
    · obtain rfl : k = P.length := by omega
      have hfin := HCR.out.fin
      rw [List.drop_of_length_le (Nat.le_refl _)] at hfin
      have HFIN := mkHid (show ss' = crashed ss l from by unfold crashed; rw [HPP.out]; exact hfin)
      have HT := mkHid ((Turn.of_below (F := F) HB1.out).trans HCR.out.t fun b hb => .inl hb)
      have HD := mkHid HCR.out.d
      have HFF := mkHid (show ∀ b, F' b → F b ∨ w.heap.size ≤ b from fun b hb => (HCR.out.ff b hb).imp id fun e => Nat.le_trans HB1.out.size e)
      clear hfin HCR
      go_wp2_with fail
      go_end0
      exact ⟨rfl, HT.out, F', HFIN.out ▸ ⟨_, _, _, _, HD.out⟩, HFF.out⟩


theorem fillK_nil (i k : Nat) (_hk : k ≤ 128) : fillK [] i k = fillB [] i := by
  unfold fillK
  rw [fillB_nil]
  exact List.take_append_drop k zeros
theorem FI.gb0 {W wr : World} {d k : Nat} {b : List Int} {i : Nat} {F : Nat → Prop} (h : FI W wr d b i k) (hb : okBytes b) (hF : F d) (hk : k = 128 ∨ (b = [] ∧ k ≤ 128)) : GB wr F (some ⟨d, 0, none⟩) (fillB b i) := by
  rcases hk with rfl | ⟨rfl, hk⟩
  · exact h.gb hb hF
  · refine FI.gb (W := W) ⟨?_, h.oth, h.os, h.tape, h.output, h.size⟩ hb hF
    rw [fillK_nil _ _ (Nat.le_refl _), ← fillK_nil i k hk]
    exact h.blk


set_option maxRecDepth 20000 in
set_option maxHeartbeats 4000000 in
theorem rfill_any (F : Nat → Prop) (g : Nat) (ss : List Sec) (a : Option Addr) (m k0 : Nat) (l : List Int) (w : World) (h : RD w F g ss) (hx : BS w w.heap.size a m l) (hout : 0 < m → ∀ ad : Addr, a = some ad → ¬ F ad.block) (hm2 : m ≤ 140737488355328) :
    Calls Tryd.prog 70 #[.pointer (some ⟨g, 0, none⟩), .slice a m k0] w fun e w' => e = .returned (.tuple #[]) ∧ Turn F w w' ∧ ∃ F', RD w' F' g (filled ss l) ∧ ∀ b, F' b → F b ∨ w.heap.size ≤ b := by
  obtain ⟨A, n, c, cs, h⟩ := h
  have hnl := h.nl
  obtain ⟨hc1, hc2⟩ := own_cap h.row
  have HD := mkHid h
  have HX := mkHid hx
  have HO := mkHid hout
  have HLEN := mkHid h.len
  have HLL := mkHid hx.len
  clear h hx hout
  go_enter Tryd.func70, Tryd.ntmps70
  go_wp2_with fail
  go_loopw [4] (fun i wr => ∃ (q : Nat) (F' : Nat → Prop) (cs : List Value), q ≤ n ∧ i = .int .i64 q ∧ Hid (Turn F w wr) ∧ Hid (RDr wr F' g A n c cs (fiN ss l q)) ∧ Hid (∀ b, F' b → F b ∨ w.heap.size ≤ b)) (fun i _ => n - (intOf i).toNat)
  case atStart => exact ⟨0, F, cs, Nat.zero_le _, rfl, mkHid (Turn.of_below (Below.refl _ _)), mkHid (by rw [fiN_zero]; exact HD.out), mkHid fun b hb => .inl hb⟩
  case round =>
    clear HD
    obtain ⟨q, F', cs, hq, rfl, HT, HDR, HF⟩ := hrel
    have c0 := cell_of_row wr g 0 _ _ _ HDR.out.blk
    simp at c0
    by_cases hlt : q < n
    · obtain ⟨r, s, va, vc, rfl, hs', q0, q1, _, _, _, hFr, hrg⟩ := HDR.out.at_ hlt
      have HS' := mkHid hs'
      have hrlt := HDR.out.lt r hFr
      have hglt := HDR.out.lt g HDR.out.fg
      have HFR := mkHid hFr
      clear hs' hFr
      go_wp2_with fail
      refine (zero_any wr).mono ?_
      rintro e w2 ⟨b, d, rfl, hz⟩
      have HZ := mkHid hz
      have hz0 := hz.b0
      have hz1 := hz.d0
      have hz2 := hz.b1
      have hz3 := hz.d1
      have hzs := hz.bel.size
      have hbd : b ≠ d := fun e => by
        have h1 := hz.vb
        rw [e, hz.vd] at h1
        simp at h1
      clear hz
      go_wp2_with fail
      obtain ⟨W1, hW1⟩ : ∃ W1, w2.alloc (.cells #[.slice (some ⟨b, 0, none⟩) 1 1, .bool false] 110) = W1 := ⟨_, rfl⟩
      have hoth : ∀ k, k < w2.heap.size → W1.heap[k]? = w2.heap[k]? := fun k hk => by rw [← hW1]; exact Below.heap_alloc _ _ _ hk
      have HVS := mkHid (show W1.heap[w2.heap.size]? = some (.cells #[.slice (some ⟨b, 0, none⟩) 1 1, .bool false] 110 (0, 0)) by rw [← hW1]; exact heap_alloc_new _ _)
      have HVB := mkHid ((hoth b hz2).trans HZ.out.vb)
      have HB1 := mkHid (show Below wr.heap.size wr W1 by rw [← hW1]; exact HZ.out.bel.alloc hzs _)
      have HFI := mkHid (show FI W1 W1 d l q 0 from ⟨by rw [fillK_zero, hoth _ hz3]; exact HZ.out.vd, fun _ _ => rfl, rfl, rfl, rfl, rfl⟩)
      have hWs : W1.heap.size = w2.heap.size + 1 := by rw [← hW1]; simp
      have HBS := mkHid (((HX.out.turn0 HT.out HO.out).below HB1.out).more HB1.out.size)
      rw [hW1]
      clear hW1 hoth
      obtain ⟨wO, rfl⟩ : ∃ wO : World, wO = wr := ⟨_, rfl⟩
      go_loopw [6] (fun kk w3 => ∃ (k : Nat), k ≤ 128 ∧ kk = .int .i64 k ∧ Hid (FI W1 w3 d l q k)) (fun kk _ => 128 - (intOf kk).toNat)
      case atStart => exact ⟨0, Nat.zero_le _, rfl, HFI⟩
      case round =>
        clear HFI
        obtain ⟨k, hk, rfl, HFI⟩ := hrel
        by_cases hlk : k < 128 ∧ 0 < m
        · obtain ⟨hlk, hm⟩ := hlk
          obtain ⟨t, ht⟩ : ∃ t, t = (q * 128 + k) % m := ⟨_, rfl⟩
          have htm : t < m := by rw [ht]; exact Nat.mod_lt _ hm
          have HTK := mkHid ht
          obtain ⟨b2, o2, rfl, hb2, _⟩ := HX.out.at_ htm
          obtain ⟨b3, o3, h3, _, hc3, hx0, hx1⟩ := HBS.out.at_ htm
          injection h3 with h3
          injection h3 with h3 h4
          subst h3 h4
          have hs0 := HT.out.size
          have hb2d : b2 ≠ d := by omega
          have hvd : w2.heap.size ≠ d := by omega
          have hkp : k < (fillK l q k).length := by rw [fillK_len _ _ _ hk]; exact hlk
          have cd := cell_of_row wr d k _ _ _ HFI.out.blk
          obtain ⟨v0, hv0⟩ : ∃ v : Value, (((fillK l q k).map Go.Proofs.YtpoeneabhoajaaaDoor.u8).toArray)[k]? = some v := ⟨_, Array.getElem?_eq_getElem (by simpa using hkp)⟩
          rw [hv0] at cd
          have fd := frozen_of_row wr d k _ _ HFI.out.blk
          generalize hX : l[t]?.getD 0 = X at *
          have HXX := mkHid hX
          have HKZ := mkHid (show ∀ Z : World, (∀ b, b ≠ d → Z.heap[b]? = wr.heap[b]?) → Z.cell? ⟨w2.heap.size, 0, none⟩ = some (.slice (some ⟨b, 0, none⟩) 1 1) ∧ Z.cell? ⟨b, 0, none⟩ = some (.slice (some ⟨d, 0, none⟩) 128 128) ∧ Z.cell? ⟨b2, o2 + t, none⟩ = some (.int .u8 X) from fun Z hZ => ⟨cell_of_row Z _ 0 _ _ _ ((hZ _ hvd).trans ((HFI.out.oth _ hvd).trans HVS.out)), cell_of_row Z _ 0 _ _ _ ((hZ _ hbd).trans ((HFI.out.oth _ hbd).trans HVB.out)), (World.cell?_of_block (w := W1) ((hZ b2 hb2d).trans (HFI.out.oth b2 hb2d))).trans hc3⟩)
          clear hX hc3 hkp hv0 ht c0 q0 q1
          have hw1 : IntKind.i64.wrap ((q : Int) * 128) = (q : Int) * 128 := by rw [IntKind.wrap_i64]; omega
          have hw2 : IntKind.i64.wrap ((q : Int) * 128 + (k : Int)) = (q : Int) * 128 + (k : Int) := by rw [IntKind.wrap_i64]; omega
          have hw3 : ((q : Int) * 128 + (k : Int)).tmod (m : Int) = (t : Int) := by rw [HTK.out, Int.natCast_emod, Int.tmod_eq_emod_of_nonneg (by omega)]; simp
          have hw4 : IntKind.i64.wrap (t : Int) = (t : Int) := by rw [IntKind.wrap_i64]; omega
          have hm0 : ¬ (m : Int) = 0 := by omega
          have hm1 : ¬ m = 0 := by omega
          go_wp2_with fail
          go_region_held3 (fun s => s.cell? ⟨w2.heap.size, 0, none⟩ = some (.slice (some ⟨b, 0, none⟩) 1 1) ∧ s.cell? ⟨b, 0, none⟩ = some (.slice (some ⟨d, 0, none⟩) 128 128) ∧ s.cell? ⟨b2, o2 + t, none⟩ = some (.int .u8 X)) (first | assumption | exact HKZ.out _ (fun _ _ => rfl) | exact HKZ.out _ (fun b hb => heap_setCell_other _ _ _ _ hb)) (fail)
          go_wp2_with fail
          go_roundw
          case rel => exact ⟨k + 1, by omega, by go_num, mkHid (HFI.out.step hlk (by rw [HLL.out, ← HTK.out, HXX.out]) rfl ⟨rfl, rfl, rfl⟩)⟩
          case measure => simp [intOf]; omega
        · have HKD := mkHid (show k = 128 ∨ (l = [] ∧ k ≤ 128) by
            by_cases e : k = 128
            · exact .inl e
            · exact .inr ⟨List.eq_nil_of_length_eq_zero (by rw [HLL.out]; omega), hk⟩)
          have hgd : g ≠ d := by omega
          have hrd : r ≠ d := by omega
          have hvd : w2.heap.size ≠ d := by omega
          have hvr : w2.heap.size ≠ r := by omega
          have qr : wr.heap[r]? = wO.heap[r]? := (HFI.out.oth r hrd).trans (HB1.out.block r hrlt)
          have y0 := (World.cell?_of_block (w := wO) (a := ⟨r, q * 2, none⟩) qr).trans q0
          have y1 := (World.cell?_of_block (w := wO) (a := ⟨r, q * 2 + 1, none⟩) qr).trans q1
          have yf : ∀ k, wr.frozen? ⟨r, k, none⟩ = false := by
            obtain ⟨cur, hcur⟩ := own_type HDR.out.row (b := r) rfl
            exact fun k => frozen_of_row wr r _ _ _ (qr.trans hcur)
          have HKY := mkHid (show ∀ Z : World, (∀ b, b ≠ r → Z.heap[b]? = wr.heap[b]?) → Z.cell? ⟨g, 0, none⟩ = some (.slice (some ⟨r, 0, none⟩) n c) ∧ Z.cell? ⟨w2.heap.size, 0, none⟩ = some (.slice (some ⟨b, 0, none⟩) 1 1) ∧ Z.cell? ⟨w2.heap.size, 1, none⟩ = some (.bool false) from fun Z hZ => ⟨(World.cell?_of_block (w := wO) ((hZ g (fun e => hrg e.symm)).trans ((HFI.out.oth g hgd).trans (HB1.out.block g hglt)))).trans c0, cell_of_row Z _ 0 _ _ _ ((hZ _ hvr).trans ((HFI.out.oth _ hvd).trans HVS.out)), cell_of_row Z _ 1 _ _ _ ((hZ _ hvr).trans ((HFI.out.oth _ hvd).trans HVS.out))⟩)
          have hfin : Turn F' wO ((wr.setCell ⟨r, q * 2, none⟩ (.slice (some ⟨b, 0, none⟩) 1 1)).setCell ⟨r, q * 2 + 1, none⟩ (.bool false)).drew ∧ ∃ cs', RDr ((wr.setCell ⟨r, q * 2, none⟩ (.slice (some ⟨b, 0, none⟩) 1 1)).setCell ⟨r, q * 2 + 1, none⟩ (.bool false)).drew (fun x => F' x ∨ x = b ∨ x = d) g (some ⟨r, 0, none⟩) n c cs' (fiN ss l (q + 1)) := by
            have hsz : wr.heap.size = w2.heap.size + 1 := HFI.out.size.trans hWs
            have hd1 := HDR.out.keep (w' := wr) (by omega) fun x hx => (HFI.out.oth x (by have := HDR.out.lt x hx; omega)).trans (HB1.out.block x (HDR.out.lt x hx))
            have hv : VB wr (fun x => F' x ∨ x = b ∨ x = d) (some ⟨b, 0, none⟩) (Sec.vals ⟨fillB l q, [], s.bad⟩) := VB.one (.inr (.inl rfl)) ((HFI.out.oth b hbd).trans HVB.out) ⟨Nat.le_refl _, by unfold maxLen; omega⟩ (HFI.out.gb0 HX.out.2 (.inr (.inr rfl)) HKD.out)
            have hp := hd1.put (F' := fun x => F' x ∨ x = b ∨ x = d) (s' := ⟨fillB l q, [], s.bad⟩) (c' := 1) rfl HS'.out (fun x hx => .inl hx) (fun x hx => by
              rcases hx with e | e | e
              · exact hd1.lt x e
              · omega
              · omega) hv rfl ⟨Nat.le_refl _, by unfold maxLen; omega⟩ (by simp)
            have hql : q < (fiN ss l q).length := (List.getElem?_eq_some_iff.1 HS'.out).1
            have hb := hp.bad (i := q) (on := false) rfl (List.getElem?_set_self hql)
            rw [List.set_set] at hb
            have hfs : ({ (⟨fillB l q, [], s.bad⟩ : Sec) with bad := false } : Sec) = fillS l q := rfl
            rw [hfs, fiN_set _ _ (by rw [HLEN.out]; exact hlt)] at hb
            refine ⟨⟨HFI.out.os.trans HB1.out.os, HFI.out.tape.trans HB1.out.tape, HFI.out.output.trans HB1.out.output, by simp [World.setCell, World.drew]; omega, fun x hx hf => ?_⟩, _, hb.keep (Nat.le_refl _) fun _ _ => rfl⟩
            have hxr : x ≠ r := fun e => hf (e ▸ HFR.out)
            exact (heap_setCell_other _ _ _ _ hxr).trans ((heap_setCell_other _ _ _ _ hxr).trans ((HFI.out.oth x (by omega)).trans (HB1.out.block x hx)))
          have HFIN := mkHid hfin
          clear hfin qr q0 q1 c0
          by_cases hk8 : k < 128
          · obtain rfl : m = 0 := by omega
            go_wp2_with fail
            go_region_held3 (fun s => s.cell? ⟨g, 0, none⟩ = some (.slice (some ⟨r, 0, none⟩) n c) ∧ s.cell? ⟨w2.heap.size, 0, none⟩ = some (.slice (some ⟨b, 0, none⟩) 1 1) ∧ s.cell? ⟨w2.heap.size, 1, none⟩ = some (.bool false)) (first | assumption | exact HKY.out _ (fun _ _ => rfl) | exact HKY.out _ (fun b hb => (heap_setCell_other _ _ _ _ hb).trans (heap_setCell_other _ _ _ _ hb))) (fail)
            go_wp2_with fail
            go_roundw
            case rel =>
              obtain ⟨k1, cs', k2⟩ := HFIN.out
              refine ⟨q + 1, fun x => F' x ∨ x = b ∨ x = d, cs', by omega, by go_num, mkHid (HT.out.trans k1 HF.out), mkHid k2, mkHid fun x hx => ?_⟩
              have := HT.out.size
              rcases hx with e | e | e
              · exact HF.out x e
              · exact .inr (by omega)
              · exact .inr (by omega)
            case measure => simp [intOf]; omega
          · obtain rfl : k = 128 := by omega
            go_wp2_with fail
            go_region_held3 (fun s => s.cell? ⟨g, 0, none⟩ = some (.slice (some ⟨r, 0, none⟩) n c) ∧ s.cell? ⟨w2.heap.size, 0, none⟩ = some (.slice (some ⟨b, 0, none⟩) 1 1) ∧ s.cell? ⟨w2.heap.size, 1, none⟩ = some (.bool false)) (first | assumption | exact HKY.out _ (fun _ _ => rfl) | exact HKY.out _ (fun b hb => (heap_setCell_other _ _ _ _ hb).trans (heap_setCell_other _ _ _ _ hb))) (fail)
            go_wp2_with fail
            go_roundw
            case rel =>
              obtain ⟨k1, cs', k2⟩ := HFIN.out
              refine ⟨q + 1, fun x => F' x ∨ x = b ∨ x = d, cs', by omega, by go_num, mkHid (HT.out.trans k1 HF.out), mkHid k2, mkHid fun x hx => ?_⟩
              have := HT.out.size
              rcases hx with e | e | e
              · exact HF.out x e
              · exact .inr (by omega)
              · exact .inr (by omega)
            case measure => simp [intOf]; omega
    · obtain rfl : q = n := by omega
      go_wp2_with fail
      go_end0
      have hd := HDR.out
      rw [← HLEN.out, fiN_all] at hd
      exact ⟨rfl, HT.out, F', ⟨_, _, _, _, hd⟩, HF.out⟩

end Go.Proofs.YtpoeneabhoajaaaDoor
