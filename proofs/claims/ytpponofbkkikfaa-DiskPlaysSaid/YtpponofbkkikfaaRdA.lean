/- The document's disk in memory: the rows of values, the sectors, what a frame leaves of them; what one sector's turn leaves. -/
import Derived.Test.YtpponofbkkikfaaDkI
namespace Go.Proofs.Ytpponofbkkikfaa
open Go.RowKit

theorem el_rsec : ElemOk Try.prog 59 64 2 32 := .mk' Try.underlying59 (z := .agg #[.slice none 0 0, .bool false]) (by kernel_rfl) rfl (by decide)

/-- The row at a holds the byte slices vs, of 128 bytes each; F tells its blocks. -/
def VB (w : World) (F : Nat → Prop) (a : Option Addr) (vs : List (List Int)) : Prop :=
  ∃ b cur fr, a = some ⟨b, 0, none⟩ ∧ F b ∧ w.heap[b]? = some (.cells cur 30 fr) ∧ ∀ (j : Nat) (l : List Int), vs[j]? = some l → ∃ (a' : Option Addr) (c' : Nat), cur[j]? = some (.slice a' 128 c') ∧ (128 ≤ c' ∧ c' ≤ maxLen) ∧ GB w F a' l
section
variable {w w' : World} {F F' M : Nat → Prop} {a : Option Addr} {vs : List (List Int)}
theorem VB.keepX (h : VB w F a vs) (hk : ∀ b, F b → ¬ M b → w'.heap[b]? = w.heap[b]?) (hM : ∀ b cur fr, M b → w.heap[b]? ≠ some (.cells cur 5 fr)) (hM2 : ∀ b cur fr, M b → w.heap[b]? ≠ some (.cells cur 30 fr)) (hF : ∀ b, F b → F' b) : VB w' F' a vs := by
  obtain ⟨b, cur, fr, ha, hb, hh, hc⟩ := h
  refine ⟨b, cur, fr, ha, hF b hb, (hk b hb fun hm => hM2 b cur fr hm hh).trans hh, fun j l hl => ?_⟩
  obtain ⟨a', c', e1, e2, e3⟩ := hc j l hl
  exact ⟨a', c', e1, e2, e3.keepX hk hM hF⟩
theorem VB.keep (h : VB w F a vs) (hk : ∀ b, F b → w'.heap[b]? = w.heap[b]?) (hF : ∀ b, F b → F' b) : VB w' F' a vs := h.keepX (M := fun _ => False) (fun b hb _ => hk b hb) (fun _ _ _ hm => hm.elim) (fun _ _ _ hm => hm.elim) hF
/-- One value, written out. -/
theorem VB.at_ (h : VB w F a vs) {j : Nat} (hj : j < vs.length) : ∃ b a' c' l, a = some ⟨b, 0, none⟩ ∧ F b ∧ w.cell? ⟨b, j, none⟩ = some (.slice a' 128 c') ∧ (128 ≤ c' ∧ c' ≤ maxLen) ∧ vs[j]? = some l ∧ GB w F a' l := by
  obtain ⟨b, cur, fr, ha, hb, hh, hc⟩ := h
  obtain ⟨a', c', e1, e2, e3⟩ := hc j _ (List.getElem?_eq_getElem hj)
  exact ⟨b, a', c', _, ha, hb, by rw [cell_of_row _ _ _ _ _ _ hh]; exact e1, e2, List.getElem?_eq_getElem hj, e3⟩
/-- Out of a row of the call's own. -/
theorem VB.of_own {base n c : Nat} {A : Option Addr} {xs : List Value} (h : w.ownsRow base 30 1 (.slice A n c) n xs) (hn : 0 < n) (hF : ∀ b, base ≤ b → b < w.heap.size → F b) (hx : ∀ (j : Nat) (l : List Int), vs[j]? = some l → ∃ (a' : Option Addr) (c' : Nat), xs[j]? = some (.slice a' 128 c') ∧ (128 ≤ c' ∧ c' ≤ maxLen) ∧ GB w F a' l) : VB w F A vs := by
  rcases h.2 with ⟨h0, h1⟩ | ⟨g, cap, cur, h1, h2, h3, h4, h5, h6, h7⟩
  · injection h0 with _ h0 _; omega
  · have ha : A = some ⟨g, 0, none⟩ := by injection h1
    refine ⟨g, cur, (0, 0), ha, hF g h2 (Array.getElem?_eq_some_iff.1 h3).1, h3, fun j l hl => ?_⟩
    obtain ⟨a', c', e1, e2, e3⟩ := hx j l hl
    refine ⟨a', c', ?_, e2, e3⟩
    rw [← h7, List.getElem?_take] at e1
    split at e1
    · rw [Array.getElem?_toList] at e1; exact e1
    · cases e1
/-- One value in a new block. -/
theorem VB.one {a' : Option Addr} {c' : Nat} {l : List Int} {b : Nat} {fr : Nat × Nat} (hb : F b) (hh : w.heap[b]? = some (.cells #[.slice a' 128 c'] 30 fr)) (hc : 128 ≤ c' ∧ c' ≤ maxLen) (hg : GB w F a' l) : VB w F (some ⟨b, 0, none⟩) [l] :=
  ⟨b, _, fr, rfl, hb, hh, fun j l' hl => by
    have hj : j = 0 := by have := (List.getElem?_eq_some_iff.1 hl).1; simp at this; exact this
    subst hj
    injection hl with hl
    subst hl
    exact ⟨a', c', rfl, hc, hg⟩⟩
/-- As it is read by append. -/
theorem VB.sl (h : VB w F a vs) (hF : ∀ b, F b → b < w.heap.size) : ∃ xs : List Value, SL w w.heap.size 1 a vs.length xs ∧ (∀ u ∈ xs, u.oneCell' = true) ∧ ∀ (j : Nat) (l : List Int), vs[j]? = some l → ∃ (a' : Option Addr) (c' : Nat), xs[j]? = some (.slice a' 128 c') ∧ (128 ≤ c' ∧ c' ≤ maxLen) ∧ GB w F a' l := by
  obtain ⟨b, cur, fr, ha, hb, hh, hc⟩ := h
  have hsz : vs.length ≤ cur.toList.length := by
    rw [Array.length_toList]
    rcases Nat.lt_or_ge cur.size vs.length with h0 | h0
    · obtain ⟨a', c', e1, _⟩ := hc cur.size _ (List.getElem?_eq_getElem h0)
      have := (Array.getElem?_eq_some_iff.1 e1).1
      omega
    · exact h0
  have hel : ∀ j, j < vs.length → ∃ (a' : Option Addr) (c' : Nat), (cur.toList.take vs.length)[j]? = some (.slice a' 128 c') := fun j hj => by
    obtain ⟨a', c', e1, _⟩ := hc j _ (List.getElem?_eq_getElem hj)
    exact ⟨a', c', by rw [List.getElem?_take, if_pos hj, Array.getElem?_toList]; exact e1⟩
  refine ⟨cur.toList.take vs.length, ⟨by rw [List.length_take]; omega, fun j hj => ⟨b, 0, ha, hF b hb, ?_⟩⟩, fun u hu => ?_, fun j l hl => ?_⟩
  · have hj' : j < vs.length := by omega
    obtain ⟨a', c', e1⟩ := hel j hj'
    rw [Nat.zero_add, cell_of_row _ _ _ _ _ _ hh, e1]
    rw [List.getElem?_take, if_pos hj', Array.getElem?_toList] at e1
    rw [e1]; rfl
  · obtain ⟨j, hj, rfl⟩ := List.getElem_of_mem hu
    obtain ⟨a', c', e1⟩ := hel j (by rw [List.length_take] at hj; omega)
    rw [List.getElem?_eq_getElem hj] at e1
    injection e1 with e1
    rw [e1]; rfl
  · have hj' := (List.getElem?_eq_some_iff.1 hl).1
    obtain ⟨a', c', e1, e2, e3⟩ := hc j l hl
    exact ⟨a', c', by rw [List.getElem?_take, if_pos hj', Array.getElem?_toList]; exact e1, e2, e3⟩
end

/-- A sector's values: what it holds for good, what waits. -/
def Sec.vals (s : Sec) : List (List Int) := s.good :: s.wait
theorem Sec.vals_len (s : Sec) : s.vals.length = s.wait.length + 1 := rfl
theorem Sec.vals_last (s : Sec) : s.vals[s.wait.length]? = some s.last := by
  unfold Sec.vals Sec.last
  rcases s with ⟨g, l, b⟩
  cases l with
  | nil => rfl
  | cons x t =>
    show (g :: x :: t)[t.length + 1]? = _
    rw [List.getElem?_cons_succ, List.getLast?_eq_getElem?]
    show (x :: t)[t.length]? = some ((x :: t)[t.length]?.getD g)
    rw [List.getElem?_eq_getElem (by simp)]
    rfl

/-- Cells j, j + 1 of the row are sector s. -/
def RSec (w : World) (F : Nat → Prop) (cs : List Value) (j : Nat) (s : Sec) : Prop :=
  ∃ (a : Option Addr) (c : Nat), cs[j * 2]? = some (.slice a (s.wait.length + 1) c) ∧ cs[j * 2 + 1]? = some (.bool s.bad) ∧ (s.wait.length + 1 ≤ c ∧ c ≤ maxLen) ∧ s.wait.length ≤ 1000000 ∧ VB w F a s.vals
/-- Block g is the document's disk of the sectors ss; F tells its blocks. -/
structure RDr (w : World) (F : Nat → Prop) (g : Nat) (A : Option Addr) (n c : Nat) (cs : List Value) (ss : List Sec) : Prop where
  blk : w.heap[g]? = some (.cells #[.slice A n c] 61 (0, 0))
  row : w.ownsRow 0 64 2 (.slice A n c) n cs
  sec : ∀ (j : Nat) (s : Sec), ss[j]? = some s → RSec w F cs j s
  len : ss.length = n
  fg : F g
  fr : ∀ r, (Value.slice A n c).ownBlock = some r → F r
  lt : ∀ b, F b → b < w.heap.size
  nl : n ≤ 4096
def RD (w : World) (F : Nat → Prop) (g : Nat) (ss : List Sec) : Prop := ∃ A n c cs, RDr w F g A n c cs ss
section
variable {w w' : World} {F F' M : Nat → Prop} {g : Nat} {A : Option Addr} {n c : Nat} {cs : List Value} {ss : List Sec}
theorem RSec.keepX {j : Nat} {s : Sec} (h : RSec w F cs j s) (hk : ∀ b, F b → ¬ M b → w'.heap[b]? = w.heap[b]?) (hM : ∀ b cur fr, M b → w.heap[b]? ≠ some (.cells cur 5 fr)) (hM2 : ∀ b cur fr, M b → w.heap[b]? ≠ some (.cells cur 30 fr)) (hF : ∀ b, F b → F' b) : RSec w' F' cs j s := by
  obtain ⟨a, c, h1, h2, h3, h4, h5⟩ := h
  exact ⟨a, c, h1, h2, h3, h4, h5.keepX hk hM hM2 hF⟩
theorem RSec.cells {cs' : List Value} {j : Nat} {s : Sec} (h : RSec w F cs j s) (h0 : cs'[j * 2]? = cs[j * 2]?) (h1 : cs'[j * 2 + 1]? = cs[j * 2 + 1]?) : RSec w F cs' j s := by
  obtain ⟨a, c, e1, e2, e3⟩ := h
  exact ⟨a, c, h0.trans e1, h1.trans e2, e3⟩
theorem RDr.keep (h : RDr w F g A n c cs ss) (hs : w.heap.size ≤ w'.heap.size) (hk : ∀ b, F b → w'.heap[b]? = w.heap[b]?) : RDr w' F g A n c cs ss := by
  refine ⟨(hk g h.fg).trans h.blk, ⟨h.row.1, ?_⟩, fun j s hj => (h.sec j s hj).keepX (M := fun _ => False) (fun b hb _ => hk b hb) (fun _ _ _ hm => hm.elim) (fun _ _ _ hm => hm.elim) fun _ hb => hb, h.len, h.fg, h.fr, fun b hb => Nat.lt_of_lt_of_le (h.lt b hb) hs, h.nl⟩
  rcases h.row.2 with h0 | ⟨r, cap, cur, h1, h2, h3, h4⟩
  · exact .inl h0
  · exact .inr ⟨r, cap, cur, h1, h2, (hk r (h.fr r (by rw [h1]; rfl))).trans h3, h4⟩
theorem RDr.below (h : RDr w F g A n c cs ss) (hb : Below w.heap.size w w') : RDr w' F g A n c cs ss := h.keep hb.size fun b hF => hb.block b (h.lt b hF)
theorem RD.keep (h : RD w F g ss) (hs : w.heap.size ≤ w'.heap.size) (hk : ∀ b, F b → w'.heap[b]? = w.heap[b]?) : RD w' F g ss := by
  obtain ⟨A, n, c, cs, h⟩ := h
  exact ⟨A, n, c, cs, h.keep hs hk⟩
theorem RD.below (h : RD w F g ss) (hb : Below w.heap.size w w') : RD w' F g ss := by
  obtain ⟨A, n, c, cs, h⟩ := h
  exact ⟨A, n, c, cs, h.below hb⟩
theorem RD.lt (h : RD w F g ss) : ∀ b, F b → b < w.heap.size := by obtain ⟨A, n, c, cs, h⟩ := h; exact h.lt
theorem RD.glt (h : RD w F g ss) : g < w.heap.size := by obtain ⟨A, n, c, cs, h⟩ := h; exact h.lt g h.fg
theorem RD.nl (h : RD w F g ss) : ss.length ≤ 4096 := by obtain ⟨A, n, c, cs, h⟩ := h; rw [h.len]; exact h.nl
/-- The place of a sector. -/
theorem RDr.at_ (h : RDr w F g A n c cs ss) {j : Nat} (hj : j < n) : ∃ r s a c', A = some ⟨r, 0, none⟩ ∧ ss[j]? = some s ∧ w.cell? ⟨r, j * 2, none⟩ = some (.slice a (s.wait.length + 1) c') ∧ w.cell? ⟨r, j * 2 + 1, none⟩ = some (.bool s.bad) ∧ (s.wait.length + 1 ≤ c' ∧ c' ≤ maxLen) ∧ s.wait.length ≤ 1000000 ∧ VB w F a s.vals ∧ F r ∧ r ≠ g := by
  have hs := List.getElem?_eq_getElem (l := ss) (i := j) (by rw [h.len]; exact hj)
  obtain ⟨a, c', h1, h2, h3, h4, h5⟩ := h.sec j _ hs
  obtain ⟨r, cap, hv, _, _⟩ := h.row.form (by omega)
  have ha : A = some ⟨r, 0, none⟩ := by injection hv
  subst ha
  have e1 : ∀ k, (⟨r, 0, none⟩ : Addr).add k = ⟨r, k, none⟩ := fun k => by unfold Addr.add; split <;> simp_all
  have c1 := h.row.cells (g := r) rfl _ _ h1
  have c2 := h.row.cells (g := r) rfl _ _ h2
  rw [e1] at c1 c2
  refine ⟨r, _, a, c', rfl, hs, c1, c2, h3, h4, h5, h.fr r rfl, fun e => ?_⟩
  obtain ⟨cur, h'⟩ := own_type h.row (b := r) rfl
  rw [e, h.blk] at h'
  simp at h'
/-- Blocks of the disk that are no bytes and no row of values. -/
theorem RDr.kinds (h : RDr w F g A n c cs ss) {b : Nat} (hb : b = g ∨ (Value.slice A n c).ownBlock = some b) : (∀ cur fr, w.heap[b]? ≠ some (.cells cur 5 fr)) ∧ ∀ cur fr, w.heap[b]? ≠ some (.cells cur 30 fr) := by
  rcases hb with rfl | hb
  · exact ⟨fun cur fr hh => (by rw [h.blk] at hh; simp at hh), fun cur fr hh => (by rw [h.blk] at hh; simp at hh)⟩
  · obtain ⟨cur', h'⟩ := own_type h.row hb
    exact ⟨fun cur fr hh => (by rw [h'] at hh; simp at hh), fun cur fr hh => (by rw [h'] at hh; simp at hh)⟩
/-- One cell of the row turns. -/
theorem own_set2 {base : Nat} {e : TypeId} {r s p : Nat} {xs : List Value} {v : Value} (h : w.ownsRow base e s (.slice (some ⟨r, 0, none⟩) n c) n xs) : (w.setCell ⟨r, p, none⟩ v).ownsRow base e s (.slice (some ⟨r, 0, none⟩) n c) n (xs.set p v) := by
  refine ⟨by rw [List.length_set]; exact h.1, ?_⟩
  rcases h.2 with ⟨h1, _⟩ | ⟨g', cap, cur, hv, hb, hg, h1, h2, h3, h4⟩
  · cases h1
  · injection hv with hv1 hv2 hv3
    injection hv1 with hv1
    injection hv1 with hv1
    subst hv1
    subst hv3
    refine .inr ⟨r, c, cur.setIfInBounds p v, rfl, hb, heap_setCell_same _ _ _ _ _ _ hg, h1, h2, by rw [Array.size_setIfInBounds]; exact h3, ?_⟩
    rw [Array.toList_setIfInBounds, ← h4, List.take_set]
theorem RDr.cell (h : RDr w F g A n c cs ss) {r i p : Nat} {v : Value} {s' : Sec} (hA : A = some ⟨r, 0, none⟩) (hi : i < n) (hp : p = i * 2 ∨ p = i * 2 + 1) (hF : ∀ b, F b → F' b) (hlt : ∀ b, F' b → b < w.heap.size) (hs : RSec w F' (cs.set p v) i s') :
    RDr (w.setCell ⟨r, p, none⟩ v) F' g A n c (cs.set p v) (ss.set i s') := by
  subst hA
  have hrg : g ≠ r := fun e => by
    obtain ⟨cur, h'⟩ := own_type h.row (b := r) rfl
    rw [← e, h.blk] at h'
    simp at h'
  have hk : ∀ b, b ≠ r → (w.setCell ⟨r, p, none⟩ v).heap[b]? = w.heap[b]? := fun b hb => heap_setCell_other _ _ _ _ hb
  have hkd := h.kinds (b := r) (.inr rfl)
  refine ⟨(hk g hrg).trans h.blk, own_set2 h.row, fun j s hj => ?_, by rw [List.length_set]; exact h.len, hF g h.fg, fun r' hr => hF r' (h.fr r' hr), fun b hb => by rw [set_size]; exact hlt b hb, h.nl⟩
  by_cases hij : i = j
  · subst hij
    rw [List.getElem?_set_self (by rw [h.len]; exact hi)] at hj
    injection hj with hj
    subst hj
    exact hs.keepX (M := fun b => b = r) (fun b _ hb => hk b hb) (fun b cur fr hm => hm ▸ hkd.1 cur fr) (fun b cur fr hm => hm ▸ hkd.2 cur fr) fun _ hb => hb
  · rw [List.getElem?_set_ne hij] at hj
    exact ((h.sec j s hj).cells (List.getElem?_set_ne (by omega)) (List.getElem?_set_ne (by omega))).keepX (M := fun b => b = r) (fun b _ hb => hk b hb) (fun b cur fr hm => hm ▸ hkd.1 cur fr) (fun b cur fr hm => hm ▸ hkd.2 cur fr) hF
/-- One sector's values turn. -/
theorem RDr.put (h : RDr w F g A n c cs ss) {r i : Nat} {s s' : Sec} {a : Option Addr} {c' : Nat} (hA : A = some ⟨r, 0, none⟩) (hs : ss[i]? = some s) (hF : ∀ b, F b → F' b) (hlt : ∀ b, F' b → b < w.heap.size) (hv : VB w F' a s'.vals) (hb : s'.bad = s.bad) (hc : s'.wait.length + 1 ≤ c' ∧ c' ≤ maxLen) (hw : s'.wait.length ≤ 1000000) :
    RDr (w.setCell ⟨r, i * 2, none⟩ (.slice a (s'.wait.length + 1) c')) F' g A n c (cs.set (i * 2) (.slice a (s'.wait.length + 1) c')) (ss.set i s') := by
  have hi : i < n := by rw [← h.len]; exact (List.getElem?_eq_some_iff.1 hs).1
  obtain ⟨a0, c0, h1, h2, _⟩ := h.sec i s hs
  refine h.cell hA hi (.inl rfl) hF hlt ⟨a, c', List.getElem?_set_self (List.getElem?_eq_some_iff.1 h1).1, ?_, hc, hw, hv⟩
  rw [List.getElem?_set_ne (by omega), hb]
  exact h2
/-- One sector turns bad, or good. -/
theorem RDr.bad (h : RDr w F g A n c cs ss) {r i : Nat} {s : Sec} {on : Bool} (hA : A = some ⟨r, 0, none⟩) (hs : ss[i]? = some s) : RDr (w.setCell ⟨r, i * 2 + 1, none⟩ (.bool on)) F g A n c (cs.set (i * 2 + 1) (.bool on)) (ss.set i { s with bad := on }) := by
  have hi : i < n := by rw [← h.len]; exact (List.getElem?_eq_some_iff.1 hs).1
  obtain ⟨a0, c0, h1, h2, h3, h4, h5⟩ := h.sec i s hs
  refine h.cell hA hi (.inr rfl) (fun _ hb => hb) h.lt ⟨a0, c0, ?_, List.getElem?_set_self (List.getElem?_eq_some_iff.1 h2).1, h3, h4, h5⟩
  rw [List.getElem?_set_ne (by omega)]
  exact h1
end

end Go.Proofs.Ytpponofbkkikfaa
