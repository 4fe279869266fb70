/- The bank's memory: its devices, its fields; what a frame leaves of them; one device turns, comes, goes. -/
import Derived.Test.YtpoeneabhoajaaaDoorDkI4
namespace Go.Proofs.YtpoeneabhoajaaaDoor
open Go.RowKit

theorem el_dk : ElemOk Tryd.prog 50 55 1 8 := .mk' Tryd.underlying50 (z := .pointer none) (by kernel_rfl) rfl (by decide)

/-- A bank: its devices (none: detached), when the power goes, is it down, how many writes and flushes were done. -/
structure Bst where
  ds : List (Option (List Sec))
  armed : Bool
  left : Int
  down : Bool
  done : Int
def ptrO : Option Nat → Value
  | some p => ptrV p
  | none => .pointer none
theorem ptrO_one (ps : List (Option Nat)) : ∀ u ∈ ps.map ptrO, u.oneCell' = true := fun u hu => by
  obtain ⟨p, _, rfl⟩ := List.mem_map.1 hu
  cases p <;> rfl
/-- A bank's cells. -/
abbrev bankC (A : Option Addr) (n c : Nat) (s : Bst) : Array Value := #[.slice A n c, .bool s.armed, .int .i64 s.left, .bool s.down, .int .i64 s.done]

/-- Block g is the bank s; its devices lie in the blocks ps, device j has the blocks Fs j; F tells all blocks. -/
structure BK (w : World) (F : Nat → Prop) (g : Nat) (A : Option Addr) (n c : Nat) (ps : List (Option Nat)) (Fs : Nat → Nat → Prop) (s : Bst) : Prop where
  blk : w.heap[g]? = some (.cells (bankC A n c s) 52 (0, 0))
  row : w.ownsRow 0 55 1 (.slice A n c) n (ps.map ptrO)
  len : s.ds.length = n
  dk : ∀ (j : Nat) (ss : List Sec), s.ds[j]? = some (some ss) → ∃ p, ps[j]? = some (some p) ∧ DK w (Fs j) p ss
  no : ∀ j : Nat, s.ds[j]? = some none → ps[j]? = some none
  fs : ∀ (j b : Nat), Fs j b → F b ∧ b ≠ g ∧ (Value.slice A n c).ownBlock ≠ some b
  ap : ∀ (i j b : Nat), Fs i b → Fs j b → i = j
  fg : F g
  fr : ∀ r, (Value.slice A n c).ownBlock = some r → F r
  lt : ∀ b, F b → b < w.heap.size
  n8 : n ≤ 8
  lf : (s.armed = true → 0 ≤ s.left) ∧ I64 s.left
def BO (w : World) (F : Nat → Prop) (g : Nat) (s : Bst) : Prop := ∃ A n c ps Fs, BK w F g A n c ps Fs s
section
variable {w w' : World} {F F' : Nat → Prop} {g : Nat} {A : Option Addr} {n c : Nat} {ps : List (Option Nat)} {Fs : Nat → Nat → Prop} {s s' : Bst}
theorem BK.lp (h : BK w F g A n c ps Fs s) : ps.length = n := by have := h.row.1; simpa using this
theorem own_same {base : Nat} {e : TypeId} {k m : Nat} {v : Value} {xs : List Value} (h : w.ownsRow base e k v m xs) (hk : ∀ r, v.ownBlock = some r → w'.heap[r]? = w.heap[r]?) : w'.ownsRow base e k v m xs := by
  refine ⟨h.1, ?_⟩
  rcases h.2 with h0 | ⟨r, cap, cur, h1, h2, h3, h4⟩
  · exact .inl h0
  · exact .inr ⟨r, cap, cur, h1, h2, (hk r (by rw [h1]; rfl)).trans h3, h4⟩
theorem BK.rg (h : BK w F g A n c ps Fs s) : (Value.slice A n c).ownBlock ≠ some g := fun e => by
  obtain ⟨cur, h'⟩ := own_type h.row e
  rw [h.blk] at h'
  simp at h'
theorem BK.keep (h : BK w F g A n c ps Fs s) (hs : w.heap.size ≤ w'.heap.size) (hk : ∀ b, F b → w'.heap[b]? = w.heap[b]?) : BK w' F g A n c ps Fs s :=
  ⟨(hk g h.fg).trans h.blk, own_same h.row fun r hr => hk r (h.fr r hr), h.len, fun j ss hj => by
    obtain ⟨p, h1, h2⟩ := h.dk j ss hj
    exact ⟨p, h1, h2.keep hs fun b hb => hk b (h.fs j b hb).1⟩, h.no, h.fs, h.ap, h.fg, h.fr, fun b hb => Nat.lt_of_lt_of_le (h.lt b hb) hs, h.n8, h.lf⟩
theorem BK.below (h : BK w F g A n c ps Fs s) (hb : Below w.heap.size w w') : BK w' F g A n c ps Fs s := h.keep hb.size fun b hF => hb.block b (h.lt b hF)
theorem BO.keep (h : BO w F g s) (hs : w.heap.size ≤ w'.heap.size) (hk : ∀ b, F b → w'.heap[b]? = w.heap[b]?) : BO w' F g s := by
  obtain ⟨A, n, c, ps, Fs, h⟩ := h
  exact ⟨A, n, c, ps, Fs, h.keep hs hk⟩
theorem BO.below (h : BO w F g s) (hb : Below w.heap.size w w') : BO w' F g s := by
  obtain ⟨A, n, c, ps, Fs, h⟩ := h
  exact ⟨A, n, c, ps, Fs, h.below hb⟩
theorem BO.lt (h : BO w F g s) : ∀ b, F b → b < w.heap.size := by obtain ⟨A, n, c, ps, Fs, h⟩ := h; exact h.lt
theorem BO.n8 (h : BO w F g s) : s.ds.length ≤ 8 := by obtain ⟨A, n, c, ps, Fs, h⟩ := h; rw [h.len]; exact h.n8
theorem BO.lf (h : BO w F g s) : (s.armed = true → 0 ≤ s.left) ∧ I64 s.left := by obtain ⟨A, n, c, ps, Fs, h⟩ := h; exact h.lf
/-- The fields turn. -/
theorem BK.fields (h : BK w F g A n c ps Fs s) (hd : s'.ds = s.ds) (hl : (s'.armed = true → 0 ≤ s'.left) ∧ I64 s'.left) (hg : w'.heap[g]? = some (.cells (bankC A n c s') 52 (0, 0))) (hk : ∀ b, b ≠ g → w'.heap[b]? = w.heap[b]?) (hs : w'.heap.size = w.heap.size) : BK w' F g A n c ps Fs s' :=
  ⟨hg, own_same h.row fun r hr => hk r fun e => h.rg (e ▸ hr), by rw [hd]; exact h.len, fun j ss hj => by
    rw [hd] at hj
    obtain ⟨p, h1, h2⟩ := h.dk j ss hj
    exact ⟨p, h1, h2.keep (Nat.le_of_eq hs.symm) fun b hb => hk b (h.fs j b hb).2.1⟩, fun j hj => h.no j (by rw [← hd]; exact hj), h.fs, h.ap, h.fg, h.fr, fun b hb => by rw [hs]; exact h.lt b hb, h.n8, hl⟩
theorem turn_only {F : Nat → Prop} {g : Nat} (hg : F g) (hk : ∀ b, b ≠ g → w'.heap[b]? = w.heap[b]?) (ho : w'.os = w.os ∧ w'.tape = w.tape ∧ w'.output = w.output ∧ w'.heap.size = w.heap.size) : Turn F w w' :=
  ⟨ho.1, ho.2.1, ho.2.2.1, Nat.le_of_eq ho.2.2.2.symm, fun k _ hf => hk k fun e => hf (e ▸ hg)⟩
/-- The place of a device. -/
theorem BK.at_ (h : BK w F g A n c ps Fs s) {j : Nat} (hj : j < n) : ∃ r q, A = some ⟨r, 0, none⟩ ∧ ps[j]? = some q ∧ w.cell? ⟨r, j, none⟩ = some (ptrO q) ∧ w.frozen? ⟨r, j, none⟩ = false := by
  obtain ⟨q, hp⟩ : ∃ q, ps[j]? = some q := ⟨_, List.getElem?_eq_getElem (by rw [h.lp]; exact hj)⟩
  obtain ⟨r, cap, hv, _, _⟩ := h.row.form (by omega)
  have ha : A = some ⟨r, 0, none⟩ := by injection hv
  subst ha
  have hc := h.row.cells (g := r) rfl j (ptrO q) (by rw [List.getElem?_map, hp]; rfl)
  have e1 : (⟨r, 0, none⟩ : Addr).add j = ⟨r, j, none⟩ := by unfold Addr.add; split <;> simp_all
  rw [e1] at hc
  obtain ⟨cur, hcur⟩ := own_type h.row (b := r) rfl
  exact ⟨r, _, rfl, hp, hc, frozen_of_row w r _ _ _ hcur⟩
/-- One device turns. -/
theorem BK.diskK (h : BK w F g A n c ps Fs s) {j p : Nat} {ss ss' : List Sec} {F' : Nat → Prop} (hj : s.ds[j]? = some (some ss)) (hp : ps[j]? = some (some p)) (ht : Turn (Fs j) w w') (hd : DK w' F' p ss') (hF : ∀ b, F' b → Fs j b ∨ w.heap.size ≤ b) :
    Turn F w w' ∧ ∃ F2, (∃ Fs2, BK w' F2 g A n c ps Fs2 { s with ds := s.ds.set j (some ss') }) ∧ ∀ b, F2 b → F b ∨ w.heap.size ≤ b := by
  have hjl := (List.getElem?_eq_some_iff.1 hj).1
  have hsz := ht.size
  have hrl : ∀ r, (Value.slice A n c).ownBlock = some r → r < w.heap.size := fun r hr => h.lt r (h.fr r hr)
  have hgl := h.lt g h.fg
  refine ⟨⟨ht.os, ht.tape, ht.output, ht.size, fun k hk hf => ht.block k hk fun e => hf (h.fs j k e).1⟩, fun b => F b ∨ (w.heap.size ≤ b ∧ b < w'.heap.size), ⟨fun i b => if i = j then F' b else Fs i b, ?_⟩, fun b hb => hb.imp id fun e => e.1⟩
  refine ⟨(ht.block g hgl fun e => (h.fs j g e).2.1 rfl).trans h.blk, own_same h.row fun r hr => ht.block r (hrl r hr) fun e => (h.fs j r e).2.2 hr, by rw [List.length_set]; exact h.len, fun i s1 hi => ?_, fun i hi => ?_, fun i b hb => ?_, fun i k b hi hk => ?_, .inl h.fg, fun r hr => .inl (h.fr r hr), fun b hb => hb.elim (fun e => Nat.lt_of_lt_of_le (h.lt b e) hsz) fun e => e.2, h.n8, h.lf⟩
  · simp only at hi
    by_cases hij : j = i
    · subst hij
      rw [List.getElem?_set_self hjl] at hi
      injection hi with hi
      injection hi with hi
      subst hi
      exact ⟨p, hp, by simpa using hd⟩
    · rw [List.getElem?_set_ne hij] at hi
      obtain ⟨p', h1, h2⟩ := h.dk i s1 hi
      refine ⟨p', h1, ?_⟩
      rw [show (fun b => if i = j then F' b else Fs i b) = Fs i from by funext b; rw [if_neg (Ne.symm hij)]]
      exact h2.keep hsz fun b hb => ht.block b (h2.lt b hb) fun e => hij (h.ap j i b e hb)
  · simp only at hi
    by_cases hij : j = i
    · subst hij
      rw [List.getElem?_set_self hjl] at hi
      cases hi
    · rw [List.getElem?_set_ne hij] at hi
      exact h.no i hi
  · by_cases hij : i = j
    · rw [if_pos hij] at hb
      rcases hF b hb with e | e
      · have := h.fs j b e
        exact ⟨.inl this.1, this.2⟩
      · exact ⟨.inr ⟨e, hd.lt b hb⟩, by omega, fun e' => by have := hrl b e'; omega⟩
    · rw [if_neg hij] at hb
      have := h.fs i b hb
      exact ⟨.inl this.1, this.2⟩
  · have key : ∀ i b, (if i = j then F' b else Fs i b) → (i = j ∧ (Fs j b ∨ w.heap.size ≤ b)) ∨ (i ≠ j ∧ Fs i b) := fun i b hb => by
      by_cases hij : i = j
      · rw [if_pos hij] at hb; exact .inl ⟨hij, hF b hb⟩
      · rw [if_neg hij] at hb; exact .inr ⟨hij, hb⟩
    rcases key i b hi with ⟨e1, h1⟩ | ⟨e1, h1⟩ <;> rcases key k b hk with ⟨e2, h2⟩ | ⟨e2, h2⟩
    · omega
    · rcases h1 with h1 | h1
      · exact absurd (h.ap j k b h1 h2).symm e2
      · have := h.lt b (h.fs k b h2).1; omega
    · rcases h2 with h2 | h2
      · exact absurd (h.ap j i b h2 h1).symm e1
      · have := h.lt b (h.fs i b h1).1; omega
    · exact h.ap i k b h1 h2
theorem BK.disk (h : BK w F g A n c ps Fs s) {j p : Nat} {ss ss' : List Sec} {F' : Nat → Prop} (hj : s.ds[j]? = some (some ss)) (hp : ps[j]? = some (some p)) (ht : Turn (Fs j) w w') (hd : DK w' F' p ss') (hF : ∀ b, F' b → Fs j b ∨ w.heap.size ≤ b) :
    Turn F w w' ∧ ∃ F2, BO w' F2 g { s with ds := s.ds.set j (some ss') } ∧ ∀ b, F2 b → F b ∨ w.heap.size ≤ b := by
  obtain ⟨h1, F2, ⟨Fs2, h2⟩, h3⟩ := h.diskK hj hp ht hd hF
  exact ⟨h1, F2, ⟨_, _, _, _, _, h2⟩, h3⟩
end

end Go.Proofs.YtpoeneabhoajaaaDoor
