/- The law's array of rows of what was read and written: four rows of byte slices, beside the disk. -/
import Derived.Test.YtpponofbkkikfaaDkI
namespace Go.Proofs.Ytpponofbkkikfaa
open Go.RowKit

/-- A row of byte slices of the law's own: its elements' blocks are none of the disk's (F), and lie ahead of all of the law's rows or hold bytes. -/
structure HE (wr : World) (F : Nat → Prop) (base : Nat) (A : Option Addr) (L C : Nat) (ls : List (List Int)) (vs : List Value) : Prop where
  row : wr.ownsRow base 30 1 (.slice A L C) L vs
  out : ∀ b, (Value.slice A L C).ownBlock = some b → ¬ F b
  len : ls.length = L
  els : ∀ (j : Nat) (l : List Int), ls[j]? = some l → ∃ (a : Option Addr) (c : Nat), vs[j]? = some (Value.slice a 128 c) ∧ (128 ≤ c ∧ c ≤ maxLen) ∧ BS wr wr.heap.size a 128 l ∧ ∀ b o, a = some ⟨b, o, none⟩ → b < wr.heap.size ∧ ¬ F b ∧ (b < base ∨ ∃ cur, wr.heap[b]? = some (.cells cur 5 (0, 0)))
theorem HE.keepX {wr w1 : World} {F F' M : Nat → Prop} {base : Nat} {A : Option Addr} {L C : Nat} {ls : List (List Int)} {vs : List Value} (h : HE wr F base A L C ls vs) (hs : wr.heap.size ≤ w1.heap.size) (hk : ∀ b, b < wr.heap.size → ¬ M b → w1.heap[b]? = wr.heap[b]?)
    (hMe : ∀ b, ¬ F b → (b < base ∨ ∃ cur, wr.heap[b]? = some (.cells cur 5 (0, 0))) → ¬ M b) (hMr : ∀ b, (Value.slice A L C).ownBlock = some b → ¬ M b) (hF : ∀ b, F' b → F b ∨ wr.heap.size ≤ b) : HE w1 F' base A L C ls vs := by
  refine ⟨⟨h.row.1, ?_⟩, fun b hb hf => ?_, h.len, fun j l hl => ?_⟩
  · rcases h.row.2 with h0 | ⟨r, cap, cur, e1, e2, e3, e4⟩
    · exact .inl h0
    · exact .inr ⟨r, cap, cur, e1, e2, (hk r (Array.getElem?_eq_some_iff.1 e3).1 (hMr r (by rw [e1]; rfl))).trans e3, e4⟩
  · rcases hF b hf with e | e
    · exact h.out b hb e
    · have := (h.row.lt b hb).2; omega
  · obtain ⟨a, c, h1, h2, h3, h4⟩ := h.els j l hl
    have hkb : ∀ b o, a = some ⟨b, o, none⟩ → w1.heap[b]? = wr.heap[b]? := fun b o e => hk b (h4 b o e).1 (hMe b (h4 b o e).2.1 (h4 b o e).2.2)
    refine ⟨a, c, h1, h2, ⟨⟨h3.1.1, fun k hk' => ?_⟩, h3.2⟩, fun b o e => ⟨Nat.lt_of_lt_of_le (h4 b o e).1 hs, fun hf => ?_, (h4 b o e).2.2.imp id fun ⟨cur, hc⟩ => ⟨cur, (hkb b o e).trans hc⟩⟩⟩
    · obtain ⟨b, o, ha, hb, hc⟩ := h3.1.2 k hk'
      exact ⟨b, o, ha, by omega, (World.cell?_of_block (w := wr) (hkb b o ha)).trans hc⟩
    · rcases hF b hf with e2 | e2
      · exact (h4 b o e).2.1 e2
      · have := (h4 b o e).1; omega
section
variable {wr w1 : World} {F F' : Nat → Prop} {base : Nat} {A : Option Addr} {L C : Nat} {ls : List (List Int)} {vs : List Value}
theorem HE.below (h : HE wr F base A L C ls vs) (hb : Below wr.heap.size wr w1) : HE w1 F base A L C ls vs := h.keepX (M := fun _ => False) hb.size (fun b hb' _ => hb.block b hb') (fun _ _ _ hm => hm) (fun _ _ hm => hm) fun _ hb => .inl hb
theorem HE.turn (h : HE wr F base A L C ls vs) (ht : Turn F wr w1) (hF : ∀ b, F' b → F b ∨ wr.heap.size ≤ b) : HE w1 F' base A L C ls vs := h.keepX (M := F) ht.size ht.block (fun _ hf _ hm => hf hm) h.out hF
theorem HE.nil : HE wr F base none 0 0 [] [] := ⟨World.ownsRow_nil _ _ _ _, fun b hb => (by cases hb), rfl, fun j l h => (by simp at h)⟩
/-- One more. -/
theorem HE.snoc {A' : Option Addr} {C' c : Nat} {a : Option Addr} {l : List Int} (h : HE wr F base A L C ls vs) (hs : wr.heap.size ≤ w1.heap.size) (hk : ∀ b, b < wr.heap.size → (Value.slice A L C).ownBlock ≠ some b → w1.heap[b]? = wr.heap[b]?)
    (ho : w1.ownsRow base 30 1 (.slice A' (L + 1) C') (L + 1) (vs ++ [.slice a 128 c])) (hat : (Value.slice A' (L + 1) C').ownBlock = (Value.slice A L C).ownBlock ∨ ∀ k, (Value.slice A' (L + 1) C').ownBlock = some k → wr.heap.size ≤ k) (hlt : ∀ b, F b → b < wr.heap.size)
    (hc : 128 ≤ c ∧ c ≤ maxLen) (hb : BS wr wr.heap.size a 128 l) (hbl : ∀ b o, a = some ⟨b, o, none⟩ → ¬ F b ∧ (b < base ∨ ∃ cur, wr.heap[b]? = some (.cells cur 5 (0, 0)))) : HE w1 F base A' (L + 1) C' (ls ++ [l]) (vs ++ [.slice a 128 c]) := by
  have hno : ∀ b, (b < base ∨ ∃ cur, wr.heap[b]? = some (.cells cur 5 (0, 0))) → (Value.slice A L C).ownBlock ≠ some b := fun b hb e => by
    rcases hb with e1 | ⟨cur, e1⟩
    · have := (h.row.lt b e).1; omega
    · obtain ⟨cur', e2⟩ := own_type h.row e
      rw [e1] at e2
      simp at e2
  have one : ∀ (a : Option Addr) (l : List Int), BS wr wr.heap.size a 128 l → (∀ b o, a = some ⟨b, o, none⟩ → ¬ F b ∧ (b < base ∨ ∃ cur, wr.heap[b]? = some (.cells cur 5 (0, 0)))) → BS w1 w1.heap.size a 128 l ∧ ∀ b o, a = some ⟨b, o, none⟩ → b < w1.heap.size ∧ ¬ F b ∧ (b < base ∨ ∃ cur, w1.heap[b]? = some (.cells cur 5 (0, 0))) := fun a l hb hbl => by
    have hbk : ∀ b o, a = some ⟨b, o, none⟩ → b < wr.heap.size ∧ w1.heap[b]? = wr.heap[b]? := fun b o e => by
      obtain ⟨b2, o2, e2, hb2, _⟩ := hb.at_ (j := 0) (by omega)
      rw [e] at e2
      injection e2 with e2
      injection e2 with e2
      exact ⟨by omega, hk b (by omega) (hno b (hbl b o e).2)⟩
    refine ⟨⟨⟨hb.1.1, fun k hk' => ?_⟩, hb.2⟩, fun b o e => ⟨Nat.lt_of_lt_of_le (hbk b o e).1 hs, (hbl b o e).1, (hbl b o e).2.imp id fun ⟨cur, hc⟩ => ⟨cur, (hbk b o e).2.trans hc⟩⟩⟩
    obtain ⟨b, o, ha, hb', hc'⟩ := hb.1.2 k hk'
    exact ⟨b, o, ha, by omega, (World.cell?_of_block (w := wr) (hbk b o ha).2).trans hc'⟩
  refine ⟨ho, fun b hb' hf => ?_, by rw [List.length_append, h.len]; rfl, fun j l' hl => ?_⟩
  · rcases hat with e | e
    · exact h.out b (by rw [← e]; exact hb') hf
    · have := e b hb'
      have := hlt b hf
      omega
  · have hvl : vs.length = L := by have := h.row.1; simpa using this
    by_cases hj : j < L
    · rw [List.getElem?_append_left (by rw [h.len]; exact hj)] at hl
      obtain ⟨a5, c5, k1, k2, k3, k4⟩ := h.els j l' hl
      obtain ⟨m1, m2⟩ := one a5 l' k3 fun b o e => (k4 b o e).2
      exact ⟨a5, c5, by rw [List.getElem?_append_left (by omega)]; exact k1, k2, m1, m2⟩
    · have hjl := (List.getElem?_eq_some_iff.1 hl).1
      rw [List.length_append, h.len] at hjl
      simp only [List.length_cons, List.length_nil] at hjl
      obtain rfl : j = L := by omega
      rw [List.getElem?_append_right (by rw [h.len]; exact Nat.le_refl _), h.len, Nat.sub_self] at hl
      injection hl with hl
      subst hl
      obtain ⟨m1, m2⟩ := one a l hb hbl
      exact ⟨a, c, by rw [List.getElem?_append_right (by omega), hvl, Nat.sub_self]; rfl, hc, m1, m2⟩
theorem HE.at_ (h : HE wr F base A L C ls vs) {j : Nat} {l : List Int} (hl : ls[j]? = some l) : ∃ r a c, A = some ⟨r, 0, none⟩ ∧ wr.cell? ⟨r, j, none⟩ = some (.slice a 128 c) ∧ BS wr wr.heap.size a 128 l := by
  have hj : j < L := by rw [← h.len]; exact (List.getElem?_eq_some_iff.1 hl).1
  obtain ⟨a, c, h1, _, h3, _⟩ := h.els j l hl
  obtain ⟨r, cap, hv, _, _⟩ := h.row.form (by omega)
  have ha : A = some ⟨r, 0, none⟩ := by injection hv
  subst ha
  have hc := h.row.cells (g := r) rfl _ _ h1
  have e1 : (⟨r, 0, none⟩ : Addr).add j = ⟨r, j, none⟩ := by unfold Addr.add; split <;> simp_all
  rw [e1] at hc
  exact ⟨r, a, c, rfl, hc, h3⟩
end

abbrev Row := Option Addr × Nat × Nat
def Row.v (r : Row) : Value := .slice r.1 r.2.1 r.2.2
/-- Block gh holds the rows R, which read as hs. -/
structure HA (wr : World) (F : Nat → Prop) (base gh : Nat) (t : TypeId) (R : List Row) (hs : List (List (List Int))) : Prop where
  blk : wr.heap[gh]? = some (.cells (R.map Row.v).toArray t (0, 0))
  gout : ¬ F gh
  gb : base ≤ gh
  ght : t ≠ 5 ∧ t ≠ 30
  lr : R.length = hs.length
  row : ∀ (j : Nat) (r : Row) (ls : List (List Int)), R[j]? = some r → hs[j]? = some ls → ∃ vs, HE wr F base r.1 r.2.1 r.2.2 ls vs
  apart : ∀ (i j : Nat) (r s : Row) (k : Nat), R[i]? = some r → R[j]? = some s → r.v.ownBlock = some k → s.v.ownBlock = some k → i = j
section
variable {wr w1 : World} {F F' : Nat → Prop} {base gh : Nat} {t : TypeId} {R : List Row} {hs : List (List (List Int))}
theorem HA.below (h : HA wr F base gh t R hs) (hb : Below wr.heap.size wr w1) : HA w1 F base gh t R hs :=
  ⟨(hb.block gh (Array.getElem?_eq_some_iff.1 h.blk).1).trans h.blk, h.gout, h.gb, h.ght, h.lr, fun j r ls h1 h2 => (h.row j r ls h1 h2).imp fun _ k => k.below hb, h.apart⟩
theorem HA.turn (h : HA wr F base gh t R hs) (ht : Turn F wr w1) (hF : ∀ b, F' b → F b ∨ wr.heap.size ≤ b) : HA w1 F' base gh t R hs := by
  have hlt := (Array.getElem?_eq_some_iff.1 h.blk).1
  refine ⟨(ht.block gh hlt h.gout).trans h.blk, fun hf => ?_, h.gb, h.ght, h.lr, fun j r ls h1 h2 => (h.row j r ls h1 h2).imp fun _ k => k.turn ht hF, h.apart⟩
  rcases hF gh hf with e | e
  · exact h.gout e
  · omega
/-- One row is another one. -/
theorem HA.put (h : HA wr F base gh t R hs) {i : Nat} {r r' : Row} {ls' : List (List Int)} {vs' : List Value} (hr : R[i]? = some r) (hsz : wr.heap.size ≤ w1.heap.size) (hblk : w1.heap[gh]? = some (.cells ((R.set i r').map Row.v).toArray t (0, 0)))
    (hk : ∀ b, b < wr.heap.size → b ≠ gh → r.v.ownBlock ≠ some b → w1.heap[b]? = wr.heap[b]?) (hrow : HE w1 F base r'.1 r'.2.1 r'.2.2 ls' vs') (hat : r'.v.ownBlock = r.v.ownBlock ∨ ∀ k, r'.v.ownBlock = some k → wr.heap.size ≤ k) :
    HA w1 F base gh t (R.set i r') (hs.set i ls') := by
  have hil := (List.getElem?_eq_some_iff.1 hr).1
  have hlr := h.lr
  have hrt : ∀ (j : Nat) (s : Row), R[j]? = some s → ∀ b, s.v.ownBlock = some b → (base ≤ b ∧ b < wr.heap.size) ∧ ∃ cur, wr.heap[b]? = some (.cells cur 30 (0, 0)) := fun j s hj b hb => by
    obtain ⟨ls, hls⟩ : ∃ ls, hs[j]? = some ls := ⟨_, List.getElem?_eq_getElem (by have := (List.getElem?_eq_some_iff.1 hj).1; omega)⟩
    obtain ⟨vs, hd⟩ := h.row j s ls hj hls
    exact ⟨hd.row.lt b hb, own_type hd.row hb⟩
  have hM : ∀ b, ¬ F b → (b < base ∨ ∃ cur, wr.heap[b]? = some (.cells cur 5 (0, 0))) → ¬ (b = gh ∨ r.v.ownBlock = some b) := fun b _ hb hm => by
    have hgb := h.gb
    rcases hb with hb | ⟨cur, hc⟩
    · rcases hm with e | e
      · omega
      · have := (hrt i r hr b e).1; omega
    · rcases hm with e | e
      · rw [e, h.blk] at hc
        injection hc with hc
        injection hc with _ hc
        exact h.ght.1 hc
      · obtain ⟨_, cur', hc'⟩ := hrt i r hr b e
        rw [hc] at hc'
        simp at hc'
  refine ⟨hblk, h.gout, h.gb, h.ght, by simp [hlr], fun j s ls h1 h2 => ?_, fun j k s u q h1 h2 h3 h4 => ?_⟩
  · by_cases e : i = j
    · subst e
      rw [List.getElem?_set_self hil] at h1
      rw [List.getElem?_set_self (by omega)] at h2
      injection h1 with h1
      injection h2 with h2
      subst h1 h2
      exact ⟨vs', hrow⟩
    · rw [List.getElem?_set_ne e] at h1 h2
      obtain ⟨vs, hd⟩ := h.row j s ls h1 h2
      refine ⟨vs, hd.keepX (M := fun b => b = gh ∨ r.v.ownBlock = some b) hsz (fun b hb hno => hk b hb (fun e => hno (.inl e)) fun e => hno (.inr e)) hM (fun b hb hm => ?_) fun b hb => .inl hb⟩
      rcases hm with e2 | e2
      · obtain ⟨_, cur, hc⟩ := hrt j s h1 b hb
        rw [e2, h.blk] at hc
        injection hc with hc
        injection hc with _ hc
        exact h.ght.2 hc
      · exact e (h.apart i j r s b hr h1 e2 hb)
  · by_cases e : i = j
    · by_cases e2 : i = k
      · omega
      · subst e
        rw [List.getElem?_set_self hil] at h1
        rw [List.getElem?_set_ne e2] at h2
        injection h1 with h1
        subst h1
        rcases hat with e3 | e3
        · exact h.apart i k r u q hr h2 (by rw [← e3]; exact h3) h4
        · have := e3 q h3
          have := (hrt k u h2 q h4).1
          omega
    · by_cases e2 : i = k
      · subst e2
        rw [List.getElem?_set_self hil] at h2
        rw [List.getElem?_set_ne e] at h1
        injection h2 with h2
        subst h2
        rcases hat with e3 | e3
        · exact h.apart j i s r q h1 hr h3 (by rw [← e3]; exact h4)
        · have := e3 q h4
          have := (hrt j s h1 q h3).1
          omega
      · rw [List.getElem?_set_ne e] at h1
        rw [List.getElem?_set_ne e2] at h2
        exact h.apart j k s u q h1 h2 h3 h4
end

end Go.Proofs.Ytpponofbkkikfaa
