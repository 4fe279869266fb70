/- What a sector says of a superblock: plain: the program's reading is the document's. -/
import Derived.Test.YtbgfccfhiocomaaSaD
namespace Go.Proofs.Ytbgfccfhiocomaa
open Go.RowKit Go.Shelf

theorem drop_take3 {l : List Int} {j : Nat} (h : j + 2 < l.length) : (l.drop j).take 3 = [l[j]?.getD 0, l[j + 1]?.getD 0, l[j + 2]?.getD 0] := by
  rw [drop_cons (show j < l.length by omega), drop_cons (show j + 1 < l.length by omega), drop_cons (show j + 1 + 1 < l.length by omega)]
  rfl
theorem enB_at {l : List Int} (ok : okBytes l) (i : Nat) : enB (enAt l i) = [l[1 + 3 * i]?.getD 0, l[2 + 3 * i]?.getD 0, l[3 + 3 * i]?.getD 0] := by
  have h1 := ok.get (1 + 3 * i)
  have h2 := ok.get (2 + 3 * i)
  have h3 := ok.get (3 + 3 * i)
  unfold enB enAt
  simp only
  rw [nb1_of h1.1 h1.2, nb2_of (by omega) (by omega)]
  simp only [List.cons_append, List.nil_append, List.cons.injEq, and_true, true_and]
  omega
theorem ens_inv {l : List Int} (ok : okBytes l) : ∀ k : Nat, 1 + 3 * k ≤ l.length → ((List.range k).map (enAt l)).flatMap enB = (l.drop 1).take (3 * k)
  | 0, _ => rfl
  | k + 1, h => by
    rw [List.range_succ, List.map_append, List.flatMap_append, ens_inv ok k (by omega), show 3 * (k + 1) = 3 * k + 3 by omega, List.take_add, List.drop_drop, drop_take3 (by omega)]
    simp only [List.map_cons, List.map_nil, List.flatMap_cons, List.flatMap_nil, List.append_nil]
    rw [enB_at ok, show 1 + 3 * k + 1 = 2 + 3 * k by omega, show 1 + 3 * k + 2 = 3 + 3 * k by omega]
theorem ros_inv {l : List Int} (ok : okBytes l) (h : 1 + 3 * hdOf l = (l.length : Int)) : rosBytes (enAll l) = l := by
  obtain ⟨h0, h1⟩ := hd_ok ok
  unfold rosBytes
  rw [enAll_len, Int.toNat_of_nonneg h0, nb1_of h0 h1]
  unfold enAll
  rw [ens_inv ok _ (by omega), List.take_of_length_le (by rw [List.length_drop]; omega)]
  have h2 := drop_cons (l := l) (j := 0) (by omega)
  rw [List.drop_zero] at h2
  exact h2.symm

/-- The document's reading of a payload. -/
def supG (p : List Int) : Int := (readOf 8 p).1
def supR (p : List Int) : Int := (readOf 8 (p.drop 8)).1
def supL (p : List Int) : List (Int × Int) := enAll (p.drop 16)
def okSD (p : List Int) : Bool := decide (17 ≤ p.length) && ((readOf 8 p).2 && ((readOf 8 (p.drop 8)).2 && (goodB (p.drop 16) && (decide (16 + (1 + 3 * hdOf (p.drop 16)) = (p.length : Int)) && rightS (supG p) (supR p) (supL p)))))
/-- The program's reading. -/
def tk1 (p : List Int) : Int × List Int × Bool := takeOf 8 p false
def tk2 (p : List Int) : Int × List Int × Bool := takeOf 8 (tk1 p).2.1 (tk1 p).2.2
def okSP (p : List Int) : Bool := !(tk2 p).2.2 && (goodB (tk2 p).2.1 && (rightS (tk1 p).1 (tk2 p).1 (enAll (tk2 p).2.1) && decide (superB (tk1 p).1 (tk2 p).1 (enAll (tk2 p).2.1) = p)))
theorem tk_read {p : List Int} (ok : okBytes p) (h1 : (readOf 8 p).2 = true) (h2 : (readOf 8 (p.drop 8)).2 = true) : tk1 p = (supG p, p.drop 8, false) ∧ tk2 p = (supR p, p.drop 16, false) := by
  obtain ⟨a1, a2, a3⟩ := take_read 8 (.inr (.inr (.inr rfl))) p ok
  obtain ⟨b1, b2, b3⟩ := take_read 8 (.inr (.inr (.inr rfl))) (p.drop 8) (ok.drop 8)
  have e1 : tk1 p = (supG p, p.drop 8, false) := by
    unfold tk1
    refine Prod.ext a1 (Prod.ext (a3 h1) ?_)
    rw [a2, h1]; rfl
  refine ⟨e1, ?_⟩
  unfold tk2
  rw [e1]
  refine Prod.ext b1 (Prod.ext ((b3 h2).trans (by rw [List.drop_drop])) ?_)
  rw [b2, h2]; rfl
theorem tk_bad {p : List Int} (ok : okBytes p) (h : (tk2 p).2.2 = false) : (readOf 8 p).2 = true ∧ (readOf 8 (p.drop 8)).2 = true := by
  obtain ⟨a1, a2, a3⟩ := take_read 8 (.inr (.inr (.inr rfl))) p ok
  have h1 : (tk1 p).2.2 = false := by
    cases hb : (tk1 p).2.2 with
    | false => rfl
    | true =>
      unfold tk2 at h
      rw [hb] at h
      simp [takeOf] at h
  have h2 : (readOf 8 p).2 = true := by
    unfold tk1 at h1
    rw [a2] at h1
    simpa using h1
  refine ⟨h2, ?_⟩
  obtain ⟨b1, b2, b3⟩ := take_read 8 (.inr (.inr (.inr rfl))) (p.drop 8) (ok.drop 8)
  unfold tk2 at h
  rw [h1, show (tk1 p).2.1 = p.drop 8 from a3 h2, b2] at h
  simpa using h
theorem sup_same {p : List Int} (ok : okBytes p) : okSP p = okSD p ∧ (okSD p = true → (tk1 p).1 = supG p ∧ (tk2 p).1 = supR p ∧ enAll (tk2 p).2.1 = supL p) := by
  have hfw : okSD p = true → okSP p = true ∧ ((tk1 p).1 = supG p ∧ (tk2 p).1 = supR p ∧ enAll (tk2 p).2.1 = supL p) := fun h => by
    unfold okSD at h
    simp only [Bool.and_eq_true, decide_eq_true_eq] at h
    obtain ⟨h17, h1, h2, hg, hl, hr⟩ := h
    obtain ⟨e1, e2⟩ := tk_read ok h1 h2
    refine ⟨?_, by rw [e1], by rw [e2], by rw [e2]; rfl⟩
    obtain ⟨i1, o1⟩ := take8_inv (s := p) (r := p.drop 8) (v := supG p) ok e1
    have e3 : takeOf 8 (p.drop 8) false = (supR p, p.drop 16, false) := by
      have := e2
      unfold tk2 at this
      rwa [e1] at this
    obtain ⟨i2, o2⟩ := take8_inv o1 e3
    have i3 := ros_inv o2 (by rw [List.length_drop]; omega)
    unfold okSP
    rw [e2, e1]
    simp only [Bool.and_eq_true, decide_eq_true_eq]
    refine ⟨rfl, hg, hr, ?_⟩
    unfold superB
    rw [i3, List.append_assoc, ← i2, ← i1]
  have hbw : okSP p = true → okSD p = true := fun h => by
    unfold okSP at h
    simp only [Bool.and_eq_true, decide_eq_true_eq, Bool.not_eq_true'] at h
    obtain ⟨hb, hg, hr, hs⟩ := h
    obtain ⟨h1, h2⟩ := tk_bad ok hb
    obtain ⟨e1, e2⟩ := tk_read ok h1 h2
    rw [e2] at hg hr hs
    rw [e1] at hr hs
    have hlen := congrArg List.length hs
    rw [superB_len, enAll_len] at hlen
    have h0 := (hd_ok (ok.drop 16)).1
    simp only at hlen
    unfold okSD
    simp only [Bool.and_eq_true, decide_eq_true_eq]
    exact ⟨by omega, h1, h2, hg, by omega, hr⟩
  refine ⟨?_, fun h => (hfw h).2⟩
  cases hd : okSD p with
  | true => rw [(hfw hd).1]
  | false =>
    cases hp : okSP p with
    | false => rfl
    | true => rw [hbw hp] at hd; exact absurd hd (by decide)
/-- What a sector says: an error's number, and the superblock. -/
def parsS (l : List Int) : Int × Int × Int × List (Int × Int) := if (getOf 1 l).1 = 0 ∧ okSD (getOf 1 l).2 = true then (0, supG (getOf 1 l).2, supR (getOf 1 l).2, supL (getOf 1 l).2) else (14, 0, 0, [])
theorem parsS_right {l : List Int} (h : (parsS l).1 = 0) : rightS (parsS l).2.1 (parsS l).2.2.1 (parsS l).2.2.2 = true := by
  unfold parsS at h ⊢
  split
  · rename_i h2
    have h3 := h2.2
    unfold okSD at h3
    simp only [Bool.and_eq_true, decide_eq_true_eq] at h3
    exact h3.2.2.2.2.2
  · rename_i h2
    rw [if_neg h2] at h
    cases h

end Go.Proofs.Ytbgfccfhiocomaa
