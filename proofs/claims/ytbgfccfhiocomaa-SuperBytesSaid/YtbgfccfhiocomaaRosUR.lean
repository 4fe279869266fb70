/- What bytes say of a roster: plain. -/
import Derived.Test.YtbgfccfhiocomaaRosTR
import Derived.Test.YtbgfccfhiocomaaReadsG
namespace Go.Proofs.Ytbgfccfhiocomaa
open Go.RowKit Go.Shelf

theorem valOf_nonneg (l : List Int) (h : okBytes l) : 0 ≤ valOf l := by
  have := (valOf_range l.length l h (Nat.le_refl _)).1
  rwa [List.take_length] at this
theorem takeOf_ok {bs : List Int} (h : okBytes bs) (size : Nat) (bad : Bool) : 0 ≤ (takeOf size bs bad).1 ∧ (takeOf size bs bad).1 ≤ 4611686018427387903 ∧ okBytes (takeOf size bs bad).2.1 := by
  unfold takeOf
  split
  · exact ⟨Int.le_refl _, by omega, h⟩
  · split
    · exact ⟨Int.le_refl _, by omega, h.drop _⟩
    · rename_i h2
      exact ⟨valOf_nonneg _ (h.take _), by omega, h.drop _⟩

/-- One entry is read. -/
def rdStep (s : List Int × Bool) : (Int × Int) × (List Int × Bool) :=
  (((takeOf 1 s.1 s.2).1, (takeOf 2 (takeOf 1 s.1 s.2).2.1 (takeOf 1 s.1 s.2).2.2).1), (takeOf 2 (takeOf 1 s.1 s.2).2.1 (takeOf 1 s.1 s.2).2.2).2)
/-- So many are read. -/
def rdN : Nat → List Int × Bool → List (Int × Int) × (List Int × Bool)
  | 0, s => ([], s)
  | k + 1, s => ((rdN k s).1 ++ [(rdStep (rdN k s).2).1], (rdStep (rdN k s).2).2)
theorem rdStep_ok {s : List Int × Bool} (h : okBytes s.1) : EnOk (rdStep s).1 ∧ okBytes (rdStep s).2.1 := by
  have h1 := takeOf_ok h 1 s.2
  have h2 := takeOf_ok h1.2.2 2 (takeOf 1 s.1 s.2).2.2
  unfold rdStep EnOk I64
  exact ⟨⟨by simp only; omega, by simp only; omega⟩, h2.2.2⟩
theorem rdN_ok : ∀ (k : Nat) (s : List Int × Bool), okBytes s.1 → (∀ x ∈ (rdN k s).1, EnOk x) ∧ okBytes (rdN k s).2.1
  | 0, s, h => ⟨fun x hx => (by cases hx), h⟩
  | k + 1, s, h => by
    obtain ⟨h1, h2⟩ := rdN_ok k s h
    have h3 := rdStep_ok h2
    rw [rdN]
    refine ⟨fun x hx => ?_, h3.2⟩
    rcases List.mem_append.1 hx with hx | hx
    · exact h1 x hx
    · obtain rfl := List.mem_singleton.1 hx
      exact h3.1

/-- The entry that stands there. -/
def enAt (l : List Int) (i : Nat) : Int × Int := (l[1 + 3 * i]?.getD 0, l[2 + 3 * i]?.getD 0 * 256 + l[3 + 3 * i]?.getD 0)
theorem drop_cons {l : List Int} {j : Nat} (h : j < l.length) : l.drop j = l[j]?.getD 0 :: l.drop (j + 1) := by
  rw [List.drop_eq_getElem_cons h, List.getElem?_eq_getElem h]
  rfl
theorem take1_at {l : List Int} (ok : okBytes l) {j : Nat} (h : j < l.length) : takeOf 1 (l.drop j) false = (l[j]?.getD 0, l.drop (j + 1), false) := by
  have hg := ok.get j
  rw [drop_cons h]
  generalize l[j]?.getD 0 = x at *
  unfold takeOf
  rw [if_neg (by simp)]
  have hv : valOf ((x :: l.drop (j + 1)).take 1) = x := by simp [valOf]
  rw [hv, if_neg (by omega)]
  rfl
theorem take2_at {l : List Int} (ok : okBytes l) {j : Nat} (h : j + 1 < l.length) : takeOf 2 (l.drop j) false = (l[j]?.getD 0 * 256 + l[j + 1]?.getD 0, l.drop (j + 2), false) := by
  have hg := ok.get j
  have hg2 := ok.get (j + 1)
  rw [drop_cons (by omega), drop_cons h]
  generalize l[j]?.getD 0 = x at *
  generalize l[j + 1]?.getD 0 = y at *
  unfold takeOf
  rw [if_neg (by simp)]
  have hv : valOf ((x :: y :: l.drop (j + 1 + 1)).take 2) = x * 256 + y := by simp [valOf]
  rw [hv, if_neg (by omega)]
  rfl
theorem rdN_good {l : List Int} (ok : okBytes l) : ∀ k : Nat, 1 + 3 * k ≤ l.length → rdN k (l.drop 1, false) = ((List.range k).map (enAt l), (l.drop (1 + 3 * k), false))
  | 0, _ => rfl
  | k + 1, h => by
    have ih := rdN_good ok k (by omega)
    rw [rdN, ih]
    have h1 := take1_at ok (j := 1 + 3 * k) (by omega)
    have h2 := take2_at ok (j := 1 + 3 * k + 1) (by omega)
    unfold rdStep
    simp only [h1, h2]
    rw [List.range_succ, List.map_append]
    simp only [List.map_cons, List.map_nil, enAt]
    rw [show 1 + 3 * k + 1 = 2 + 3 * k by omega, show 2 + 3 * k + 1 = 3 + 3 * k by omega, show 2 + 3 * k + 2 = 1 + 3 * (k + 1) by omega]

/-- How many entries the bytes tell. -/
def hdOf (l : List Int) : Int := l[0]?.getD 0
def enAll (l : List Int) : List (Int × Int) := (List.range (hdOf l).toNat).map (enAt l)
def goodB (l : List Int) : Bool := decide (hdOf l ≤ 8 ∧ 1 + 3 * hdOf l ≤ l.length) && rightL (enAll l)
/-- The error's number, how many bytes, the entries. -/
def parseOf (l : List Int) : Int × Int × List (Int × Int) := if goodB l = true then (0, 1 + 3 * hdOf l, enAll l) else (14, 0, [])
theorem hd_take {l : List Int} (ok : okBytes l) : (takeOf 1 l false).1 = hdOf l ∧ (0 < l.length → (takeOf 1 l false).2 = (l.drop 1, false)) := by
  by_cases h : 0 < l.length
  · have := take1_at ok h
    rw [List.drop_zero] at this
    rw [this]
    exact ⟨rfl, fun _ => rfl⟩
  · have h0 : l = [] := List.eq_nil_of_length_eq_zero (by omega)
    subst h0
    exact ⟨rfl, fun h => absurd h (by simp)⟩
theorem hd_ok {l : List Int} (ok : okBytes l) : 0 ≤ hdOf l ∧ hdOf l < 256 := ok.get 0
theorem enAll_len (l : List Int) : (enAll l).length = (hdOf l).toNat := by simp [enAll]

/-- What stands in a roster's bytes, with whatever behind. -/
theorem rosBytes_get (xs : List (Int × Int)) (b : List Int) : ∀ (j i : Nat) (x : Int × Int), xs[j]? = some x → i < 3 → (rosBytes xs ++ b)[1 + 3 * j + i]? = (enB x)[i]? := by
  intro j i x hx hi
  have hl := (List.getElem?_eq_some_iff.1 hx).1
  have h3 := rosBytes_len xs
  rw [List.getElem?_append_left (by omega)]
  unfold rosBytes
  rw [List.getElem?_append_right (by rw [nb_len]; omega), nb_len]
  have := flat_get enB 3 enB_len xs j i hi
  rw [show 1 + 3 * j + i - 1 = j * 3 + i by omega, this, hx]
  rfl
theorem nb2_of {x : Int} (h0 : 0 ≤ x) (h1 : x < 65536) : nb 2 x = [x / 256, x % 256] := by
  simp [nb]
  omega
theorem parse_back {xs : List (Int × Int)} (h : rightL xs = true) (b : List Int) : parseOf (rosBytes xs ++ b) = (0, 1 + 3 * (xs.length : Int), xs) := by
  obtain ⟨h8, he⟩ := rightL_ok h
  have hh : hdOf (rosBytes xs ++ b) = xs.length := by
    unfold hdOf rosBytes
    rw [nb1_of (by omega) (by omega)]
    rfl
  have ha : enAll (rosBytes xs ++ b) = xs := by
    unfold enAll
    rw [hh, Int.toNat_natCast]
    apply List.ext_getElem?
    intro j
    rw [List.getElem?_map]
    by_cases hj : j < xs.length
    · have hx : xs[j]? = some xs[j] := List.getElem?_eq_getElem hj
      have hxr := of_decide_eq_true (he _ (List.getElem_mem hj))
      rw [List.getElem?_range hj, hx]
      generalize hxe : xs[j] = x at *
      have e0 := rosBytes_get xs b j 0 x hx (by omega)
      have e1 := rosBytes_get xs b j 1 x hx (by omega)
      have e2 := rosBytes_get xs b j 2 x hx (by omega)
      have hb : enB x = [x.1, x.2 / 256, x.2 % 256] := by
        unfold enB
        rw [nb1_of (by omega) (by omega), nb2_of (by omega) (by omega)]
        rfl
      rw [hb] at e0 e1 e2
      simp only [Option.map_some, enAt]
      rw [show 1 + 3 * j = 1 + 3 * j + 0 by omega, e0, show 2 + 3 * j = 1 + 3 * j + 1 by omega, e1, show 3 + 3 * j = 1 + 3 * j + 2 by omega, e2]
      simp only [List.getElem?_cons_zero, List.getElem?_cons_succ, Option.getD_some]
      rw [show x.2 / 256 * 256 + x.2 % 256 = x.2 by omega]
    · rw [List.getElem?_eq_none (l := List.range xs.length) (by simp; omega), List.getElem?_eq_none (l := xs) (by omega)]
      rfl
  unfold parseOf
  have hg : goodB (rosBytes xs ++ b) = true := by
    unfold goodB
    rw [ha, hh, h, Bool.and_true]
    refine decide_eq_true ⟨by omega, ?_⟩
    rw [List.length_append, rosBytes_len]
    omega
  rw [if_pos hg, hh, ha]

theorem UK.keep {w w' : World} {g n c : Nat} {a : Option Addr} {bs : List Int} {bad : Bool} (h : UK w g a n c bs bad) (hk : ∀ b, b ≤ g → w'.heap[b]? = w.heap[b]?) (hs : w.heap.size ≤ w'.heap.size) : UK w' g a n c bs bad :=
  ⟨(hk g (Nat.le_refl _)).trans h.blk, ⟨h.bytes.1, h.bytes.2.1, fun j hj => by
    obtain ⟨b, o, ha, h1, h2, h3⟩ := h.bytes.2.2 j hj
    exact ⟨b, o, ha, h1, by omega, (World.cell?_of_block (w := w) (hk b (by omega))).trans h3⟩⟩, h.cap⟩

end Go.Proofs.Ytbgfccfhiocomaa
