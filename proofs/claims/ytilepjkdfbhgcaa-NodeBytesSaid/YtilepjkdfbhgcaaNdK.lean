/- Node.Put by contract. -/
import Derived.Test.YtilepjkdfbhgcaaNdJ
namespace Go.Proofs.Ytilepjkdfbhgcaa
open Go.RowKit Go.Shelf

/-- An error's value of its number: 0 is none. -/
def errV (c : Int) : Value := if c = 0 then .nilIface else codeV c
theorem errV_no : errV 0 = .nilIface := rfl
theorem errV_of {c : Int} (h : c ≠ 0) : errV c = codeV c := if_neg h
theorem flat_take (k : Nat) : ∀ xs : List (Int × Int), (xs.flatMap enC).take (k * 2) = (xs.take k).flatMap enC := by
  induction k with
  | zero => intro xs; simp
  | succ k ih =>
    intro xs
    cases xs with
    | nil => simp
    | cons x xs =>
      rw [List.take_succ_cons, List.flatMap_cons, List.flatMap_cons, ← ih xs, show (k + 1) * 2 = (enC x).length + k * 2 by simp [enC]; omega, List.take_length_add_append]
theorem flat_ins (xs : List (Int × Int)) (i : Nat) (x y : Int) : (xs.flatMap enC).take (i * 2) ++ ([.int .i64 x, .int .i64 y] ++ (xs.flatMap enC).drop (i * 2)) = (xs.take i ++ (x, y) :: xs.drop i).flatMap enC := by
  rw [flat_take, flat_drop, List.flatMap_append, List.flatMap_cons]
  rfl
theorem insertP_any (A : Option Addr) (n c i : Nat) (xs : List (Int × Int)) (x y : Int) (q B : Nat) (w0 w : World) (hb : Below B w0 w) (hBw : B ≤ w.heap.size) (ho : w.ownsRow B 52 2 (.slice A n c) n (xs.flatMap enC))
    (hq : w.heap[q]? = some (.cells #[.int .i64 x, .int .i64 y] 52 (0, 0))) (hqo : (Value.slice A n c).ownBlock ≠ some q) (hn : n ≤ 200) (hi : i ≤ n) :
    Calls Try.prog 38 #[.slice A n c, .int .i64 i, .slice (some ⟨q, 0, none⟩) 1 1] w fun e w' => ∃ A' C', e = .returned (.slice A' (n + 1) C') ∧
      w'.ownsRow B 52 2 (.slice A' (n + 1) C') (n + 1) ((xs.take i ++ (x, y) :: xs.drop i).flatMap enC) ∧ Below B w0 w' := by
  have hV1 : ∀ u ∈ [Value.int .i64 x, .int .i64 y], u.oneCell' = true := by intro u hu; simp at hu; rcases hu with rfl | rfl <;> rfl
  rw [← flat_ins]
  by_cases he : i = n
  · subst he
    have hl : (xs.flatMap enC).length = i * 2 := ho.1
    rw [List.take_of_length_le (by omega), List.drop_of_length_le (by omega), List.append_nil]
    exact insert_end A i c _ [.int .i64 x, .int .i64 y] q B w0 w hb ho (SL.of_block (cur := #[.int .i64 x, .int .i64 y]) hq rfl (by omega)) hV1 (by omega) hBw
  · obtain ⟨g, cur, rfl, hB, hg, hblk, h1, h2, h3, h4⟩ := own_block ho (by omega)
    have hne : q ≠ g := fun e => hqo (by rw [e]; rfl)
    by_cases hc : c = n
    · subst hc
      rw [List.take_of_length_le (by omega)] at h4
      subst h4
      exact insert_grow g i c [.int .i64 x, .int .i64 y] _ q B w0 w hb hBw hblk h3 hq rfl hV1 (enC_one xs) hn (by omega)
    · exact insert_shift g i n c _ [.int .i64 x, .int .i64 y] cur q B w0 w hb hB hblk h3 h4 h2 hq rfl hne hV1 (enC_one xs) (by omega) (by omega) (by omega)

/-- A store of a pair into a row of pairs. -/
theorem own_set2 {w : World} {B g n c p : Nat} {xs : List (Int × Int)} {x y : Int} (h : w.ownsRow B 52 2 (.slice (some ⟨g, 0, none⟩) n c) n (xs.flatMap enC)) (hp : p < n) :
    ((w.setCell ⟨g, p * 2, none⟩ (.int .i64 x)).setCell ⟨g, p * 2 + 1, none⟩ (.int .i64 y)).ownsRow B 52 2 (.slice (some ⟨g, 0, none⟩) n c) n ((xs.set p (x, y)).flatMap enC) := by
  obtain ⟨g', cur, he, hB, hlt, hg, h1, h2, h3, h4⟩ := own_block h (by omega)
  injection he with he
  injection he with he
  subst he
  have hl : xs.length = n := by have := h.1; rw [flat_len enC 2 (fun _ => rfl)] at this; omega
  have hg1 := heap_setCell_same w g (p * 2) _ _ (.int .i64 x) hg
  have hg2 := heap_setCell_same _ g (p * 2 + 1) _ _ (.int .i64 y) hg1
  refine own_of (cur := (cur.set (p * 2) (.int .i64 x)).set (p * 2 + 1) (.int .i64 y)) hB (by rw [hg2]; simp [List.setIfInBounds_toArray]) h1 h2 (by simp [h3]) ?_
  apply List.ext_getElem?
  intro j
  by_cases hj : j < n * 2
  · rw [List.getElem?_take, if_pos hj]
    obtain ⟨k, r, rfl, hr⟩ : ∃ k r, j = k * 2 + r ∧ r < 2 := ⟨j / 2, j % 2, by omega, by omega⟩
    rw [flat_get enC 2 (fun _ => rfl) _ k r hr]
    by_cases hk : k = p
    · subst hk
      rw [List.getElem?_set_self (by omega)]
      have : r = 0 ∨ r = 1 := by omega
      rcases this with rfl | rfl
      · rw [List.getElem?_set_ne (by omega), Nat.add_zero, List.getElem?_set_self (by omega)]; rfl
      · rw [List.getElem?_set_self (by rw [List.length_set]; omega)]; rfl
    · rw [List.getElem?_set_ne (by omega), List.getElem?_set_ne (by omega), List.getElem?_set_ne (by omega), ← flat_get enC 2 (fun _ => rfl) _ k r hr, ← h4, List.getElem?_take, if_pos hj]
  · rw [List.getElem?_eq_none (by rw [List.length_take]; omega), List.getElem?_eq_none (by rw [flat_len enC 2 (fun _ => rfl), List.length_set]; omega)]

/-- What Put makes of a node's pairs. -/
def putL (ks vs : List Int) (key val : Int) : List (Int × Int) :=
  if ks.contains key = true then (pairsOf ks vs).set (lowOf ks key) (key, val) else (pairsOf ks vs).take (lowOf ks key) ++ (key, val) :: (pairsOf ks vs).drop (lowOf ks key)
/-- Put's error and nodes. -/
def putOf (lv : Int) (ks vs : List Int) (key val : Int) : Int × List Nd :=
  if rightN lv ks vs = false then (70, []) else if fitsP (key, val) = false then (80, []) else (0, cutOf lv (putL ks vs key val))
/-- A new slice of nodes and an error are answered. -/
def RetLE (w : World) (r : Int × List Nd) (e : Ending) (w' : World) : Prop := ∃ A C, e = .returned (.tuple #[.slice A r.2.length C, errV r.1]) ∧ r.2.length ≤ C ∧ NS w' A r.2.length r.2 ∧ Below w.heap.size w w'
theorem RetLE.none {w w' : World} {c : Int} (hb : Below w.heap.size w w') : RetLE w (c, []) (.returned (.tuple #[.slice none 0 0, errV c])) w' := ⟨Option.none, 0, rfl, Nat.le_refl _, NS.nil, hb⟩

theorem ord_lt : ∀ (xs : List (Int × Int)) (p : Option Int), ordFrom p xs = true → (∀ k, p = some k → ∀ x ∈ xs, k < x.1) ∧ xs.Pairwise (fun a b => a.1 < b.1) ∧ ∀ x ∈ xs, fitsP x = true
  | [], _, _ => ⟨fun _ _ x hx => by simp at hx, .nil, fun x hx => by simp at hx⟩
  | x :: xs, none, h => by
    simp only [ordFrom, Bool.and_eq_true] at h
    obtain ⟨h1, h2, h3⟩ := ord_lt xs _ h.2
    refine ⟨fun k hk => (by cases hk), .cons (fun y hy => h1 _ rfl y hy) h2, fun y hy => ?_⟩
    rcases List.mem_cons.1 hy with rfl | hy
    · exact h.1
    · exact h3 y hy
  | x :: xs, some p, h => by
    simp only [ordFrom, Bool.and_eq_true, decide_eq_true_eq] at h
    obtain ⟨h1, h2, h3⟩ := ord_lt xs _ h.2.2
    refine ⟨fun k hk y hy => ?_, .cons (fun y hy => h1 _ rfl y hy) h2, fun y hy => ?_⟩
    · injection hk with hk
      subst hk
      rcases List.mem_cons.1 hy with rfl | hy
      · exact h.2.1
      · have := h1 _ rfl y hy; omega
    · rcases List.mem_cons.1 hy with rfl | hy
      · exact h.1
      · exact h3 y hy
theorem zip_keys {ks vs : List Int} (h : ks.length = vs.length) : (pairsOf ks vs).map (fun x => x.1) = ks := by
  unfold pairsOf
  exact List.map_fst_zip (by omega)
theorem zip_vals {ks vs : List Int} (h : ks.length = vs.length) : (pairsOf ks vs).map (fun x => x.2) = vs := by
  unfold pairsOf
  exact List.map_snd_zip (by omega)
/-- What a right node is. -/
theorem rightN_ok {lv : Int} {ks vs : List Int} (h : rightN lv ks vs = true) : 0 ≤ lv ∧ lv ≤ 20 ∧ ks.length = vs.length ∧ 1 ≤ ks.length ∧ ks.length ≤ 7 ∧ ks.Pairwise (· < ·) ∧ ∀ x ∈ pairsOf ks vs, fitsP x = true := by
  unfold rightN at h
  rw [Bool.and_eq_true, decide_eq_true_eq] at h
  obtain ⟨⟨h1, h2, h3, h4, h5⟩, h6⟩ := h
  obtain ⟨_, h7, h8⟩ := ord_lt _ _ h6
  refine ⟨h1, h2, h3, h4, h5, ?_, h8⟩
  have h9 := h7.map (fun x : Int × Int => x.1) (S := (· < ·)) (fun _ _ h => h)
  rwa [zip_keys h3] at h9
theorem low_lt {ks : List Int} (_ : ks.Pairwise (· < ·)) {x : Int} (h : ks.contains x = true) : lowOf ks x < ks.length := by
  unfold lowOf
  rcases Nat.lt_or_ge (ks.countP (· < x)) ks.length with h1 | h1
  · exact h1
  · have h2 : ks.countP (· < x) = ks.length := Nat.le_antisymm List.countP_le_length h1
    rw [List.countP_eq_length] at h2
    have := h2 x (by simpa using h)
    simp at this

end Go.Proofs.Ytilepjkdfbhgcaa
