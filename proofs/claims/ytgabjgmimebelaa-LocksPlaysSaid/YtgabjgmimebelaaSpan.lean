/- Spans by contract: locks.Span's right, whole and Clash; the document's Right, Has and Clash. -/
import Derived.Test.YtgabjgmimebelaaMem
import Derived.Test.YtgabjgmimebelaaChecked
namespace Go.Proofs.Ytgabjgmimebelaa
open Go.RowKit

/-- A span. -/
structure Sp where
  vol : Int
  frm : Int
  len : Int
  wr : Bool
def spV (s : Sp) : Value := .agg #[.int .i64 s.vol, .int .i64 s.frm, .int .i64 s.len, .bool s.wr]
/-- Its numbers are ints. -/
def SpOk (s : Sp) : Prop := I64 s.vol ∧ I64 s.frm ∧ I64 s.len
def rightOf (s : Sp) : Bool := decide (0 ≤ s.vol ∧ 0 ≤ s.frm ∧ 0 ≤ s.len ∧ s.len ≤ 1073741824)
def wholeOf (s : Sp) : Bool := decide (s.vol = 0 ∨ s.len = 0)

set_option maxRecDepth 20000 in
set_option maxHeartbeats 400000 in
theorem right_any (s : Sp) (w : World) (hs : SpOk s) : Calls Try.prog 29 #[spV s] w fun e w' => e = .returned (.bool (rightOf s)) ∧ Below w.heap.size w w' := by
  obtain ⟨v, f, n, b⟩ := s
  obtain ⟨⟨v0, v1⟩, ⟨f0, f1⟩, ⟨n0, n1⟩⟩ := hs
  simp only at v0 v1 f0 f1 n0 n1
  unfold spV
  simp only
  by_cases h1 : 0 ≤ v
  · by_cases h2 : 0 ≤ f
    · by_cases h3 : 0 ≤ n
      · by_cases h4 : n ≤ 1073741824
        · rw [show rightOf ⟨v, f, n, b⟩ = true from decide_eq_true ⟨h1, h2, h3, h4⟩]
          go_enter Try.func29, Try.ntmps29
          go_wp2_with fail
          go_ret
          exact ⟨rfl, (Below.refl _ _).alloc (Nat.le_refl _) _⟩
        · rw [show rightOf ⟨v, f, n, b⟩ = false from decide_eq_false fun h => h4 h.2.2.2]
          go_enter Try.func29, Try.ntmps29
          go_wp2_with fail
          go_ret
          exact ⟨rfl, (Below.refl _ _).alloc (Nat.le_refl _) _⟩
      · rw [show rightOf ⟨v, f, n, b⟩ = false from decide_eq_false fun h => h3 h.2.2.1]
        go_enter Try.func29, Try.ntmps29
        go_wp2_with fail
        go_ret
        exact ⟨rfl, (Below.refl _ _).alloc (Nat.le_refl _) _⟩
    · rw [show rightOf ⟨v, f, n, b⟩ = false from decide_eq_false fun h => h2 h.2.1]
      go_enter Try.func29, Try.ntmps29
      go_wp2_with fail
      go_ret
      exact ⟨rfl, (Below.refl _ _).alloc (Nat.le_refl _) _⟩
  · rw [show rightOf ⟨v, f, n, b⟩ = false from decide_eq_false fun h => h1 h.1]
    go_enter Try.func29, Try.ntmps29
    go_wp2_with fail
    go_ret
    exact ⟨rfl, (Below.refl _ _).alloc (Nat.le_refl _) _⟩

set_option maxRecDepth 20000 in
set_option maxHeartbeats 400000 in
theorem rright_any (s : Sp) (w : World) (hs : SpOk s) : Calls Try.prog 12 #[spV s] w fun e w' => e = .returned (.bool (rightOf s)) ∧ Below w.heap.size w w' := by
  obtain ⟨v, f, n, b⟩ := s
  obtain ⟨⟨v0, v1⟩, ⟨f0, f1⟩, ⟨n0, n1⟩⟩ := hs
  simp only at v0 v1 f0 f1 n0 n1
  unfold spV
  simp only
  by_cases h1 : 0 ≤ v
  · by_cases h2 : 0 ≤ f
    · by_cases h3 : 0 ≤ n
      · by_cases h4 : n ≤ 1073741824
        · rw [show rightOf ⟨v, f, n, b⟩ = true from decide_eq_true ⟨h1, h2, h3, h4⟩]
          go_enter Try.func12, Try.ntmps12
          go_wp2_with fail
          go_ret
          exact ⟨rfl, (Below.refl _ _).alloc (Nat.le_refl _) _⟩
        · rw [show rightOf ⟨v, f, n, b⟩ = false from decide_eq_false fun h => h4 h.2.2.2]
          go_enter Try.func12, Try.ntmps12
          go_wp2_with fail
          go_ret
          exact ⟨rfl, (Below.refl _ _).alloc (Nat.le_refl _) _⟩
      · rw [show rightOf ⟨v, f, n, b⟩ = false from decide_eq_false fun h => h3 h.2.2.1]
        go_enter Try.func12, Try.ntmps12
        go_wp2_with fail
        go_ret
        exact ⟨rfl, (Below.refl _ _).alloc (Nat.le_refl _) _⟩
    · rw [show rightOf ⟨v, f, n, b⟩ = false from decide_eq_false fun h => h2 h.2.1]
      go_enter Try.func12, Try.ntmps12
      go_wp2_with fail
      go_ret
      exact ⟨rfl, (Below.refl _ _).alloc (Nat.le_refl _) _⟩
  · rw [show rightOf ⟨v, f, n, b⟩ = false from decide_eq_false fun h => h1 h.1]
    go_enter Try.func12, Try.ntmps12
    go_wp2_with fail
    go_ret
    exact ⟨rfl, (Below.refl _ _).alloc (Nat.le_refl _) _⟩

set_option maxRecDepth 20000 in
set_option maxHeartbeats 400000 in
theorem whole_any (s : Sp) (w : World) (hs : SpOk s) : Calls Try.prog 30 #[spV s] w fun e w' => e = .returned (.bool (wholeOf s)) ∧ Below w.heap.size w w' := by
  obtain ⟨v, f, n, b⟩ := s
  obtain ⟨⟨v0, v1⟩, ⟨f0, f1⟩, ⟨n0, n1⟩⟩ := hs
  simp only at v0 v1 f0 f1 n0 n1
  unfold spV
  simp only
  by_cases h1 : v = 0
  · rw [show wholeOf ⟨v, f, n, b⟩ = true from decide_eq_true (.inl h1)]
    subst h1
    go_enter Try.func30, Try.ntmps30
    go_wp2_with fail
    go_ret
    exact ⟨rfl, (Below.refl _ _).alloc (Nat.le_refl _) _⟩
  · have g1 : (v == 0) = false := by simpa using h1
    by_cases h2 : n = 0
    · rw [show wholeOf ⟨v, f, n, b⟩ = true from decide_eq_true (.inr h2)]
      subst h2
      go_enter Try.func30, Try.ntmps30
      go_wp2_with fail
      go_ret
      exact ⟨rfl, (Below.refl _ _).alloc (Nat.le_refl _) _⟩
    · have g2 : (n == 0) = false := by simpa using h2
      rw [show wholeOf ⟨v, f, n, b⟩ = false from decide_eq_false (by rintro (h | h); exact h1 h; exact h2 h)]
      go_enter Try.func30, Try.ntmps30
      go_wp2_with fail
      go_ret
      exact ⟨rfl, (Below.refl _ _).alloc (Nat.le_refl _) _⟩

end Go.Proofs.Ytgabjgmimebelaa
