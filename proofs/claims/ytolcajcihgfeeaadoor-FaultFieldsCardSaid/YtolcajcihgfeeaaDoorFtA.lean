/- Chains of faults in memory; fault.Wrap, (*Fault).Unwrap and the law's chain by contract. -/
import Derived.Test.YtolcajcihgfeeaaDoorRows
import Derived.Test.YtolcajcihgfeeaaDoorMem
import Derived.Stop.Asserts
import Derived.RowKitTokens
namespace Go.Proofs.YtolcajcihgfeeaaDoor
open Go.RowKit Go.Extern.Stop Go.Stop Go.Extern

/-- A link as it reads. -/
structure Lk where
  op : ByteArray
  dev : Int
  place : Int
/-- A code as an error's value. -/
abbrev codeV (a : Int) : Value := .iface 31 (.int .i64 a)
/-- A fault as an error's value. -/
abbrev faultV (g : Nat) : Value := .iface 48 (.pointer (some ⟨g, 0, none⟩))
/-- A fault's block. -/
abbrev faultO (x : Lk) (u : Value) : Obj := .cells #[.string x.op, .int .i64 x.dev, .int .i64 x.place, u] 51 (0, 0)
/-- What a chain ends in. -/
def endV : Option Int → Value
  | some c => codeV c
  | none => .nilIface
/-- v is the error of the links l around the end c; each fault's block lies below the one around it, and all below B. -/
def Ch (w : World) : Nat → List Lk → Option Int → Value → Prop
  | _, [], c, v => v = endV c
  | B, x :: l, c, v => ∃ g u, v = faultV g ∧ g < B ∧ w.heap[g]? = some (faultO x u) ∧ Ch w g l c u
theorem Ch.more {w : World} {B B' : Nat} {l : List Lk} {c : Option Int} {v : Value} (h : Ch w B l c v) (hB : B ≤ B') : Ch w B' l c v := by
  cases l with
  | nil => exact h
  | cons x l =>
    obtain ⟨g, u, h1, h2, h3, h4⟩ := h
    exact ⟨g, u, h1, by omega, h3, h4⟩
theorem Ch.keep {w w' : World} : ∀ {l : List Lk} {B : Nat} {c : Option Int} {v : Value}, Ch w B l c v → (∀ b, b < B → w'.heap[b]? = w.heap[b]?) → Ch w' B l c v
  | [], _, _, _, h, _ => h
  | _ :: _, _, _, _, ⟨g, u, h1, h2, h3, h4⟩, hk => ⟨g, u, h1, h2, (hk g h2).trans h3, h4.keep fun b hb => hk b (by omega)⟩
theorem Ch.below {w w' : World} {l : List Lk} {B : Nat} {c : Option Int} {v : Value} (h : Ch w B l c v) (hb : Below B w w') : Ch w' B l c v := h.keep hb.block
/-- How far down an error's block lies. -/
def deep : Value → Nat
  | .iface _ (.pointer (some a)) => a.block + 1
  | _ => 0
theorem Ch.deep_lt {w : World} {B : Nat} {l : List Lk} {c : Option Int} {u : Value} (h : Ch w B l c u) : deep u < B + 1 := by
  cases l with
  | nil =>
    obtain rfl : u = endV c := h
    cases c <;> exact Nat.succ_pos _
  | cons x l =>
    obtain ⟨g, u', rfl, h2, _⟩ := h
    show g + 1 < B + 1
    omega

set_option maxHeartbeats 400000 in
theorem wrap_any (s : ByteArray) (d p : Int) (T : TypeId) (x : Value) (w : World) :
    Calls Tryd.prog 19 #[.string s, .int .i64 d, .int .i64 p, .iface T x] w fun e w' => e = .returned (faultV w.heap.size) ∧ w' = w.alloc (.cells #[.string s, .int .i64 d, .int .i64 p, .iface T x] 51) := by
  go_enter Tryd.func19, Tryd.ntmps19
  go_wp2
  go_ret
  exact ⟨rfl, rfl⟩
set_option maxHeartbeats 400000 in
theorem wrap_nil (s : ByteArray) (d p : Int) (w : World) :
    Calls Tryd.prog 19 #[.string s, .int .i64 d, .int .i64 p, .nilIface] w fun e w' => e = .returned .nilIface ∧ w = w' := by
  go_enter Tryd.func19, Tryd.ntmps19
  go_wp2
  go_ret
  exact ⟨rfl, rfl⟩
set_option maxHeartbeats 400000 in
theorem unwrap_any (g : Nat) (x : Lk) (u : Value) (w : World) (h : w.heap[g]? = some (faultO x u)) :
    Calls Tryd.prog 20 #[.pointer (some ⟨g, 0, none⟩)] w fun e w' => e = .returned u ∧ w = w' := by
  have h3 := cell_of_row w g 3 _ _ _ h
  have h3' : w.cell? ⟨g, 3, none⟩ = some u := h3
  clear h3 h
  go_enter Tryd.func20, Tryd.ntmps20
  go_wp2
  go_ret
  exact ⟨rfl, rfl⟩

/-- The slice (a, n) of links reads as the list ls, its block below B. -/
def LS (w : World) (B : Nat) (a : Option Addr) (n : Nat) (ls : List Lk) : Prop :=
  ls.length = n ∧ ∀ j, j < n → ∃ b o x, a = some ⟨b, o, none⟩ ∧ b < B ∧ ls[j]? = some x ∧ w.cell? ⟨b, o + j * 3, none⟩ = some (.string x.op) ∧ w.cell? ⟨b, o + j * 3 + 1, none⟩ = some (.int .i64 x.dev) ∧ w.cell? ⟨b, o + j * 3 + 2, none⟩ = some (.int .i64 x.place)
theorem LS.keep {w w' : World} {B : Nat} {a : Option Addr} {n : Nat} {ls : List Lk} (h : LS w B a n ls) (hk : ∀ b, b < B → w'.heap[b]? = w.heap[b]?) : LS w' B a n ls :=
  ⟨h.1, fun j hj => by
    obtain ⟨b, o, x, e, hb, hx, h0, h1, h2⟩ := h.2 j hj
    exact ⟨b, o, x, e, hb, hx, (World.cell?_of_block (w := w) (hk b hb)).trans h0, (World.cell?_of_block (w := w) (hk b hb)).trans h1, (World.cell?_of_block (w := w) (hk b hb)).trans h2⟩⟩
theorem LS.below {w w' : World} {B : Nat} {a : Option Addr} {n : Nat} {ls : List Lk} (h : LS w B a n ls) (hb : Below B w w') : LS w' B a n ls := h.keep hb.block
theorem Ch.form {w : World} {B : Nat} {l : List Lk} {c : Int} {v : Value} (h : Ch w B l (some c) v) : ∃ T x, v = .iface T x := by
  cases l with
  | nil => exact ⟨_, _, h⟩
  | cons x l =>
    obtain ⟨g, u', rfl, h2, _⟩ := h
    exact ⟨_, _, rfl⟩

set_option maxHeartbeats 1000000 in
theorem chain_any (a : Option Addr) (n c : Nat) (ls : List Lk) (code : Int) (w : World) (h : LS w w.heap.size a n ls) (hn : n ≤ 200) :
    Calls Tryd.prog 10 #[.slice a n c, .int .i64 code] w fun e w' => ∃ v, e = .returned v ∧ Ch w' w'.heap.size ls (some code) v ∧ Below w.heap.size w w' := by
  have HL := mkHid h
  clear h
  go_enter Tryd.func10, Tryd.ntmps10
  go_wp2_with fail
  go_loopw [5, 6] (fun v i wr => ∃ (k : Nat) (z : Int), k ≤ n ∧ z + 1 = k ∧ i = .int .i64 z ∧ Hid (Ch wr wr.heap.size (ls.drop k) (some code) v) ∧ Hid (Below w.heap.size w wr)) (fun _ i _ => (intOf i + 1).toNat)
  case atStart => exact ⟨n, _, Nat.le_refl _, by omega, rfl, mkHid (by rw [List.drop_of_length_le (by rw [HL.out.1]; exact Nat.le_refl _)]; rfl), mkHid (Below.refl _ _)⟩
  case round =>
    obtain ⟨k, z, hk, hz, rfl, HC, HB⟩ := hrel
    obtain ⟨T, y, rfl⟩ := HC.out.form
    rcases k with _ | k
    · obtain rfl : z = -1 := by omega
      go_wp2_with fail
      go_ret
      exact ⟨_, rfl, by have := HC.out; rwa [List.drop_zero] at this, HB.out⟩
    · obtain rfl : z = (k : Int) := by omega
      obtain ⟨b, o, x, rfl, hb, hx, hc0, hc1, hc2⟩ := HL.out.2 k (by omega)
      have d0 := (HB.out.cell (p := ⟨b, o + k * 3, none⟩) hb).trans hc0
      have d1 := (HB.out.cell (p := ⟨b, o + k * 3 + 1, none⟩) hb).trans hc1
      have d2 := (HB.out.cell (p := ⟨b, o + k * 3 + 2, none⟩) hb).trans hc2
      have HX := mkHid (show ls.drop k = x :: ls.drop (k + 1) from by
        obtain ⟨hk1, rfl⟩ := List.getElem?_eq_some_iff.1 hx
        exact List.drop_eq_getElem_cons hk1)
      have hk0 : (0 : Int) ≤ (k : Int) := by omega
      have hk1 : (k : Int) < n := by omega
      clear hc0 hc1 hc2 hx hz
      go_wp2_with fail
      have hky : wr.cell? ⟨b, o + k * 3, none⟩ = some (.string x.op) ∧ wr.cell? ⟨b, o + k * 3 + 1, none⟩ = some (.int .i64 x.dev) ∧ wr.cell? ⟨b, o + k * 3 + 2, none⟩ = some (.int .i64 x.place) := ⟨d0, d1, d2⟩
      go_region_held3 (fun Z => Z.cell? ⟨b, o + k * 3, none⟩ = some (.string x.op) ∧ Z.cell? ⟨b, o + k * 3 + 1, none⟩ = some (.int .i64 x.dev) ∧ Z.cell? ⟨b, o + k * 3 + 2, none⟩ = some (.int .i64 x.place)) (first | exact hky | go_keep) ((go_at_call 19; refine (wrap_any x.op x.dev x.place T y _).mono ?_; rintro e w1 ⟨rfl, rfl⟩))
      all_goals
        go_wp2_with fail
        exact ⟨⟨k, (k : Int) - 1, by omega, by omega, rfl, mkHid (by rw [HX.out]; exact ⟨wr.heap.size, _, rfl, by simp, heap_alloc_new wr _, HC.out.keep fun b hb => Below.heap_alloc wr _ b hb⟩), mkHid (HB.out.alloc HB.out.size _).drew⟩, by simp [intOf]⟩
end Go.Proofs.YtolcajcihgfeeaaDoor
