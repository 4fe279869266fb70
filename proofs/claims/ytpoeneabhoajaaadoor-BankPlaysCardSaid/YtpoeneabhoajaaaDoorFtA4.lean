/- Chains of faults in memory; fault.Wrap, (*Fault).Unwrap and the law's chain by contract. -/
import Derived.Test.YtpoeneabhoajaaaDoorRows
import Derived.Test.YtpoeneabhoajaaaDoorMem
import Derived.Stop.Asserts
import Derived.RowKitTokens
namespace Go.Proofs.YtpoeneabhoajaaaDoor
open Go.RowKit Go.Extern.Stop Go.Stop Go.Extern

/-- A link as it reads. -/
structure Lk where
  op : ByteArray
  dev : Int
  place : Int
/-- A code as an error's value. -/
abbrev codeV (a : Int) : Value := .iface 54 (.int .i64 a)
/-- A fault as an error's value. -/
abbrev faultV (g : Nat) : Value := .iface 86 (.pointer (some ⟨g, 0, none⟩))
/-- A fault's block. -/
abbrev faultO (x : Lk) (u : Value) : Obj := .cells #[.string x.op, .int .i64 x.dev, .int .i64 x.place, u] 88 (0, 0)
/-- What a chain ends in. -/
def endV : Option Int → Value
  | some c => codeV c
  | none => .nilIface
/-- v is the error of the links l around the end c; each fault's block lies below the one around it, and all below B. -/
def Ch (w : World) : Nat → List Lk → Option Int → Value → Prop
  | _, [], c, v => v = endV c
  | B, x :: l, c, v => ∃ g u, v = faultV g ∧ g < B ∧ w.heap[g]? = some (faultO x u) ∧ Ch w g l c u
theorem Ch.more {w : World} {B B' : Nat} {l : List Lk} {c : Option Int} {v : Value} (h : Ch w B l c v) (hB : B ≤ B') : Ch w B' l c v := by
  cases l with
  | nil => exact h
  | cons x l =>
    obtain ⟨g, u, h1, h2, h3, h4⟩ := h
    exact ⟨g, u, h1, by omega, h3, h4⟩
theorem Ch.keep {w w' : World} : ∀ {l : List Lk} {B : Nat} {c : Option Int} {v : Value}, Ch w B l c v → (∀ b, b < B → w'.heap[b]? = w.heap[b]?) → Ch w' B l c v
  | [], _, _, _, h, _ => h
  | _ :: _, _, _, _, ⟨g, u, h1, h2, h3, h4⟩, hk => ⟨g, u, h1, h2, (hk g h2).trans h3, h4.keep fun b hb => hk b (by omega)⟩
theorem Ch.below {w w' : World} {l : List Lk} {B : Nat} {c : Option Int} {v : Value} (h : Ch w B l c v) (hb : Below B w w') : Ch w' B l c v := h.keep hb.block
/-- How far down an error's block lies. -/
def deep : Value → Nat
  | .iface _ (.pointer (some a)) => a.block + 1
  | _ => 0
theorem Ch.deep_lt {w : World} {B : Nat} {l : List Lk} {c : Option Int} {u : Value} (h : Ch w B l c u) : deep u < B + 1 := by
  cases l with
  | nil =>
    obtain rfl : u = endV c := h
    cases c <;> exact Nat.succ_pos _
  | cons x l =>
    obtain ⟨g, u', rfl, h2, _⟩ := h
    show g + 1 < B + 1
    omega

set_option maxHeartbeats 400000 in
theorem wrap_any (s : ByteArray) (d p : Int) (T : TypeId) (x : Value) (w : World) :
    Calls Tryd.prog 15 #[.string s, .int .i64 d, .int .i64 p, .iface T x] w fun e w' => e = .returned (faultV w.heap.size) ∧ w' = w.alloc (.cells #[.string s, .int .i64 d, .int .i64 p, .iface T x] 88) := by
  go_enter Tryd.func15, Tryd.ntmps15
  go_wp2
  go_ret
  exact ⟨rfl, rfl⟩
set_option maxHeartbeats 400000 in
theorem wrap_nil (s : ByteArray) (d p : Int) (w : World) :
    Calls Tryd.prog 15 #[.string s, .int .i64 d, .int .i64 p, .nilIface] w fun e w' => e = .returned .nilIface ∧ w = w' := by
  go_enter Tryd.func15, Tryd.ntmps15
  go_wp2
  go_ret
  exact ⟨rfl, rfl⟩

theorem Ch.form {w : World} {B : Nat} {l : List Lk} {c : Int} {v : Value} (h : Ch w B l (some c) v) : ∃ T x, v = .iface T x := by
  cases l with
  | nil => exact ⟨_, _, h⟩
  | cons x l =>
    obtain ⟨g, u', rfl, h2, _⟩ := h
    exact ⟨_, _, rfl⟩

end Go.Proofs.YtpoeneabhoajaaaDoor
