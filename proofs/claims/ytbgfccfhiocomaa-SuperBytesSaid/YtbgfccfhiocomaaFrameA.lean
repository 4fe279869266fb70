/- The walks of the small functions on bytes: portageref02.Copy, bytes.Clone, portageref02.Sum, Number, frame.word. -/
import Derived.Test.YtbgfccfhiocomaaRows
import Derived.Test.YtbgfccfhiocomaaMem
namespace Go.Proofs.Ytbgfccfhiocomaa
open Go.RowKit

theorem el_u8 : ElemOk Try.prog 25 5 1 1 := ElemOk.mk' (z := .int .u8 0) Try.underlying25 (by kernel_rfl) rfl (by omega)

theorem el_bs : ElemOk Try.prog 151 25 1 24 := ElemOk.mk' (z := .slice none 0 0) Try.underlying151 (by kernel_rfl) rfl (by omega)

/-- A new slice of bytes is answered; what was there is as it was. -/
def RetB (w : World) (l : List Int) (e : Ending) (w' : World) : Prop :=
  ∃ A n c, e = .returned (.slice A n c) ∧ w'.ownsRow w.heap.size 5 1 (.slice A n c) n (l.map u8) ∧ Below w.heap.size w w'

set_option maxHeartbeats 400000 in
theorem copy_any (a : Option Addr) (n c : Nat) (l : List Int) (w : World) (hx : BS w w.heap.size a n l) (hn : n ≤ 140737488355328) :
    Calls Try.prog 19 #[.slice a n c] w (RetB w l) := by
  go_enter Try.func19, Try.ntmps19
  go_wp2_with (at_builtin; refine wpList_app0 _ rfl (.tmp 4) (.tmp 5) _ rfl w.heap.size el_u8 rfl w.heap.size a n c _ rfl hx.1 (u8_cells _) (by unfold maxLen; omega) (by omega) (Nat.le_refl _) ?_; intro A' c' w1 hown hg hat)
  go_ret
  exact ⟨A', n, c', rfl, hown, (Below.refl _ _).grown hg (Nat.le_refl _) (fun k hk => by cases hk)⟩

set_option maxHeartbeats 400000 in
theorem clone_any (a : Option Addr) (n c : Nat) (l : List Int) (w : World) (hx : BS w w.heap.size a n l) (hn : n ≤ 140737488355328) :
    Calls Try.prog 69 #[.slice a n c] w (RetB w l) := by
  have hq := fun (w : World) (a : Option Addr) (n c n' c' : Nat) => Lib.run_eql_slice_nil (P := Try.prog) w 25 5 a n c n' c' Try.underlying25
  rcases a with _ | ad
  · have hn0 : n = 0 := by
      rcases Nat.eq_zero_or_pos n with h0 | h0
      · exact h0
      · obtain ⟨b, o, h, _⟩ := hx.at_ h0
        cases h
    subst hn0
    have hl : l = [] := List.eq_nil_of_length_eq_zero hx.len
    subst hl
    go_enter Try.func69, Try.ntmps69
    go_wp2_with fail
    go_ret
    exact ⟨none, 0, 0, rfl, World.ownsRow_nil _ _ _ _, Below.refl _ _⟩
  · go_enter Try.func69, Try.ntmps69
    go_wp2_with (at_builtin; refine wpList_app _ rfl (.tmp 5) (.tmp 6) _ rfl w.heap.size el_u8 (some ⟨w.heap.size, 0, none⟩) 0 0 [] rfl (World.ownsRow_made w #[] 0 (Nat.le_refl _) (Nat.zero_le _) rfl) w.heap.size (some ad) n c _ rfl (hx.1.alloc (Nat.le_refl _) _) (u8_cells _) (by unfold maxLen; omega) (by omega) (by simp) ?_; intro A' c' w1 hown hg hat)
    go_ret
    simp only [Nat.zero_add, List.nil_append] at hown ⊢
    exact ⟨A', n, c', rfl, hown, ((Below.refl _ _).alloc (Nat.le_refl _) _).grown hg (by simp) (fun k hk => by simp [Value.ownBlock] at hk; omega)⟩

set_option maxHeartbeats 400000 in
theorem word_any (n : Int) (w : World) (h0 : 0 ≤ n) (h1 : n < 4294967296) :
    Calls Try.prog 73 #[.int .u32 n] w fun e w' => e = .returned (.slice (some ⟨w.heap.size, 0, none⟩) 4 4) ∧ w' = w.alloc (.cells #[u8 (n / 16777216), u8 (n / 65536 % 256), u8 (n / 256 % 256), u8 (n % 256)] 5) := by
  go_enter Try.func73, Try.ntmps73
  go_wp2
  go_ret
  exact ⟨rfl, rfl⟩

end Go.Proofs.Ytbgfccfhiocomaa
