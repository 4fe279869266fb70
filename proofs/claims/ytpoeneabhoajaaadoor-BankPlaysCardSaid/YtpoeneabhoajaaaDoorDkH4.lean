/- What the bank's proofs take of the disk's: copies, rows that lie outside, Write whatever is asked, a crash where nothing waits. -/
import Derived.Test.YtpoeneabhoajaaaDoorDkF4
import Derived.Test.YtpoeneabhoajaaaDoorFtA4
import Derived.Deep.RegionHeld3
namespace Go.Proofs.YtpoeneabhoajaaaDoor
open Go.RowKit


theorem copy_any (a : Option Addr) (n c : Nat) (l : List Int) (w : World) (hx : BS w w.heap.size a n l) (hn : n ≤ 140737488355328) :
    Calls Tryd.prog 22 #[.slice a n c] w (RetB w l) := by
  have hln := hx.len
  subst hln
  go_enter Tryd.func22, Tryd.ntmps22
  go_wp2_with (at_builtin; refine wpList_app0 _ rfl (.tmp 4) (.tmp 5) _ rfl w.heap.size el_u8 rfl w.heap.size a l.length c _ rfl hx.1 (u8_cells _) (by unfold maxLen; omega) (by omega) (Nat.le_refl _) ?_; intro A' c' w1 hown hg hat)
  go_ret
  exact ⟨A', c', rfl, hown, (Below.refl _ _).grown hg (Nat.le_refl _) (fun k hk => by cases hk)⟩

/-- A row that lies outside of what may turn. -/
theorem own_turn {w w' : World} {F : Nat → Prop} {base : Nat} {e : TypeId} {s n : Nat} {v : Value} {xs : List Value} (h : w.ownsRow base e s v n xs) (ht : Turn F w w') (hF : ∀ b, v.ownBlock = some b → ¬ F b) : w'.ownsRow base e s v n xs := by
  refine ⟨h.1, ?_⟩
  rcases h.2 with h0 | ⟨g, cap, cur, h1, h2, h3, h4⟩
  · exact .inl h0
  · exact .inr ⟨g, cap, cur, h1, h2, (ht.block g (Array.getElem?_eq_some_iff.1 h3).1 (hF g (by rw [h1]; rfl))).trans h3, h4⟩


/-- What Write answers. -/
def wres (n : Nat) (i : Int) (m : Nat) : Value := if hasOf n i = false then codeV 20 else if m ≠ 128 then codeV 11 else .nilIface

/-- The sectors behind a Write. -/
def wnext (ss : List Sec) (i : Int) (l : List Int) : List Sec := if hasOf ss.length i = true ∧ l.length = 128 then (match ss[i.toNat]? with | some s => ss.set i.toNat { s with wait := s.wait ++ [l] } | none => ss) else ss

theorem wnext_len (ss : List Sec) (i : Int) (l : List Int) : (wnext ss i l).length = ss.length := by
  unfold wnext
  split
  · split <;> simp
  · rfl

theorem write_all (F : Nat → Prop) (g : Nat) (ss : List Sec) (i : Int) (a : Option Addr) (m c : Nat) (l : List Int) (w : World) (h : DK w F g ss) (hi : I64 i) (hx : BS w w.heap.size a m l) (hw : ∀ s ∈ ss, s.wait.length < 1000000) :
    Calls Tryd.prog 79 #[.pointer (some ⟨g, 0, none⟩), .int .i64 i, .slice a m c] w fun e w' => e = .returned (wres ss.length i m) ∧ Turn F w w' ∧ ∃ F', DK w' F' g (wnext ss i l) ∧ ∀ b, F' b → F b ∨ w.heap.size ≤ b := by
  have hln := hx.len
  cases hh : hasOf ss.length i with
  | false =>
    refine (write_no F g ss i a m c w h hi hh).mono ?_
    rintro e w' ⟨rfl, rfl⟩
    refine ⟨by unfold wres; rw [if_pos hh], Turn.of_below (Below.refl _ _), F, ?_, fun b hb => .inl hb⟩
    unfold wnext
    rw [if_neg (by rw [hh]; simp)]
    exact h
  | true =>
    by_cases hm : m = 128
    · subst hm
      obtain ⟨k, rfl, hk⟩ := hasOf_nat hh
      have hs := List.getElem?_eq_getElem (l := ss) (i := k) hk
      refine (write_ok F g ss k ss[k] a c l w h hs hx (hw _ (List.getElem_mem _))).mono ?_
      rintro e w' ⟨rfl, ht, F', hd, hF⟩
      refine ⟨by unfold wres; rw [if_neg (by rw [hh]; simp), if_neg (by simp)], ht, F', ?_, hF⟩
      unfold wnext
      rw [if_pos ⟨hh, hln⟩, Int.toNat_natCast, hs]
      exact hd
    · refine (write_size F g ss i a m c w h hi hh hm).mono ?_
      rintro e w' ⟨rfl, rfl⟩
      refine ⟨by unfold wres; rw [if_neg (by rw [hh]; simp), if_pos hm], Turn.of_below (Below.refl _ _), F, ?_, fun b hb => .inl hb⟩
      unfold wnext
      rw [if_neg (by rw [hln]; exact fun h => hm h.2)]
      exact h

/-- Where nothing waits a crash leaves all. -/
theorem crash_none (F : Nat → Prop) (g : Nat) (ss : List Sec) (a : Option Addr) (n c : Nat) (w : World) (h : DK w F g ss) (hp : pend ss = []) :
    Calls Tryd.prog 67 #[.pointer (some ⟨g, 0, none⟩), .slice a n c] w fun e w' => e = .returned (.tuple #[]) ∧ Below w.heap.size w w' := by
  have HP := mkHid (pending_any F g ss w h)
  rw [hp] at HP
  clear h hp
  go_enter Tryd.func67, Tryd.ntmps67
  go_wp2_with fail
  refine HP.out.mono ?_
  rintro e w1 ⟨A, c1, rfl, _, hb1⟩
  go_wp2_with fail
  refine wp_loop_rounds 1 ?_
  rw [rounds_succ]
  go_wp2_with fail
  go_end0
  exact ⟨rfl, hb1⟩

end Go.Proofs.YtpoeneabhoajaaaDoor
