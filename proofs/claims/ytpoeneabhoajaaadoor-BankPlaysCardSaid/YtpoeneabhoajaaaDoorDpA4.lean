/- The program's disk beside the document's: what each call leaves of both; combined contracts. -/
import Derived.Test.YtpoeneabhoajaaaDoorRdM4
import Derived.Test.YtpoeneabhoajaaaDoorDkG4
namespace Go.Proofs.YtpoeneabhoajaaaDoor
open Go.RowKit

section
variable {w wr w1 : World} {F1 F2 F' : Nat → Prop} {g1 g2 q q' : Nat} {sa sb ss' : List Sec}
end

section
variable {G : Nat → Prop} {w w0 wr w1 : World} {F1 F2 F' : Nat → Prop} {g1 g2 q q' : Nat} {sa sb ss' : List Sec}
end

/-! ## What the calls answer, and leave -/
def rres (n : Nat) (i : Int) (m : Nat) : Int := if hasOf n i = false then 20 else if m ≠ 128 then 11 else 0
theorem wnext_wait {ss : List Sec} {i : Int} {l : List Int} {q : Nat} (h : ∀ s ∈ ss, s.wait.length ≤ q) : ∀ s ∈ wnext ss i l, s.wait.length ≤ q + 1 := by
  have h' : ∀ s ∈ ss, s.wait.length ≤ q + 1 := fun s hs => by have := h s hs; omega
  unfold wnext
  split
  · split
    · rename_i s hs
      intro x hx
      rcases List.mem_or_eq_of_mem_set hx with hx | hx
      · exact h' x hx
      · have := h s (List.mem_of_getElem? hs)
        rw [hx]
        simp
        exact this
    · exact h'
  · exact h'
theorem rwrite_all (F : Nat → Prop) (g : Nat) (ss : List Sec) (i : Int) (a : Option Addr) (m c : Nat) (l : List Int) (w : World) (h : RD w F g ss) (hi : I64 i) (hx : BS w w.heap.size a m l) (hw : ∀ s ∈ ss, s.wait.length < 1000000) :
    Calls Tryd.prog 60 #[.pointer (some ⟨g, 0, none⟩), .int .i64 i, .slice a m c] w fun e w' => e = .returned (.int .i64 (rres ss.length i m)) ∧ Turn F w w' ∧ ∃ F', RD w' F' g (wnext ss i l) ∧ ∀ b, F' b → F b ∨ w.heap.size ≤ b := by
  have hln := hx.len
  cases hh : hasOf ss.length i with
  | false =>
    refine (rwrite_no F g ss i a m c w h hi hh).mono ?_
    rintro e w' ⟨rfl, rfl⟩
    refine ⟨by unfold rres; rw [if_pos hh], Turn.of_below (Below.refl _ _), F, ?_, fun b hb => .inl hb⟩
    unfold wnext
    rw [if_neg (by rw [hh]; simp)]
    exact h
  | true =>
    by_cases hm : m = 128
    · subst hm
      obtain ⟨k, rfl, hk⟩ := hasOf_nat hh
      have hs := List.getElem?_eq_getElem (l := ss) (i := k) hk
      refine (rwrite_ok F g ss k ss[k] a c l w h hs hx (hw _ (List.getElem_mem _))).mono ?_
      rintro e w' ⟨rfl, ht, F', hd, hF⟩
      refine ⟨by unfold rres; rw [if_neg (by rw [hh]; simp), if_neg (by simp)], ht, F', ?_, hF⟩
      unfold wnext
      rw [if_pos ⟨hh, hln⟩, Int.toNat_natCast, hs]
      exact hd
    · refine (rwrite_size F g ss i a m c w h hi hh hm).mono ?_
      rintro e w' ⟨rfl, rfl⟩
      refine ⟨by unfold rres; rw [if_neg (by rw [hh]; simp), if_pos hm], Turn.of_below (Below.refl _ _), F, ?_, fun b hb => .inl hb⟩
      unfold wnext
      rw [if_neg (by rw [hln]; exact fun h => hm h.2)]
      exact h

def gokOf (n : Nat) (k : Int) : Bool := decide (1 ≤ k ∧ k ≤ 4096 - (n : Int))
def gres (n : Nat) (k : Int) : Value := if gokOf n k = true then .nilIface else codeV 20
def rgres (n : Nat) (k : Int) : Int := if gokOf n k = true then 0 else 20
def gnext (ss : List Sec) (k : Int) : List Sec := if gokOf ss.length k = true then ss ++ List.replicate k.toNat sec0 else ss
theorem gnext_wait {ss : List Sec} {k : Int} {q : Nat} (h : ∀ s ∈ ss, s.wait.length ≤ q) : ∀ s ∈ gnext ss k, s.wait.length ≤ q := by
  unfold gnext
  split
  · intro s hs
    rcases List.mem_append.1 hs with hs | hs
    · exact h s hs
    · rw [List.eq_of_mem_replicate hs]
      exact Nat.zero_le _
  · exact h
theorem grow_all (F : Nat → Prop) (g : Nat) (ss : List Sec) (k : Int) (w : World) (h : DK w F g ss) (hk : I64 k) :
    Calls Tryd.prog 52 #[.pointer (some ⟨g, 0, none⟩), .int .i64 k] w fun e w' => e = .returned (gres ss.length k) ∧ Turn F w w' ∧ ∃ F', DK w' F' g (gnext ss k) ∧ ∀ b, F' b → F b ∨ w.heap.size ≤ b := by
  cases hg : gokOf ss.length k with
  | true =>
    have h1 := of_decide_eq_true hg
    obtain ⟨m, rfl⟩ := Int.eq_ofNat_of_zero_le (show 0 ≤ k by omega)
    refine (grow_ok F g ss m w h (by omega) (by omega)).mono ?_
    rintro e w' ⟨rfl, ht, F', hd, hF⟩
    refine ⟨by unfold gres; rw [if_pos hg], ht, F', ?_, hF⟩
    unfold gnext
    rw [if_pos hg, Int.toNat_natCast]
    exact hd
  | false =>
    have h1 := of_decide_eq_false hg
    refine (grow_no F g ss k w h hk (by omega)).mono ?_
    rintro e w' ⟨rfl, rfl⟩
    refine ⟨by unfold gres; rw [if_neg (by rw [hg]; simp)], Turn.of_below (Below.refl _ _), F, ?_, fun b hb => .inl hb⟩
    unfold gnext
    rw [if_neg (by rw [hg]; simp)]
    exact h
theorem rgrow_all (F : Nat → Prop) (g : Nat) (ss : List Sec) (k : Int) (w : World) (h : RD w F g ss) (hk : I64 k) :
    Calls Tryd.prog 54 #[.pointer (some ⟨g, 0, none⟩), .int .i64 k] w fun e w' => e = .returned (.int .i64 (rgres ss.length k)) ∧ Turn F w w' ∧ ∃ F', RD w' F' g (gnext ss k) ∧ ∀ b, F' b → F b ∨ w.heap.size ≤ b := by
  cases hg : gokOf ss.length k with
  | true =>
    have h1 := of_decide_eq_true hg
    obtain ⟨m, rfl⟩ := Int.eq_ofNat_of_zero_le (show 0 ≤ k by omega)
    refine (rgrow_ok F g ss m w h (by omega) (by omega)).mono ?_
    rintro e w' ⟨rfl, ht, F', hd, hF⟩
    refine ⟨by unfold rgres; rw [if_pos hg], ht, F', ?_, hF⟩
    unfold gnext
    rw [if_pos hg, Int.toNat_natCast]
    exact hd
  | false =>
    have h1 := of_decide_eq_false hg
    refine (rgrow_no F g ss k w h hk (by omega)).mono ?_
    rintro e w' ⟨rfl, rfl⟩
    refine ⟨by unfold rgres; rw [if_neg (by rw [hg]; simp)], Turn.of_below (Below.refl _ _), F, ?_, fun b hb => .inl hb⟩
    unfold gnext
    rw [if_neg (by rw [hg]; simp)]
    exact h

theorem flushed_wait {ss : List Sec} {q : Nat} : ∀ s ∈ flushed ss, s.wait.length ≤ q := fun s hs => by
  obtain ⟨x, _, rfl⟩ := List.mem_map.1 hs
  exact Nat.zero_le _
theorem filled_wait {ss : List Sec} {b : List Int} {q : Nat} : ∀ s ∈ filled ss b, s.wait.length ≤ q := fun s hs => by
  obtain ⟨x, _, rfl⟩ := List.mem_map.1 hs
  exact Nat.zero_le _
theorem crashL_wait (q : Nat) : ∀ (is ps : List Int) (ss : List Sec), (∀ s ∈ ss, s.wait.length ≤ q) → ∀ s ∈ crashL is ps ss, s.wait.length ≤ q
  | [], _, _, h => h
  | i :: is, ps, ss, h => by
    rw [crashL]
    refine crashL_wait q is _ _ ?_
    split
    · intro x hx
      rcases List.mem_or_eq_of_mem_set hx with hx | rfl
      · exact h x hx
      · exact Nat.zero_le _
    · exact h
theorem bad_wait {ss : List Sec} {i q : Nat} {s : Sec} {on : Bool} (hs : ss[i]? = some s) (h : ∀ s ∈ ss, s.wait.length ≤ q) : ∀ x ∈ ss.set i { s with bad := on }, x.wait.length ≤ q := fun x hx => by
  rcases List.mem_or_eq_of_mem_set hx with hx | rfl
  · exact h x hx
  · exact h s (List.mem_of_getElem? hs)

end Go.Proofs.YtpoeneabhoajaaaDoor
