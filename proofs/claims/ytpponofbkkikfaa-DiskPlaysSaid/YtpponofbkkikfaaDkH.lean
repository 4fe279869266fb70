/- Disk.Write whatever is asked, Disk.Crash where nothing waits, the law's ints by contract. -/
import Derived.Test.YtpponofbkkikfaaDiskOwn
import Derived.Deep.RegionHeld3
namespace Go.Proofs.Ytpponofbkkikfaa
open Go.RowKit

/-- What Write answers. -/
def wres (n : Nat) (i : Int) (m : Nat) : Value := if hasOf n i = false then codeV 20 else if m ≠ 128 then codeV 11 else .nilIface
/-- The sectors behind a Write. -/
def wnext (ss : List Sec) (i : Int) (l : List Int) : List Sec := if hasOf ss.length i = true ∧ l.length = 128 then (match ss[i.toNat]? with | some s => ss.set i.toNat { s with wait := s.wait ++ [l] } | none => ss) else ss
theorem wnext_len (ss : List Sec) (i : Int) (l : List Int) : (wnext ss i l).length = ss.length := by
  unfold wnext
  split
  · split <;> simp
  · rfl
theorem wnext_all {ss : List Sec} {i : Int} {l : List Int} {q : Nat} (h : ∀ s ∈ ss, s.bad = false ∧ s.wait.length ≤ q) : ∀ s ∈ wnext ss i l, s.bad = false ∧ s.wait.length ≤ q + 1 := by
  have h' : ∀ s ∈ ss, s.bad = false ∧ s.wait.length ≤ q + 1 := fun s hs => ⟨(h s hs).1, by have := (h s hs).2; omega⟩
  unfold wnext
  split
  · split
    · rename_i s hs
      intro x hx
      rcases List.mem_or_eq_of_mem_set hx with hx | hx
      · exact h' x hx
      · have := h s (List.mem_of_getElem? hs)
        rw [hx]
        exact ⟨this.1, by simp; exact this.2⟩
    · exact h'
  · exact h'

theorem write_all (F : Nat → Prop) (g : Nat) (ss : List Sec) (i : Int) (a : Option Addr) (m c : Nat) (l : List Int) (w : World) (h : DK w F g ss) (hi : I64 i) (hx : BS w w.heap.size a m l) (hw : ∀ s ∈ ss, s.wait.length < 1000000) :
    Calls Try.prog 11 #[.pointer (some ⟨g, 0, none⟩), .int .i64 i, .slice a m c] w fun e w' => e = .returned (wres ss.length i m) ∧ Turn F w w' ∧ ∃ F', DK w' F' g (wnext ss i l) ∧ ∀ b, F' b → F b ∨ w.heap.size ≤ b := by
  have hln := hx.len
  cases hh : hasOf ss.length i with
  | false =>
    refine (write_no F g ss i a m c w h hi hh).mono ?_
    rintro e w' ⟨rfl, rfl⟩
    refine ⟨by unfold wres; rw [if_pos hh], Turn.of_below (Below.refl _ _), F, ?_, fun b hb => .inl hb⟩
    unfold wnext
    rw [if_neg (by rw [hh]; simp)]
    exact h
  | true =>
    by_cases hm : m = 128
    · subst hm
      obtain ⟨k, rfl, hk⟩ := hasOf_nat hh
      have hs := List.getElem?_eq_getElem (l := ss) (i := k) hk
      refine (write_ok F g ss k ss[k] a c l w h hs hx (hw _ (List.getElem_mem _))).mono ?_
      rintro e w' ⟨rfl, ht, F', hd, hF⟩
      refine ⟨by unfold wres; rw [if_neg (by rw [hh]; simp), if_neg (by simp)], ht, F', ?_, hF⟩
      unfold wnext
      rw [if_pos ⟨hh, hln⟩, Int.toNat_natCast, hs]
      exact hd
    · refine (write_size F g ss i a m c w h hi hh hm).mono ?_
      rintro e w' ⟨rfl, rfl⟩
      refine ⟨by unfold wres; rw [if_neg (by rw [hh]; simp), if_pos hm], Turn.of_below (Below.refl _ _), F, ?_, fun b hb => .inl hb⟩
      unfold wnext
      rw [if_neg (by rw [hln]; exact fun h => hm h.2)]
      exact h

/-- Six or so sectors that can be read, with few writes. -/
structure GW (w wr : World) (F : Nat → Prop) (g q : Nat) (ss : List Sec) : Prop where
  ld : LD w wr F g ss
  all : ∀ s ∈ ss, s.bad = false ∧ s.wait.length ≤ q
theorem GW.below {w wr w1 : World} {F : Nat → Prop} {g q : Nat} {ss : List Sec} (h : GW w wr F g q ss) (hb : Below wr.heap.size wr w1) : GW w w1 F g q ss := ⟨h.ld.below hb, h.all⟩
theorem GW.more {w wr : World} {F : Nat → Prop} {g q q' : Nat} {ss : List Sec} (h : GW w wr F g q ss) (hq : q ≤ q') : GW w wr F g q' ss := ⟨h.ld, fun s hs => ⟨(h.all s hs).1, Nat.le_trans (h.all s hs).2 hq⟩⟩

set_option maxRecDepth 20000 in
theorem ints_any (a b : Option Addr) (n m c d : Nat) (l k : List Int) (w : World) (hx : IS w w.heap.size a n l) (hy : IS w w.heap.size b m k) (hn : n ≤ 1000000) (hlk : l = k) :
    Calls Try.prog 24 #[.slice a n c, .slice b m d] w fun e w' => e = .returned (.bool true) ∧ Below w.heap.size w w' := by
  subst hlk
  have hnm : n = m := by rw [← hx.len, ← hy.len]
  subst hnm
  have hnn : ((n : Int) != (n : Int)) = false := by simp
  go_enter Try.func24, Try.ntmps24
  go_wp2_with fail
  go_loopw [13] (fun i wr => ∃ q : Nat, q ≤ n ∧ i = .int .i64 q ∧ Below w.heap.size w wr) (fun i _ => n - (intOf i).toNat)
  case atStart => exact ⟨0, Nat.zero_le _, rfl, Below.refl _ _⟩
  case round =>
    obtain ⟨q, hq, rfl, hb⟩ := hrel
    by_cases hlt : q < n
    · obtain ⟨b1, o1, rfl, hb1, h1, hI⟩ := (hx.below hb).at_ hlt
      obtain ⟨b2, o2, rfl, hb2, h2, _⟩ := (hy.below hb).at_ hlt
      generalize l[q]?.getD 0 = x at *
      have hxx : (x != x) = false := by simp
      have HC := mkHid (And.intro h1 h2)
      have HB := mkHid hb
      have HX := mkHid hx
      have HY := mkHid hy
      clear hx hy hb
      go_wp2_with fail
      go_region_held3 (fun s => s.cell? ⟨b1, o1 + q, none⟩ = some (.int .i64 x) ∧ s.cell? ⟨b2, o2 + q, none⟩ = some (.int .i64 x)) (first | exact HC.out | assumption) (fail)
      go_wp2_with fail
      go_roundw
      case rel => exact ⟨q + 1, by omega, by go_num, HB.out.drew⟩
      case measure => simp [intOf]; omega
    · obtain rfl : q = n := by omega
      clear hx hy
      go_wp2_with fail
      go_ret
      exact ⟨rfl, hb⟩

/-- Where nothing waits a crash leaves all. -/
theorem crash_none (F : Nat → Prop) (g : Nat) (ss : List Sec) (a : Option Addr) (n c : Nat) (w : World) (h : DK w F g ss) (hp : pend ss = []) :
    Calls Try.prog 15 #[.pointer (some ⟨g, 0, none⟩), .slice a n c] w fun e w' => e = .returned (.tuple #[]) ∧ Below w.heap.size w w' := by
  have HP := mkHid (pending_any F g ss w h)
  rw [hp] at HP
  clear h hp
  go_enter Try.func15, Try.ntmps15
  go_wp2_with fail
  refine HP.out.mono ?_
  rintro e w1 ⟨A, c1, rfl, _, hb1⟩
  go_wp2_with fail
  refine wp_loop_rounds 1 ?_
  rw [rounds_succ]
  go_wp2_with fail
  go_end0
  exact ⟨rfl, hb1⟩

end Go.Proofs.Ytpponofbkkikfaa
