/- The program's disk beside the document's: what each call leaves of both; combined contracts. -/
import Derived.Test.YtpponofbkkikfaaRdG
import Derived.Test.YtpponofbkkikfaaOps
namespace Go.Proofs.Ytpponofbkkikfaa
open Go.RowKit

/-- Two disks that have nothing in common, all behind w. -/
structure TD (w wr : World) (F1 F2 : Nat → Prop) (g1 g2 q : Nat) (sa sb : List Sec) : Prop where
  a : DK wr F1 g1 sa
  b : RD wr F2 g2 sb
  la : ∀ x, F1 x → w.heap.size ≤ x
  lb : ∀ x, F2 x → w.heap.size ≤ x
  apart : ∀ x, F1 x → ¬ F2 x
  bel : Below w.heap.size w wr
  wa : ∀ s ∈ sa, s.wait.length ≤ q
  wb : ∀ s ∈ sb, s.wait.length ≤ q
section
variable {w wr w1 : World} {F1 F2 F' : Nat → Prop} {g1 g2 q q' : Nat} {sa sb ss' : List Sec}
theorem TD.below (h : TD w wr F1 F2 g1 g2 q sa sb) (hb : Below wr.heap.size wr w1) : TD w w1 F1 F2 g1 g2 q sa sb := ⟨h.a.below hb, h.b.below hb, h.la, h.lb, h.apart, h.bel.trans (hb.mono h.bel.size), h.wa, h.wb⟩
theorem TD.more (h : TD w wr F1 F2 g1 g2 q sa sb) (hq : q ≤ q') : TD w wr F1 F2 g1 g2 q' sa sb := ⟨h.a, h.b, h.la, h.lb, h.apart, h.bel, fun s hs => Nat.le_trans (h.wa s hs) hq, fun s hs => Nat.le_trans (h.wb s hs) hq⟩
theorem TD.stepA (h : TD w wr F1 F2 g1 g2 q sa sb) (ht : Turn F1 wr w1) (hd : DK w1 F' g1 ss') (hF : ∀ x, F' x → F1 x ∨ wr.heap.size ≤ x) (hall : ∀ s ∈ ss', s.wait.length ≤ q') (hq : q ≤ q') : TD w w1 F' F2 g1 g2 q' ss' sb :=
  ⟨hd, h.b.keep ht.size fun x hx => ht.block x (h.b.lt x hx) fun hf => h.apart x hf hx, fun x hx => (hF x hx).elim (h.la x) fun e => Nat.le_trans h.bel.size e, h.lb, fun x hx hx2 => by
    rcases hF x hx with e | e
    · exact h.apart x e hx2
    · have := h.b.lt x hx2; omega, h.bel.trans (ht.below h.la h.bel.size), hall, fun s hs => Nat.le_trans (h.wb s hs) hq⟩
theorem TD.stepB (h : TD w wr F1 F2 g1 g2 q sa sb) (ht : Turn F2 wr w1) (hd : RD w1 F' g2 ss') (hF : ∀ x, F' x → F2 x ∨ wr.heap.size ≤ x) (hall : ∀ s ∈ ss', s.wait.length ≤ q') (hq : q ≤ q') : TD w w1 F1 F' g1 g2 q' sa ss' :=
  ⟨h.a.keep ht.size fun x hx => ht.block x (h.a.lt x hx) fun hf => h.apart x hx hf, hd, h.la, fun x hx => (hF x hx).elim (h.lb x) fun e => Nat.le_trans h.bel.size e, fun x hx hx2 => by
    rcases hF x hx2 with e | e
    · exact h.apart x hx e
    · have := h.a.lt x hx; omega, h.bel.trans (ht.below h.lb h.bel.size), fun s hs => Nat.le_trans (h.wa s hs) hq, hall⟩
/-- A row of neither was written over. -/
theorem TD.over {w0 : World} (h : TD w w0 F1 F2 g1 g2 q sa sb) {base n C : Nat} {A : Option Addr} (ho : OW w0 wr base A n C) (hb : w.heap.size ≤ base) (h1 : ∀ b, F1 b → (Value.slice A n C).ownBlock ≠ some b) (h2 : ∀ b, F2 b → (Value.slice A n C).ownBlock ≠ some b) : TD w wr F1 F2 g1 g2 q sa sb := by
  obtain ⟨lv, e1, _, hg⟩ := ho
  exact ⟨h.a.keep hg.size fun b hb' => hg.block b (h.a.lt b hb') fun e => h1 b hb' e.symm, h.b.keep hg.size fun b hb' => hg.block b (h.b.lt b hb') fun e => h2 b hb' e.symm, h.la, h.lb, h.apart, h.bel.grown hg h.bel.size fun k hk => Nat.le_trans hb (e1.lt k hk).1, h.wa, h.wb⟩
end

/-- The same, seen from the call's start w0: what of it may turn. -/
structure TE (G : Nat → Prop) (w0 w wr : World) (F1 F2 : Nat → Prop) (g1 g2 q : Nat) (sa sb : List Sec) : Prop extends TD w wr F1 F2 g1 g2 q sa sb where
  u : Turn G w0 wr
  f1 : ∀ x, F1 x → G x ∨ w0.heap.size ≤ x
  f2 : ∀ x, F2 x → G x ∨ w0.heap.size ≤ x
theorem TE.of {w wr : World} {F1 F2 : Nat → Prop} {g1 g2 q : Nat} {sa sb : List Sec} (h : TD w wr F1 F2 g1 g2 q sa sb) : TE (fun b => F1 b ∨ F2 b) wr w wr F1 F2 g1 g2 q sa sb := ⟨h, Turn.of_below (Below.refl _ _), fun _ hx => .inl (.inl hx), fun _ hx => .inl (.inr hx)⟩
section
variable {G : Nat → Prop} {w w0 wr w1 : World} {F1 F2 F' : Nat → Prop} {g1 g2 q q' : Nat} {sa sb ss' : List Sec}
theorem TE.below (h : TE G w0 w wr F1 F2 g1 g2 q sa sb) (hb : Below wr.heap.size wr w1) : TE G w0 w w1 F1 F2 g1 g2 q sa sb := ⟨h.toTD.below hb, h.u.trans (Turn.of_below (F := G) hb) fun _ hx => .inl hx, h.f1, h.f2⟩
theorem TE.more (h : TE G w0 w wr F1 F2 g1 g2 q sa sb) (hq : q ≤ q') : TE G w0 w wr F1 F2 g1 g2 q' sa sb := ⟨h.toTD.more hq, h.u, h.f1, h.f2⟩
theorem TE.stepA (h : TE G w0 w wr F1 F2 g1 g2 q sa sb) (ht : Turn F1 wr w1) (hd : DK w1 F' g1 ss') (hF : ∀ x, F' x → F1 x ∨ wr.heap.size ≤ x) (hall : ∀ s ∈ ss', s.wait.length ≤ q') (hq : q ≤ q') : TE G w0 w w1 F' F2 g1 g2 q' ss' sb :=
  ⟨h.toTD.stepA ht hd hF hall hq, h.u.trans ht h.f1, fun x hx => (hF x hx).elim (h.f1 x) fun e => .inr (Nat.le_trans h.u.size e), h.f2⟩
theorem TE.stepB (h : TE G w0 w wr F1 F2 g1 g2 q sa sb) (ht : Turn F2 wr w1) (hd : RD w1 F' g2 ss') (hF : ∀ x, F' x → F2 x ∨ wr.heap.size ≤ x) (hall : ∀ s ∈ ss', s.wait.length ≤ q') (hq : q ≤ q') : TE G w0 w w1 F1 F' g1 g2 q' sa ss' :=
  ⟨h.toTD.stepB ht hd hF hall hq, h.u.trans ht h.f2, h.f1, fun x hx => (hF x hx).elim (h.f2 x) fun e => .inr (Nat.le_trans h.u.size e)⟩
theorem TE.over {wa : World} (h : TE G w0 w wa F1 F2 g1 g2 q sa sb) {base n C : Nat} {A : Option Addr} (ho : OW wa wr base A n C) (hb : w.heap.size ≤ base) (hb0 : w0.heap.size ≤ base) (h1 : ∀ b, F1 b → (Value.slice A n C).ownBlock ≠ some b) (h2 : ∀ b, F2 b → (Value.slice A n C).ownBlock ≠ some b) : TE G w0 w wr F1 F2 g1 g2 q sa sb := by
  refine ⟨h.toTD.over ho hb h1 h2, ?_, h.f1, h.f2⟩
  obtain ⟨lv, e1, _, hg⟩ := ho
  exact ⟨hg.os.trans h.u.os, hg.tape.trans h.u.tape, hg.output.trans h.u.output, Nat.le_trans h.u.size hg.size, fun k hk hf => (hg.block k (Nat.lt_of_lt_of_le hk h.u.size) fun e => by have := (e1.lt k e.symm).1; omega).trans (h.u.block k hk hf)⟩
end

/-! ## What the calls answer, and leave -/
def rres (n : Nat) (i : Int) (m : Nat) : Int := if hasOf n i = false then 20 else if m ≠ 128 then 11 else 0
theorem wnext_wait {ss : List Sec} {i : Int} {l : List Int} {q : Nat} (h : ∀ s ∈ ss, s.wait.length ≤ q) : ∀ s ∈ wnext ss i l, s.wait.length ≤ q + 1 := by
  have h' : ∀ s ∈ ss, s.wait.length ≤ q + 1 := fun s hs => by have := h s hs; omega
  unfold wnext
  split
  · split
    · rename_i s hs
      intro x hx
      rcases List.mem_or_eq_of_mem_set hx with hx | hx
      · exact h' x hx
      · have := h s (List.mem_of_getElem? hs)
        rw [hx]
        simp
        exact this
    · exact h'
  · exact h'
theorem rwrite_all (F : Nat → Prop) (g : Nat) (ss : List Sec) (i : Int) (a : Option Addr) (m c : Nat) (l : List Int) (w : World) (h : RD w F g ss) (hi : I64 i) (hx : BS w w.heap.size a m l) (hw : ∀ s ∈ ss, s.wait.length < 1000000) :
    Calls Try.prog 36 #[.pointer (some ⟨g, 0, none⟩), .int .i64 i, .slice a m c] w fun e w' => e = .returned (.int .i64 (rres ss.length i m)) ∧ Turn F w w' ∧ ∃ F', RD w' F' g (wnext ss i l) ∧ ∀ b, F' b → F b ∨ w.heap.size ≤ b := by
  have hln := hx.len
  cases hh : hasOf ss.length i with
  | false =>
    refine (rwrite_no F g ss i a m c w h hi hh).mono ?_
    rintro e w' ⟨rfl, rfl⟩
    refine ⟨by unfold rres; rw [if_pos hh], Turn.of_below (Below.refl _ _), F, ?_, fun b hb => .inl hb⟩
    unfold wnext
    rw [if_neg (by rw [hh]; simp)]
    exact h
  | true =>
    by_cases hm : m = 128
    · subst hm
      obtain ⟨k, rfl, hk⟩ := hasOf_nat hh
      have hs := List.getElem?_eq_getElem (l := ss) (i := k) hk
      refine (rwrite_ok F g ss k ss[k] a c l w h hs hx (hw _ (List.getElem_mem _))).mono ?_
      rintro e w' ⟨rfl, ht, F', hd, hF⟩
      refine ⟨by unfold rres; rw [if_neg (by rw [hh]; simp), if_neg (by simp)], ht, F', ?_, hF⟩
      unfold wnext
      rw [if_pos ⟨hh, hln⟩, Int.toNat_natCast, hs]
      exact hd
    · refine (rwrite_size F g ss i a m c w h hi hh hm).mono ?_
      rintro e w' ⟨rfl, rfl⟩
      refine ⟨by unfold rres; rw [if_neg (by rw [hh]; simp), if_pos hm], Turn.of_below (Below.refl _ _), F, ?_, fun b hb => .inl hb⟩
      unfold wnext
      rw [if_neg (by rw [hln]; exact fun h => hm h.2)]
      exact h
theorem is_w (n : Nat) (i : Int) (m : Nat) (w : World) : Calls Try.prog 20 #[wres n i m, .int .i64 (rres n i m)] w fun e w' => e = .returned (.bool true) ∧ w = w' := by
  unfold wres rres
  split
  · exact (is_code 20 20 w).mono fun e w' h => by simpa using h
  · split
    · exact (is_code 11 11 w).mono fun e w' h => by simpa using h
    · exact (is_nil 0 w).mono fun e w' h => by simpa using h

def gokOf (n : Nat) (k : Int) : Bool := decide (1 ≤ k ∧ k ≤ 4096 - (n : Int))
def gres (n : Nat) (k : Int) : Value := if gokOf n k = true then .nilIface else codeV 20
def rgres (n : Nat) (k : Int) : Int := if gokOf n k = true then 0 else 20
def gnext (ss : List Sec) (k : Int) : List Sec := if gokOf ss.length k = true then ss ++ List.replicate k.toNat sec0 else ss
theorem gnext_wait {ss : List Sec} {k : Int} {q : Nat} (h : ∀ s ∈ ss, s.wait.length ≤ q) : ∀ s ∈ gnext ss k, s.wait.length ≤ q := by
  unfold gnext
  split
  · intro s hs
    rcases List.mem_append.1 hs with hs | hs
    · exact h s hs
    · rw [List.eq_of_mem_replicate hs]
      exact Nat.zero_le _
  · exact h
theorem grow_all (F : Nat → Prop) (g : Nat) (ss : List Sec) (k : Int) (w : World) (h : DK w F g ss) (hk : I64 k) :
    Calls Try.prog 22 #[.pointer (some ⟨g, 0, none⟩), .int .i64 k] w fun e w' => e = .returned (gres ss.length k) ∧ Turn F w w' ∧ ∃ F', DK w' F' g (gnext ss k) ∧ ∀ b, F' b → F b ∨ w.heap.size ≤ b := by
  cases hg : gokOf ss.length k with
  | true =>
    have h1 := of_decide_eq_true hg
    obtain ⟨m, rfl⟩ := Int.eq_ofNat_of_zero_le (show 0 ≤ k by omega)
    refine (grow_ok F g ss m w h (by omega) (by omega)).mono ?_
    rintro e w' ⟨rfl, ht, F', hd, hF⟩
    refine ⟨by unfold gres; rw [if_pos hg], ht, F', ?_, hF⟩
    unfold gnext
    rw [if_pos hg, Int.toNat_natCast]
    exact hd
  | false =>
    have h1 := of_decide_eq_false hg
    refine (grow_no F g ss k w h hk (by omega)).mono ?_
    rintro e w' ⟨rfl, rfl⟩
    refine ⟨by unfold gres; rw [if_neg (by rw [hg]; simp)], Turn.of_below (Below.refl _ _), F, ?_, fun b hb => .inl hb⟩
    unfold gnext
    rw [if_neg (by rw [hg]; simp)]
    exact h
theorem rgrow_all (F : Nat → Prop) (g : Nat) (ss : List Sec) (k : Int) (w : World) (h : RD w F g ss) (hk : I64 k) :
    Calls Try.prog 38 #[.pointer (some ⟨g, 0, none⟩), .int .i64 k] w fun e w' => e = .returned (.int .i64 (rgres ss.length k)) ∧ Turn F w w' ∧ ∃ F', RD w' F' g (gnext ss k) ∧ ∀ b, F' b → F b ∨ w.heap.size ≤ b := by
  cases hg : gokOf ss.length k with
  | true =>
    have h1 := of_decide_eq_true hg
    obtain ⟨m, rfl⟩ := Int.eq_ofNat_of_zero_le (show 0 ≤ k by omega)
    refine (rgrow_ok F g ss m w h (by omega) (by omega)).mono ?_
    rintro e w' ⟨rfl, ht, F', hd, hF⟩
    refine ⟨by unfold rgres; rw [if_pos hg], ht, F', ?_, hF⟩
    unfold gnext
    rw [if_pos hg, Int.toNat_natCast]
    exact hd
  | false =>
    have h1 := of_decide_eq_false hg
    refine (rgrow_no F g ss k w h hk (by omega)).mono ?_
    rintro e w' ⟨rfl, rfl⟩
    refine ⟨by unfold rgres; rw [if_neg (by rw [hg]; simp)], Turn.of_below (Below.refl _ _), F, ?_, fun b hb => .inl hb⟩
    unfold gnext
    rw [if_neg (by rw [hg]; simp)]
    exact h
theorem is_g (n : Nat) (k : Int) (w : World) : Calls Try.prog 20 #[gres n k, .int .i64 (rgres n k)] w fun e w' => e = .returned (.bool true) ∧ w = w' := by
  unfold gres rgres
  split
  · exact (is_nil 0 w).mono fun e w' h => by simpa using h
  · exact (is_code 20 20 w).mono fun e w' h => by simpa using h

theorem flushed_wait {ss : List Sec} {q : Nat} : ∀ s ∈ flushed ss, s.wait.length ≤ q := fun s hs => by
  obtain ⟨x, _, rfl⟩ := List.mem_map.1 hs
  exact Nat.zero_le _
theorem filled_wait {ss : List Sec} {b : List Int} {q : Nat} : ∀ s ∈ filled ss b, s.wait.length ≤ q := fun s hs => by
  obtain ⟨x, _, rfl⟩ := List.mem_map.1 hs
  exact Nat.zero_le _
theorem crashL_wait (q : Nat) : ∀ (is ps : List Int) (ss : List Sec), (∀ s ∈ ss, s.wait.length ≤ q) → ∀ s ∈ crashL is ps ss, s.wait.length ≤ q
  | [], _, _, h => h
  | i :: is, ps, ss, h => by
    rw [crashL]
    refine crashL_wait q is _ _ ?_
    split
    · intro x hx
      rcases List.mem_or_eq_of_mem_set hx with hx | rfl
      · exact h x hx
      · exact Nat.zero_le _
    · exact h
theorem bad_wait {ss : List Sec} {i q : Nat} {s : Sec} {on : Bool} (hs : ss[i]? = some s) (h : ∀ s ∈ ss, s.wait.length ≤ q) : ∀ x ∈ ss.set i { s with bad := on }, x.wait.length ≤ q := fun x hx => by
  rcases List.mem_or_eq_of_mem_set hx with hx | rfl
  · exact h x hx
  · exact h s (List.mem_of_getElem? hs)

end Go.Proofs.Ytpponofbkkikfaa
