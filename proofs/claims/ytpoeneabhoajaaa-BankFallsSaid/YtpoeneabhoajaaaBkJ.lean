/- BankFalls' plain law: a bank armed with N, what each write leaves, what a crash that keeps all leaves. -/
import Derived.Test.YtpoeneabhoajaaaBkI
namespace Go.Proofs.Ytpoeneabhoajaaa
open Go.RowKit

/-- What the law holds against a sector. -/
def lb (x : Sec) : List Int × Bool := (x.last, x.bad)
theorem crashS_last (x : Sec) (h : x.wait.length ≤ 1000) : lb (crashS 1000 x) = lb x := by
  unfold lb crashS
  rcases x with ⟨g, l, b⟩
  simp only at h ⊢
  rw [if_pos (by omega)]
  refine Prod.ext ?_ rfl
  show (l[(min 1000 (l.length : Int)).toNat - 1]?.getD g) = (l.getLast?.getD g)
  rw [show (min 1000 (l.length : Int)).toNat = l.length by omega, List.getLast?_eq_getElem?]
theorem crashL_last : ∀ (is ps : List Int) (ss : List Sec), (∀ t, t < is.length → ps[t]? = some 1000) → (∀ x ∈ ss, x.wait.length ≤ 1000) → (crashL is ps ss).map lb = ss.map lb
  | [], _, _, _, _ => rfl
  | i :: is, ps, ss, hp, hw => by
    rw [crashL]
    have h0 : ps[0]?.getD 0 = 1000 := by rw [hp 0 (by simp)]; rfl
    have hp' : ∀ t, t < is.length → (ps.drop 1)[t]? = some 1000 := fun t ht => by rw [List.getElem?_drop, Nat.add_comm]; exact hp (t + 1) (by simpa using ht)
    rw [h0]
    cases hs : ss[i.toNat]? with
    | none => exact crashL_last is _ ss hp' hw
    | some x =>
      simp only
      have hx := List.mem_of_getElem? hs
      rw [crashL_last is _ _ hp' fun y hy => by
        rcases List.mem_or_eq_of_mem_set hy with h | rfl
        · exact hw y h
        · exact Nat.zero_le _]
      rw [List.map_set, crashS_last x (hw x hx)]
      refine List.ext_getElem? fun k => ?_
      by_cases hk : i.toNat = k
      · subst hk
        have hl := (List.getElem?_eq_some_iff.1 hs).1
        rw [List.getElem?_set_self (by simpa using hl), List.getElem?_map, hs]
        rfl
      · rw [List.getElem?_set_ne hk]
theorem crashed_last (ss : List Sec) (m : Nat) (hm : (pend ss).length ≤ m) (hw : ∀ x ∈ ss, x.wait.length ≤ 1000) : (crashed ss ((List.replicate m (1000 : Int)).take (pend ss).length)).map lb = ss.map lb := by
  refine crashL_last _ _ _ (fun t ht => ?_) hw
  rw [List.getElem?_take, if_pos ht, List.getElem?_replicate, if_pos (by omega)]
theorem crashB_last : ∀ (d : List (Option (List Sec))) (m : Nat), 4 * d.length ≤ m → (∀ ss, some ss ∈ d → ss.length ≤ 4 ∧ ∀ x ∈ ss, x.wait.length ≤ 1000) → ∀ (i : Nat) (ss : List Sec), d[i]? = some (some ss) → ∃ ss', (crashB d (List.replicate m 1000))[i]? = some (some ss') ∧ ss'.map lb = ss.map lb
  | [], _, _, _, i, _, h => by simp at h
  | none :: r, m, hm, hs, i, ss, h => by
    rw [crashB]
    cases i with
    | zero => simp at h
    | succ i => exact crashB_last r m (by simp at hm; omega) (fun s1 h1 => hs s1 (by simp [h1])) i ss (by simpa using h)
  | some s0 :: r, m, hm, hs, i, ss, h => by
    rw [crashB]
    obtain ⟨h1, h2⟩ := hs s0 (by simp)
    have hpl : (pend s0).length ≤ 4 := Nat.le_trans (pendN_len s0 _) h1
    simp at hm
    cases i with
    | zero =>
      have h3 : s0 = ss := by simpa using h
      subst h3
      exact ⟨_, rfl, crashed_last s0 m (by omega) h2⟩
    | succ i =>
      rw [List.drop_replicate]
      exact crashB_last r (m - (pend s0).length) (by omega) (fun s1 h1 => hs s1 (by simp [h1])) i ss (by simpa using h)

/-- A bank armed with N behind d writes; HL tells what each sector has. -/
structure FL (N : Int) (q : Nat) (d : Int) (s : Bst) (HL : Nat → Nat → List Int) : Prop where
  ar : s.armed = true
  n0 : 0 ≤ N
  dn : s.done = d
  d0 : 0 ≤ d
  d1 : d ≤ q
  or : (s.down = false ∧ s.left = N - d ∧ d ≤ N) ∨ (s.down = true ∧ d = N)
  ln : s.ds.length = 3
  ds : ∀ i : Nat, i < 3 → ∃ ss : List Sec, s.ds[i]? = some (some ss) ∧ ss.length = 4 ∧ (∀ k : Nat, k < 4 → (ss.map lb)[k]? = some (HL i k, false)) ∧ ∀ x ∈ ss, x.wait.length ≤ q
def upd (HL : Nat → Nat → List Int) (i k : Nat) (l : List Int) : Nat → Nat → List Int := fun a b => if a = i ∧ b = k then l else HL a b
theorem FL.few {N : Int} {q : Nat} {d : Int} {s : Bst} {HL : Nat → Nat → List Int} (h : FL N q d s HL) : s.few q := fun j ss hj => by
  have hl := (List.getElem?_eq_some_iff.1 hj).1
  obtain ⟨ss', h1, _, _, h4⟩ := h.ds j (by rw [← h.ln]; exact hl)
  rw [hj] at h1
  injection h1 with h1
  injection h1 with h1
  rw [h1]
  exact h4
theorem FL.start {N : Int} (hN : 0 ≤ N) : FL N 0 0 { bstK 3 with armed := decide (0 ≤ N), left := N } fun _ _ => zeros :=
  ⟨decide_eq_true hN, hN, rfl, Int.le_refl _, Int.le_refl _, .inl ⟨rfl, by simp, hN⟩, rfl, fun i hi => by
    refine ⟨List.replicate 4 sec0, ?_, rfl, fun k hk => ?_, fun x hx => ?_⟩
    · obtain rfl | rfl | rfl : i = 0 ∨ i = 1 ∨ i = 2 := by omega
      all_goals rfl
    · obtain rfl | rfl | rfl | rfl : k = 0 ∨ k = 1 ∨ k = 2 ∨ k = 3 := by omega
      all_goals rfl
    · rw [List.eq_of_mem_replicate hx]; exact Nat.zero_le _⟩
theorem FL.more {N : Int} {q : Nat} {d : Int} {s : Bst} {HL : Nat → Nat → List Int} (h : FL N q d s HL) : FL N (q + 1) d s HL :=
  ⟨h.ar, h.n0, h.dn, h.d0, by have := h.d1; omega, h.or, h.ln, fun i hi => by
    obtain ⟨ss, h1, h2, h3, h4⟩ := h.ds i hi
    exact ⟨ss, h1, h2, h3, fun x hx => by have := h4 x hx; omega⟩⟩
theorem FL.dev {N : Int} {q : Nat} {d : Int} {s : Bst} {HL : Nat → Nat → List Int} (h : FL N q d s HL) {i k : Nat} (hi : i < 3) (hk : k < 4) : ∃ ss : List Sec, s.ds[i]? = some (some ss) ∧ ss.length = 4 ∧ s.devE i = 0 ∧ s.sec i = ss ∧ hasOf (s.sec i).length k = true := by
  obtain ⟨ss, h1, h2, _, _⟩ := h.ds i hi
  obtain ⟨e1, e2⟩ := dev_ok h1
  exact ⟨ss, h1, h2, e1, e2, by rw [e2]; exact decide_eq_true ⟨by omega, by omega⟩⟩
/-- A write while there is some power left. -/
theorem FL.write {N : Int} {q : Nat} {d : Int} {s : Bst} {HL : Nat → Nat → List Int} (h : FL N q d s HL) {i k : Nat} (hi : i < 3) (hk : k < 4) {l : List Int} (hl : l.length = 128) (hd : d < N) :
    s.wrE i k 128 = 0 ∧ (s.wrote i k l).down = false ∧ FL N (q + 1) (d + 1) (s.wrote i k l) (upd HL i k l) := by
  obtain ⟨ss, h1, h2, h3, h4, h5⟩ := h.dev hi hk
  rcases h.or with ⟨e1, e2, e3⟩ | ⟨e1, e2⟩
  case inr => omega
  have hlv : s.liveE i = 0 := by unfold Bst.liveE; rw [if_neg (by rw [e1]; simp)]; exact h3
  obtain ⟨cb, ce⟩ := counted_on h.ar (by omega)
  have hw : s.wrote i k l = { s with left := s.left - 1, done := s.done + 1, ds := s.ds.set i (some (wnext ss k l)) } := by
    unfold Bst.wrote
    rw [if_neg (by rw [hlv, h5, hl]; simp), if_neg (by rw [ce]; simp), cb, h4, Int.toNat_natCast]
  have hwr : s.wrE i k 128 = 0 := by unfold Bst.wrE; rw [if_neg (by rw [hlv]; simp), if_neg (by rw [h5]; simp), if_neg (by simp)]; exact ce
  refine ⟨hwr, by rw [hw]; exact e1, ?_⟩
  rw [hw]
  obtain ⟨x, hx⟩ : ∃ x, ss[k]? = some x := ⟨_, List.getElem?_eq_getElem (by omega)⟩
  have hn : wnext ss k l = ss.set k { x with wait := x.wait ++ [l] } := by
    unfold wnext
    rw [if_pos ⟨by rw [← h4]; exact h5, hl⟩, Int.toNat_natCast, hx]
  obtain ⟨ss', g1, _, g3, g4⟩ := h.ds i hi
  rw [h1] at g1
  injection g1 with g1
  injection g1 with g1
  subst g1
  refine ⟨h.ar, h.n0, by simp only; rw [h.dn], by have := h.d0; omega, by have := h.d1; omega, .inl ⟨e1, by simp only; omega, by omega⟩, by simp only; rw [List.length_set]; exact h.ln, fun j hj => ?_⟩
  by_cases hij : i = j
  · subst hij
    refine ⟨_, by simp only; exact List.getElem?_set_self (by rw [h.ln]; exact hi), by rw [hn, List.length_set]; exact h2, fun m hm => ?_, fun y hy => ?_⟩
    · rw [hn, List.map_set]
      by_cases hkm : k = m
      · subst hkm
        rw [List.getElem?_set_self (by rw [List.length_map]; omega)]
        have hb : x.bad = false := by
          have := g3 k hk
          rw [List.getElem?_map, hx] at this
          injection this with this
          exact (Prod.ext_iff.1 this).2
        unfold upd lb
        rw [if_pos ⟨rfl, rfl⟩]
        simp [Sec.last, hb]
      · rw [List.getElem?_set_ne hkm, g3 m hm]
        unfold upd
        rw [if_neg (fun e => hkm e.2.symm)]
    · rw [hn] at hy
      rcases List.mem_or_eq_of_mem_set hy with hy | rfl
      · have := g4 y hy; omega
      · have := g4 x (List.mem_of_getElem? hx); simp; exact this
  · obtain ⟨s1, k1, k2, k3, k4⟩ := h.ds j hj
    refine ⟨s1, by simp only; rw [List.getElem?_set_ne hij]; exact k1, k2, fun m hm => ?_, fun y hy => by have := k4 y hy; omega⟩
    rw [k3 m hm]
    unfold upd
    rw [if_neg (fun e => hij e.1.symm)]
/-- A write when there is none. -/
theorem FL.fall {N : Int} {q : Nat} {d : Int} {s : Bst} {HL : Nat → Nat → List Int} (h : FL N q d s HL) {i k : Nat} (hi : i < 3) (hk : k < 4) {l : List Int} (hl : l.length = 128) (hd : N ≤ d) :
    s.wrE i k 128 = 22 ∧ (s.wrote i k l).down = true ∧ FL N (q + 1) d (s.wrote i k l) HL := by
  obtain ⟨ss, h1, h2, h3, h4, h5⟩ := h.dev hi hk
  rcases h.or with ⟨e1, e2, e3⟩ | ⟨e1, e2⟩
  · have hlv : s.liveE i = 0 := by unfold Bst.liveE; rw [if_neg (by rw [e1]; simp)]; exact h3
    obtain ⟨cb, ce⟩ := counted_end h.ar (by omega)
    have hw : s.wrote i k l = { s with down := true } := by
      unfold Bst.wrote
      rw [if_neg (by rw [hlv, h5, hl]; simp), if_pos (by rw [ce]; simp), cb]
    have hwr : s.wrE i k 128 = 22 := by unfold Bst.wrE; rw [if_neg (by rw [hlv]; simp), if_neg (by rw [h5]; simp), if_neg (by simp)]; exact ce
    have hm := h.more
    refine ⟨hwr, by rw [hw], ?_⟩
    rw [hw]
    exact ⟨hm.ar, hm.n0, hm.dn, hm.d0, hm.d1, .inr ⟨rfl, by omega⟩, hm.ln, hm.ds⟩
  · have hlv : s.liveE i = 22 := if_pos e1
    have hw : s.wrote i k l = s := by unfold Bst.wrote; rw [if_pos (.inl (by rw [hlv]; simp))]
    refine ⟨by unfold Bst.wrE; rw [if_pos (by rw [hlv]; simp)]; exact hlv, by rw [hw]; exact e1, ?_⟩
    rw [hw]
    exact h.more
/-- Behind a crash that keeps all. -/
theorem FL.crash {N : Int} {q : Nat} {d : Int} {s : Bst} {HL : Nat → Nat → List Int} (h : FL N q d s HL) (hq : q ≤ 1000) {i k : Nat} (hi : i < 3) (hk : k < 4) :
    (s.crashedB (List.replicate 12 1000)).rdE i k = 0 ∧ (s.crashedB (List.replicate 12 1000)).rdL i k = HL i k := by
  obtain ⟨ss, h1, h2, h3, h4⟩ := h.ds i hi
  obtain ⟨ss', g1, g2⟩ := crashB_last s.ds 12 (by rw [h.ln]; omega) (fun s1 hs1 => by
    obtain ⟨j, hj, e⟩ := List.getElem_of_mem hs1
    have hj' : s.ds[j]? = some (some s1) := by rw [List.getElem?_eq_getElem hj, e]
    obtain ⟨s2, k1, k2, _, k4⟩ := h.ds j (by rw [← h.ln]; exact hj)
    rw [hj'] at k1
    injection k1 with k1
    injection k1 with k1
    subst k1
    exact ⟨by omega, fun x hx => by have := k4 x hx; omega⟩) i ss h1
  obtain ⟨e1, e2⟩ := dev_ok (s := s.crashedB (List.replicate 12 1000)) g1
  have hlv : (s.crashedB (List.replicate 12 1000)).liveE i = 0 := by unfold Bst.liveE; rw [if_neg (by simp [Bst.crashedB])]; exact e1
  have hk' := h3 k hk
  rw [← g2, List.getElem?_map] at hk'
  obtain ⟨x, hx, hxe⟩ := Option.map_eq_some_iff.1 hk'
  obtain ⟨r1, r2, _⟩ := rd_ok hx (Prod.ext_iff.1 hxe).2
  refine ⟨?_, ?_⟩
  · unfold Bst.rdE; rw [if_neg (by rw [hlv]; simp), e2]; exact r2
  · unfold Bst.rdL; rw [if_neg (by rw [hlv]; simp), e2, r1]; exact (Prod.ext_iff.1 hxe).1

end Go.Proofs.Ytpoeneabhoajaaa
