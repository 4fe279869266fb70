/- The disk's memory: bytes of a sector, a sector, rows of sectors; what a frame leaves of them. -/
import Derived.Test.YtpoeneabhoajaaaDoorMem
import Derived.Test.YtpoeneabhoajaaaDoorChecked
import Derived.Lib.SlBytesConst
namespace Go.Proofs.YtpoeneabhoajaaaDoor
open Go.RowKit

theorem el_u8 : ElemOk Tryd.prog 37 5 1 1 := .mk' Tryd.underlying37 (z := .int .u8 0) (by kernel_rfl) rfl (by decide)
theorem el_bs : ElemOk Tryd.prog 108 37 1 24 := .mk' Tryd.underlying108 (z := .slice none 0 0) (by kernel_rfl) rfl (by decide)
theorem el_int : ElemOk Tryd.prog 22 3 1 8 := .mk' Tryd.underlying22 (z := .int .i64 0) (by kernel_rfl) rfl (by decide)
theorem el_sec : ElemOk Tryd.prog 89 112 1 8 := .mk' Tryd.underlying89 (z := .pointer none) (by kernel_rfl) rfl (by decide)

/-- A sector: what it holds for good, what waits, is it bad. -/
structure Sec where
  good : List Int
  wait : List (List Int)
  bad : Bool
def Sec.last (s : Sec) : List Int := s.wait.getLast?.getD s.good
def zeros : List Int := List.replicate 128 0
def sec0 : Sec := ⟨zeros, [], false⟩

/-- The slice at a holds the 128 bytes l, in a block of bytes that F tells. -/
def GB (w : World) (F : Nat → Prop) (a : Option Addr) (l : List Int) : Prop :=
  l.length = 128 ∧ okBytes l ∧ ∃ b o cur fr, a = some ⟨b, o, none⟩ ∧ F b ∧ w.heap[b]? = some (.cells cur 5 fr) ∧ ∀ j, j < 128 → cur[o + j]? = some (.int .u8 (l[j]?.getD 0))
section
variable {w w' : World} {F F' M : Nat → Prop} {a : Option Addr} {l : List Int}
theorem GB.keepX (h : GB w F a l) (hk : ∀ b, F b → ¬ M b → w'.heap[b]? = w.heap[b]?) (hM : ∀ b cur fr, M b → w.heap[b]? ≠ some (.cells cur 5 fr)) (hF : ∀ b, F b → F' b) : GB w' F' a l := by
  obtain ⟨h1, h2, b, o, cur, fr, ha, hb, hh, hc⟩ := h
  exact ⟨h1, h2, b, o, cur, fr, ha, hF b hb, (hk b hb fun hm => hM b cur fr hm hh).trans hh, hc⟩
theorem GB.keep (h : GB w F a l) (hk : ∀ b, F b → w'.heap[b]? = w.heap[b]?) (hF : ∀ b, F b → F' b) : GB w' F' a l := h.keepX (M := fun _ => False) (fun b hb _ => hk b hb) (fun _ _ _ hm => hm.elim) hF
theorem GB.bs (h : GB w F a l) (hF : ∀ b, F b → b < w.heap.size) : BS w w.heap.size a 128 l := by
  obtain ⟨h1, h2, b, o, cur, fr, ha, hb, hh, hc⟩ := h
  refine ⟨⟨by rw [List.length_map, h1], fun j hj => ⟨b, o, ha, hF b hb, ?_⟩⟩, h2⟩
  rw [cell_of_row _ _ _ _ _ _ hh, hc j (by omega), List.getElem?_map, List.getElem?_eq_getElem (by omega)]
  rfl
theorem GB.of_own {base c : Nat} {A : Option Addr} (h : w.ownsRow base 5 1 (.slice A 128 c) 128 (l.map u8)) (hl : okBytes l) : GB w (fun b => base ≤ b ∧ b < w.heap.size) A l := by
  have hln : l.length = 128 := by have := h.1; simpa using this
  refine ⟨hln, hl, ?_⟩
  rcases h.2 with ⟨h0, h1⟩ | ⟨g, cap, cur, h1, h2, h3, h4, h5, h6, h7⟩
  · cases h1
  · have ha : A = some ⟨g, 0, none⟩ := by injection h1
    refine ⟨g, 0, cur, (0, 0), ha, ⟨h2, (Array.getElem?_eq_some_iff.1 h3).1⟩, h3, fun j hj => ?_⟩
    have h8 : (cur.toList.take (128 * 1))[j]? = (l.map u8)[j]? := by rw [h7]
    rw [List.getElem?_take, if_pos (by omega), Array.getElem?_toList, List.getElem?_map, List.getElem?_eq_getElem (by omega)] at h8
    rw [Nat.zero_add, h8, List.getElem?_eq_getElem (by omega)]
    rfl
end

/-- Block p is a sector s; its row of what waits lies in block q, if in any; F tells its blocks. -/
def SecOk (w : World) (F : Nat → Prop) (p : Nat) (q : Option Nat) (s : Sec) : Prop :=
  ∃ (ga : Option Addr) (gc : Nat) (wa : Option Addr) (wn wc : Nat) (vs : List Value), w.heap[p]? = some (.cells #[.slice ga 128 gc, .slice wa wn wc, .bool s.bad] 114 (0, 0)) ∧ F p ∧ (128 ≤ gc ∧ gc ≤ maxLen) ∧ GB w F ga s.good ∧
    w.ownsRow 0 37 1 (.slice wa wn wc) wn vs ∧ q = (Value.slice wa wn wc).ownBlock ∧ (∀ k, q = some k → F k) ∧ s.wait.length = wn ∧ wn ≤ 1000000 ∧
    ∀ (i : Nat) (l : List Int), s.wait[i]? = some l → ∃ (a : Option Addr) (c : Nat), vs[i]? = some (Value.slice a 128 c) ∧ (128 ≤ c ∧ c ≤ maxLen) ∧ GB w F a l
section
variable {w w' : World} {F F' M : Nat → Prop} {p : Nat} {q : Option Nat} {s : Sec}
theorem SecOk.keepX (h : SecOk w F p q s) (hk : ∀ b, F b → ¬ M b → w'.heap[b]? = w.heap[b]?) (hM : ∀ b cur fr, M b → w.heap[b]? ≠ some (.cells cur 5 fr)) (hp : ¬ M p) (hq : ∀ k, q = some k → ¬ M k) (hF : ∀ b, F b → F' b) : SecOk w' F' p q s := by
  obtain ⟨ga, gc, wa, wn, wc, vs, h1, h2, h3, h4, h5, h6, h7, h8, h9, h10⟩ := h
  refine ⟨ga, gc, wa, wn, wc, vs, (hk p h2 hp).trans h1, hF p h2, h3, h4.keepX hk hM hF, ⟨h5.1, ?_⟩, h6, fun k hk' => hF k (h7 k hk'), h8, h9, fun i l hl => ?_⟩
  · rcases h5.2 with h0 | ⟨r, cap, cur, e1, e2, e3, e4⟩
    · exact .inl h0
    · have hr : q = some r := by rw [h6, e1]; rfl
      exact .inr ⟨r, cap, cur, e1, e2, (hk r (h7 r hr) (hq r hr)).trans e3, e4⟩
  · obtain ⟨a, c, e1, e2, e3⟩ := h10 i l hl
    exact ⟨a, c, e1, e2, e3.keepX hk hM hF⟩
theorem SecOk.keep (h : SecOk w F p q s) (hk : ∀ b, F b → w'.heap[b]? = w.heap[b]?) (hF : ∀ b, F b → F' b) : SecOk w' F' p q s := h.keepX (M := fun _ => False) (fun b hb _ => hk b hb) (fun _ _ _ hm => hm.elim) (fun hm => hm) (fun _ _ hm => hm) hF
theorem SecOk.fp (h : SecOk w F p q s) : F p := by obtain ⟨_, _, _, _, _, _, _, h2, _⟩ := h; exact h2
theorem SecOk.fq (h : SecOk w F p q s) : ∀ k, q = some k → F k := by obtain ⟨_, _, _, _, _, _, _, _, _, _, _, _, h7, _⟩ := h; exact h7
end

def ptrV (p : Nat) : Value := .pointer (some ⟨p, 0, none⟩)
/-- Sectors ss in the blocks ps, their rows in the blocks qs, all apart. -/
structure SR (w : World) (F : Nat → Prop) (ps : List Nat) (qs : List (Option Nat)) (ss : List Sec) : Prop where
  lp : ps.length = ss.length
  lq : qs.length = ss.length
  ok : ∀ (j : Nat) (p : Nat) (q : Option Nat) (s : Sec), ps[j]? = some p → qs[j]? = some q → ss[j]? = some s → SecOk w F p q s
  np : ∀ (i j : Nat) (p : Nat), ps[i]? = some p → ps[j]? = some p → i = j
  nq : ∀ (i j : Nat) (q : Nat), qs[i]? = some (some q) → qs[j]? = some (some q) → i = j
section
variable {w w' : World} {F F' M : Nat → Prop} {ps : List Nat} {qs : List (Option Nat)} {ss : List Sec}
theorem SR.keepX (h : SR w F ps qs ss) (hk : ∀ b, F b → ¬ M b → w'.heap[b]? = w.heap[b]?) (hM : ∀ b cur fr, M b → w.heap[b]? ≠ some (.cells cur 5 fr)) (hp : ∀ p ∈ ps, ¬ M p) (hq : ∀ k, some k ∈ qs → ¬ M k) (hF : ∀ b, F b → F' b) : SR w' F' ps qs ss :=
  ⟨h.lp, h.lq, fun j p q s h1 h2 h3 => (h.ok j p q s h1 h2 h3).keepX hk hM (hp p (List.mem_of_getElem? h1)) (fun k e => hq k (e ▸ List.mem_of_getElem? h2)) hF, h.np, h.nq⟩
theorem SR.keep (h : SR w F ps qs ss) (hk : ∀ b, F b → w'.heap[b]? = w.heap[b]?) (hF : ∀ b, F b → F' b) : SR w' F' ps qs ss := h.keepX (M := fun _ => False) (fun b hb _ => hk b hb) (fun _ _ _ hm => hm.elim) (fun _ _ hm => hm) (fun _ _ hm => hm) hF
theorem SR.nil : SR w F [] [] [] := ⟨rfl, rfl, fun j p q s h => by simp at h, fun i j p h => by simp at h, fun i j p h => by simp at h⟩
theorem SR.at_ (h : SR w F ps qs ss) {j : Nat} (hj : j < ss.length) : ∃ p q s, ps[j]? = some p ∧ qs[j]? = some q ∧ ss[j]? = some s ∧ SecOk w F p q s := by
  have h1 := List.getElem?_eq_getElem (l := ps) (i := j) (by rw [h.lp]; exact hj)
  have h2 := List.getElem?_eq_getElem (l := qs) (i := j) (by rw [h.lq]; exact hj)
  have h3 := List.getElem?_eq_getElem (l := ss) (i := j) hj
  exact ⟨_, _, _, h1, h2, h3, h.ok j _ _ _ h1 h2 h3⟩
/-- A block of the row is of its sector's kind; no block of bytes is. -/
theorem SR.fp (h : SR w F ps qs ss) : ∀ p ∈ ps, F p ∧ ∃ cs, w.heap[p]? = some (.cells cs 114 (0, 0)) := by
  intro p hp
  obtain ⟨j, hj, rfl⟩ := List.getElem_of_mem hp
  obtain ⟨p', q, s, h1, _, _, h4⟩ := h.at_ (j := j) (by rw [← h.lp]; exact hj)
  rw [List.getElem?_eq_getElem hj] at h1
  injection h1 with h1
  subst h1
  obtain ⟨ga, gc, wa, wn, wc, vs, e1, e2, _⟩ := h4
  exact ⟨e2, _, e1⟩
theorem SR.fq (h : SR w F ps qs ss) : ∀ k, some k ∈ qs → F k ∧ ∃ cs, w.heap[k]? = some (.cells cs 37 (0, 0)) := by
  intro k hk
  obtain ⟨j, hj, e⟩ := List.getElem_of_mem hk
  obtain ⟨p', q, s, _, h2, _, h4⟩ := h.at_ (j := j) (by rw [← h.lq]; exact hj)
  rw [List.getElem?_eq_getElem hj, e] at h2
  injection h2 with h2
  subst h2
  obtain ⟨ga, gc, wa, wn, wc, vs, e1, e2, _, _, e5, e6, e7, _⟩ := h4
  refine ⟨e7 k rfl, ?_⟩
  rcases e5.2 with ⟨h0, _⟩ | ⟨r, cap, cur, a1, a2, a3, _⟩
  · rw [h0] at e6; cases e6
  · rw [a1] at e6
    injection e6 with e6
    exact ⟨cur, e6 ▸ a3⟩
/-- One row behind another one, all of its blocks new. -/
theorem SR.append {ps' : List Nat} {qs' : List (Option Nat)} {ss' : List Sec} (h : SR w F ps qs ss) (k : SR w F ps' qs' ss') (hd : ∀ p ∈ ps, p ∉ ps') (hq : ∀ q, some q ∈ qs → some q ∉ qs') : SR w F (ps ++ ps') (qs ++ qs') (ss ++ ss') := by
  have hlp := h.lp
  have hlq := h.lq
  refine ⟨by simp [h.lp, k.lp], by simp [h.lq, k.lq], fun j p q s h1 h2 h3 => ?_, fun i j p h1 h2 => ?_, fun i j q h1 h2 => ?_⟩
  · by_cases hj : j < ss.length
    · rw [List.getElem?_append_left (by omega)] at h1 h2 h3
      exact h.ok j p q s h1 h2 h3
    · rw [List.getElem?_append_right (by omega)] at h1 h2 h3
      rw [hlp] at h1
      rw [hlq] at h2
      exact k.ok _ p q s h1 h2 h3
  · by_cases hi : i < ps.length <;> by_cases hj : j < ps.length
    · rw [List.getElem?_append_left hi] at h1
      rw [List.getElem?_append_left hj] at h2
      exact h.np i j p h1 h2
    · rw [List.getElem?_append_left hi] at h1
      rw [List.getElem?_append_right (by omega)] at h2
      exact absurd (List.mem_of_getElem? h2) (hd p (List.mem_of_getElem? h1))
    · rw [List.getElem?_append_right (by omega)] at h1
      rw [List.getElem?_append_left hj] at h2
      exact absurd (List.mem_of_getElem? h1) (hd p (List.mem_of_getElem? h2))
    · rw [List.getElem?_append_right (by omega)] at h1 h2
      have := k.np _ _ p h1 h2
      omega
  · by_cases hi : i < qs.length <;> by_cases hj : j < qs.length
    · rw [List.getElem?_append_left hi] at h1
      rw [List.getElem?_append_left hj] at h2
      exact h.nq i j q h1 h2
    · rw [List.getElem?_append_left hi] at h1
      rw [List.getElem?_append_right (by omega)] at h2
      exact absurd (List.mem_of_getElem? h2) (hq q (List.mem_of_getElem? h1))
    · rw [List.getElem?_append_right (by omega)] at h1
      rw [List.getElem?_append_left hj] at h2
      exact absurd (List.mem_of_getElem? h1) (hq q (List.mem_of_getElem? h2))
    · rw [List.getElem?_append_right (by omega)] at h1 h2
      have := k.nq _ _ q h1 h2
      omega
/-- One sector turns. -/
theorem SR.set {i p : Nat} {q' : Option Nat} {s' : Sec} (h : SR w F ps qs ss) (hp : ps[i]? = some p) (hs : SecOk w' F' p q' s') (hk : ∀ b, F b → ¬ M b → w'.heap[b]? = w.heap[b]?) (hM : ∀ b cur fr, M b → w.heap[b]? ≠ some (.cells cur 5 fr))
    (hMp : ∀ b, M b → b ∈ ps → b = p) (hMq : ∀ b, M b → some b ∈ qs → qs[i]? = some (some b)) (hF : ∀ b, F b → F' b) (hq' : ∀ k, q' = some k → some k ∈ qs → qs[i]? = some (some k)) : SR w' F' ps (qs.set i q') (ss.set i s') := by
  have hlp := h.lp
  have hlq := h.lq
  have hil : i < ps.length := (List.getElem?_eq_some_iff.1 hp).1
  refine ⟨by simp [h.lp], by simp [h.lq], fun j p1 q1 s1 h1 h2 h3 => ?_, h.np, fun j k q h1 h2 => ?_⟩
  · by_cases hj : i = j
    · subst hj
      rw [List.getElem?_set_self (by omega)] at h2 h3
      rw [hp] at h1
      injection h1 with h1
      injection h2 with h2
      injection h3 with h3
      subst h1 h2 h3
      exact hs
    · rw [List.getElem?_set_ne hj] at h2 h3
      refine (h.ok j p1 q1 s1 h1 h2 h3).keepX hk hM (fun hm => hj ?_) (fun k e hm => hj ?_) hF
      · have e := hMp p1 hm (List.mem_of_getElem? h1)
        subst e
        exact h.np i j p1 hp h1
      · subst e
        exact h.nq i j k (hMq k hm (List.mem_of_getElem? h2)) h2
  · by_cases hj : i = j
    · by_cases hk' : i = k
      · omega
      · subst hj
        rw [List.getElem?_set_self (by omega)] at h1
        rw [List.getElem?_set_ne hk'] at h2
        injection h1 with h1
        exact h.nq i k q (hq' q h1 (List.mem_of_getElem? h2)) h2
    · by_cases hk' : i = k
      · subst hk'
        rw [List.getElem?_set_self (by omega)] at h2
        rw [List.getElem?_set_ne hj] at h1
        injection h2 with h2
        exact h.nq j i q h1 (hq' q h2 (List.mem_of_getElem? h1))
      · rw [List.getElem?_set_ne hj] at h1
        rw [List.getElem?_set_ne hk'] at h2
        exact h.nq j k q h1 h2
end

end Go.Proofs.YtpoeneabhoajaaaDoor
