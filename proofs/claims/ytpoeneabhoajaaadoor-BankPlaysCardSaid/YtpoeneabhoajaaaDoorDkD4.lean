/- One sector turns: Disk.Bad, Disk.Write by contract. -/
import Derived.Test.YtpoeneabhoajaaaDoorDkC4
import Derived.Deep.RegionLaw
namespace Go.Proofs.YtpoeneabhoajaaaDoor
open Go.RowKit

section
variable {w w' : World} {F F' M : Nat → Prop} {g : Nat} {A : Option Addr} {n c : Nat} {ps : List Nat} {qs : List (Option Nat)} {ss : List Sec}
/-- What the blocks of one sector are. -/
theorem DKr.kinds (h : DKr w F g A n c ps qs ss) {i p : Nat} (hp : ps[i]? = some p) {b : Nat} (hb : b = p ∨ qs[i]? = some (some b)) :
    (∀ cur fr, w.heap[b]? ≠ some (.cells cur 5 fr)) ∧ b ≠ g ∧ (Value.slice A n c).ownBlock ≠ some b ∧ (b ∈ ps → b = p) ∧ (some b ∈ qs → qs[i]? = some (some b)) := by
  have hrow : ∀ r, (Value.slice A n c).ownBlock = some r → ∃ cur, w.heap[r]? = some (.cells cur 112 (0, 0)) := fun r hr => own_type h.row hr
  rcases hb with rfl | hb
  · obtain ⟨_, cs, h1⟩ := h.sr.fp b (List.mem_of_getElem? hp)
    refine ⟨fun cur fr hh => (by rw [h1] at hh; simp at hh), fun e => ?_, fun e => ?_, fun _ => rfl, fun hq => ?_⟩
    · subst e
      have := h.blk
      rw [h1] at this
      simp at this
    · obtain ⟨cur, h2⟩ := hrow b e
      rw [h1] at h2
      simp at h2
    · obtain ⟨_, cs', h2⟩ := h.sr.fq b hq
      rw [h1] at h2
      simp at h2
  · obtain ⟨_, cs, h1⟩ := h.sr.fq b (List.mem_of_getElem? hb)
    refine ⟨fun cur fr hh => (by rw [h1] at hh; simp at hh), fun e => ?_, fun e => ?_, fun hp' => ?_, fun _ => hb⟩
    · subst e
      have := h.blk
      rw [h1] at this
      simp at this
    · obtain ⟨cur, h2⟩ := hrow b e
      rw [h1] at h2
      simp at h2
    · obtain ⟨_, cs', h2⟩ := h.sr.fp b hp'
      rw [h1] at h2
      simp at h2
/-- One sector turns. -/
theorem DKr.set (h : DKr w F g A n c ps qs ss) {i p : Nat} {q' : Option Nat} {s' : Sec} (hp : ps[i]? = some p) (hs : SecOk w' F' p q' s') (hk : ∀ b, F b → ¬ M b → w'.heap[b]? = w.heap[b]?) (hM : ∀ b, M b → b = p ∨ qs[i]? = some (some b))
    (hF : ∀ b, F b → F' b) (hq' : ∀ k, q' = some k → F k → qs[i]? = some (some k)) (hlt : ∀ b, F' b → b < w'.heap.size) : DKr w' F' g A n c ps (qs.set i q') (ss.set i s') := by
  refine ⟨(hk g h.fg fun hm => (h.kinds hp (hM g hm)).2.1 rfl).trans h.blk, ⟨h.row.1, ?_⟩, h.sr.set hp hs hk (fun b cur fr hm => (h.kinds hp (hM b hm)).1 cur fr) (fun b hm hb => (h.kinds hp (hM b hm)).2.2.2.1 hb) (fun b hm hb => (h.kinds hp (hM b hm)).2.2.2.2 hb) hF fun k e hk' => hq' k e (h.sr.fq k hk').1, hF g h.fg, fun r hr => hF r (h.fr r hr), hlt, h.nl⟩
  rcases h.row.2 with h0 | ⟨r, cap, cur, h1, h2, h3, h4⟩
  · exact .inl h0
  · have hr : (Value.slice A n c).ownBlock = some r := by rw [h1]; rfl
    exact .inr ⟨r, cap, cur, h1, h2, (hk r (h.fr r hr) fun hm => (h.kinds hp (hM r hm)).2.2.1 hr).trans h3, h4⟩
end

set_option maxRecDepth 20000 in
theorem bad_no (F : Nat → Prop) (g : Nat) (ss : List Sec) (i : Int) (on : Bool) (w : World) (h : DK w F g ss) (hi : I64 i) (hh : hasOf ss.length i = false) :
    Calls Tryd.prog 68 #[.pointer (some ⟨g, 0, none⟩), .int .i64 i, .bool on] w fun e w' => e = .returned (.iface 54 (.int .i64 20)) ∧ w = w' := by
  have H := mkHid (has_any F g ss i w h hi)
  rw [hh] at H
  clear h hi hh
  go_enter Tryd.func68, Tryd.ntmps68
  go_wp2_with fail
  refine H.out.mono ?_
  rintro e w1 ⟨rfl, rfl⟩
  go_wp2_with fail
  go_ret
  exact ⟨rfl, rfl⟩

set_option maxRecDepth 20000 in
theorem bad_ok (F : Nat → Prop) (g : Nat) (ss : List Sec) (i : Nat) (s : Sec) (on : Bool) (w : World) (h : DK w F g ss) (hs : ss[i]? = some s) :
    Calls Tryd.prog 68 #[.pointer (some ⟨g, 0, none⟩), .int .i64 i, .bool on] w fun e w' => e = .returned .nilIface ∧ Turn F w w' ∧ DK w' F g (ss.set i { s with bad := on }) := by
  have hil := (List.getElem?_eq_some_iff.1 hs).1
  have hnl := h.nl
  have H := mkHid (has_any F g ss i w h ⟨by omega, by omega⟩)
  rw [show hasOf ss.length (i : Int) = true from decide_eq_true ⟨by omega, by omega⟩] at H
  obtain ⟨A, n, c, ps, qs, h⟩ := h
  have hlen := h.len
  obtain ⟨r, p, q, s', rfl, hp, hp1, hq1, hs', ho⟩ := h.at_ (j := i) (by omega)
  rw [hs] at hs'
  injection hs' with hs'
  subst hs'
  obtain ⟨hc1, hc2⟩ := own_cap h.row
  have c0 := cell_of_row w g 0 _ _ _ h.blk
  simp at c0
  have HD := mkHid h
  obtain ⟨ga, gc, wa, wn, wc, vs, h1, h2, h3, h4, h5, h6, h7, h8, h9, h10⟩ := ho
  obtain ⟨_, _, d2⟩ := facts3 h1
  have f2 := frozen_of_row w p 2 _ _ h1
  have hM := h.kinds hp1 (.inl rfl)
  have hfin : Turn F w (w.setCell ⟨p, 2, none⟩ (.bool on)) ∧ DK (w.setCell ⟨p, 2, none⟩ (.bool on)) F g (ss.set i { s with bad := on }) := by
    have hk : ∀ b, b ≠ p → (w.setCell ⟨p, 2, none⟩ (.bool on)).heap[b]? = w.heap[b]? := fun b hb => heap_setCell_other _ _ _ _ hb
    have hM2 : ∀ b cur fr, b = p → w.heap[b]? ≠ some (.cells cur 5 fr) := fun b cur fr e => by rw [e]; exact hM.1 cur fr
    refine ⟨⟨rfl, rfl, rfl, by simp [World.setCell], fun k _ hf => hk k fun e => hf (e ▸ h2)⟩, _, n, c, ps, _, h.set (M := fun b => b = p) hp1 (q' := q) ⟨ga, gc, wa, wn, wc, vs, heap_setCell_same _ _ _ _ _ _ h1, h2, h3, h4.keepX (M := fun b => b = p) (fun b _ hb => hk b hb) hM2 fun b hb => hb, ⟨h5.1, ?_⟩, h6, h7, h8, h9, fun j l hl => ?_⟩ (fun b _ hb => hk b hb) (fun b hb => .inl hb) (fun b hb => hb) (fun k e _ => by rw [hq1, e]) fun b hb => by simp [World.setCell]; exact h.lt b hb⟩
    · rcases h5.2 with h0 | ⟨r', cap, cur, e1, e2, e3, e4⟩
      · exact .inl h0
      · exact .inr ⟨r', cap, cur, e1, e2, (hk r' fun e => by rw [e, h1] at e3; simp at e3).trans e3, e4⟩
    · obtain ⟨a, c', k1, k2, k3⟩ := h10 j l hl
      exact ⟨a, c', k1, k2, k3.keepX (M := fun b => b = p) (fun b _ hb => hk b hb) hM2 fun b hb => hb⟩
  have HF := mkHid hfin
  rw [hlen] at hil
  clear h h1 h2 h3 h4 h5 h6 h7 h8 h9 h10 hs hlen hfin hM
  go_enter Tryd.func68, Tryd.ntmps68
  go_wp2_with fail
  refine H.out.mono ?_
  rintro e w1 ⟨rfl, rfl⟩
  go_wp2_with fail
  go_ret
  exact ⟨rfl, HF.out⟩

set_option maxRecDepth 20000 in
theorem write_no (F : Nat → Prop) (g : Nat) (ss : List Sec) (i : Int) (a : Option Addr) (m c : Nat) (w : World) (h : DK w F g ss) (hi : I64 i) (hh : hasOf ss.length i = false) :
    Calls Tryd.prog 79 #[.pointer (some ⟨g, 0, none⟩), .int .i64 i, .slice a m c] w fun e w' => e = .returned (.iface 54 (.int .i64 20)) ∧ w = w' := by
  have H := mkHid (has_any F g ss i w h hi)
  rw [hh] at H
  clear h hi hh
  go_enter Tryd.func79, Tryd.ntmps79
  go_wp2_with fail
  refine H.out.mono ?_
  rintro e w1 ⟨rfl, rfl⟩
  go_wp2_with fail
  go_ret
  exact ⟨rfl, rfl⟩

set_option maxRecDepth 20000 in
theorem write_size (F : Nat → Prop) (g : Nat) (ss : List Sec) (i : Int) (a : Option Addr) (m c : Nat) (w : World) (h : DK w F g ss) (hi : I64 i) (hh : hasOf ss.length i = true) (hm : m ≠ 128) :
    Calls Tryd.prog 79 #[.pointer (some ⟨g, 0, none⟩), .int .i64 i, .slice a m c] w fun e w' => e = .returned (.iface 54 (.int .i64 11)) ∧ w = w' := by
  have H := mkHid (has_any F g ss i w h hi)
  rw [hh] at H
  have hmb : ((m : Int) != 128) = true := by simp; omega
  clear h hi hh
  go_enter Tryd.func79, Tryd.ntmps79
  go_wp2_with fail
  refine H.out.mono ?_
  rintro e w1 ⟨rfl, rfl⟩
  go_wp2_with fail
  go_ret
  exact ⟨rfl, rfl⟩

/-- A sector's state behind a write. -/
theorem DKr.wrote {w w2 w3 : World} {F : Nat → Prop} {g : Nat} {A : Option Addr} {n c : Nat} {ps : List Nat} {qs : List (Option Nat)} {ss : List Sec} (h : DKr w F g A n c ps qs ss) {i p : Nat} {q : Option Nat} {s : Sec} (hp1 : ps[i]? = some p) (hq1 : qs[i]? = some q) (hfp : F p)
    {ga : Option Addr} {gc : Nat} {wa : Option Addr} {wn wc : Nat} {vs : List Value} {CA : Option Addr} {cc : Nat} {l : List Int} {A' : Option Addr} {c' : Nat}
    (h1 : w.heap[p]? = some (.cells #[.slice ga 128 gc, .slice wa wn wc, .bool s.bad] 114 (0, 0))) (h3 : 128 ≤ gc ∧ gc ≤ maxLen) (h4 : GB w F ga s.good) (h5 : w.ownsRow 0 37 1 (.slice wa wn wc) wn vs) (h6 : q = (Value.slice wa wn wc).ownBlock)
    (h7 : ∀ k, q = some k → F k) (h8 : s.wait.length = wn) (h9 : wn < 1000000) (h10 : ∀ (j : Nat) (l : List Int), s.wait[j]? = some l → ∃ (a : Option Addr) (c : Nat), vs[j]? = some (Value.slice a 128 c) ∧ (128 ≤ c ∧ c ≤ maxLen) ∧ GB w F a l)
    (hb2 : Below w.heap.size w w2) (hcl : w2.ownsRow w.heap.size 5 1 (.slice CA 128 cc) 128 (l.map u8)) (hok : okBytes l) {o : Obj} (ho3 : w3.ownsRow 0 37 1 (.slice A' (wn + 1) c') (wn + 1) (vs ++ [.slice CA 128 cc]))
    (hg3 : (w2.alloc o).grownBy w3 (Value.slice wa wn wc).ownBlock) (hat : (Value.slice A' (wn + 1) c').ownBlock = (Value.slice wa wn wc).ownBlock ∨ (Value.slice A' (wn + 1) c').ownBlock = some (w2.alloc o).heap.size) :
    Turn F w (w3.setCell ⟨p, 1, none⟩ (.slice A' (wn + 1) c')) ∧ ∃ F', DK (w3.setCell ⟨p, 1, none⟩ (.slice A' (wn + 1) c')) F' g (ss.set i { s with wait := s.wait ++ [l] }) ∧ ∀ b, F' b → F b ∨ w.heap.size ≤ b := by
  have s2 := hb2.size
  have s3 : w2.heap.size + 1 ≤ w3.heap.size := by have := hg3.size; simpa using this
  have s4 : (w3.setCell ⟨p, 1, none⟩ (.slice A' (wn + 1) c')).heap.size = w3.heap.size := by simp [World.setCell]
  have hplt := h.lt p hfp
  have hqlt : ∀ b, (Value.slice wa wn wc).ownBlock = some b → b < w.heap.size := fun b hb => h.lt b (h7 b (by rw [h6]; exact hb))
  have hpq : (Value.slice wa wn wc).ownBlock ≠ some p := fun e => by
    obtain ⟨cur, h'⟩ := own_type h5 e
    rw [h1] at h'
    simp at h'
  have keep2 : ∀ b, b < w2.heap.size → b ≠ p → some b ≠ (Value.slice wa wn wc).ownBlock → (w3.setCell ⟨p, 1, none⟩ (.slice A' (wn + 1) c')).heap[b]? = w2.heap[b]? := fun b hb hne hno =>
    (heap_setCell_other _ _ _ _ hne).trans ((hg3.block b (by simp; omega) hno).trans (Below.heap_alloc _ _ _ hb))
  have keep : ∀ b, b < w.heap.size → ¬ (b = p ∨ (Value.slice wa wn wc).ownBlock = some b) → (w3.setCell ⟨p, 1, none⟩ (.slice A' (wn + 1) c')).heap[b]? = w.heap[b]? := fun b hb hno =>
    (keep2 b (by omega) (fun e => hno (.inl e)) (fun e => hno (.inr e.symm))).trans (hb2.block b hb)
  have hblk : w3.heap[p]? = some (.cells #[.slice ga 128 gc, .slice wa wn wc, .bool s.bad] 114 (0, 0)) := ((hg3.block p (by simp; omega) (fun e => hpq e.symm)).trans ((Below.heap_alloc _ _ _ (by omega)).trans (hb2.block p hplt))).trans h1
  have hM : ∀ b, (b = p ∨ (Value.slice wa wn wc).ownBlock = some b) → b = p ∨ qs[i]? = some (some b) := fun b hb => hb.imp id fun e => by rw [hq1, h6, e]
  have hM2 : ∀ b cur fr, (b = p ∨ (Value.slice wa wn wc).ownBlock = some b) → w.heap[b]? ≠ some (.cells cur 5 fr) := fun b cur fr hb => (h.kinds hp1 (hM b hb)).1 cur fr
  refine ⟨⟨(hg3.os.trans hb2.os), (hg3.tape.trans hb2.tape), (hg3.output.trans hb2.output), by omega, fun k hk hf => keep k hk fun e => hf ?_⟩, fun b => F b ∨ (w.heap.size ≤ b ∧ b < w3.heap.size), ⟨A, n, c, ps, _, h.set (M := fun b => b = p ∨ (Value.slice wa wn wc).ownBlock = some b) hp1 (q' := (Value.slice A' (wn + 1) c').ownBlock) ⟨ga, gc, A', wn + 1, c', vs ++ [.slice CA 128 cc], ?_, .inl hfp, h3, ?_, ⟨ho3.1, ?_⟩, rfl, fun k hk => ?_, by simp [h8], by omega, fun j l' hl => ?_⟩ (fun b hb hm => keep b (h.lt b hb) hm) hM (fun b hb => .inl hb) (fun k hk hf => ?_) (fun b hb => ?_)⟩, fun b hb => hb.imp id fun h => h.1⟩
  · rcases e with e | e
    · exact e ▸ hfp
    · exact h7 k (by rw [h6]; exact e)
  · exact heap_setCell_same _ _ _ _ _ _ hblk
  · exact h4.keepX (M := fun b => b = p ∨ (Value.slice wa wn wc).ownBlock = some b) (fun b hb hm => keep b (h.lt b hb) hm) hM2 fun b hb => .inl hb
  · rcases ho3.2 with h0 | ⟨r', cap, cur, e1, e2, e3, e4⟩
    · exact .inl h0
    · refine .inr ⟨r', cap, cur, e1, e2, (heap_setCell_other _ _ _ _ fun e => ?_).trans e3, e4⟩
      have e : r' = p := e
      rw [e, hblk] at e3
      simp at e3
  · rcases hat with e | e
    · exact .inl (h7 k (by rw [h6, ← e]; exact hk))
    · rw [hk] at e
      injection e with e
      refine .inr ⟨by simp at e; omega, ?_⟩
      exact (ho3.lt k hk).2
  · by_cases hj : j < wn
    · rw [List.getElem?_append_left (by omega)] at hl
      obtain ⟨a, c1, k1, k2, k3⟩ := h10 j l' hl
      have := h5.1
      exact ⟨a, c1, by rw [List.getElem?_append_left (by omega)]; exact k1, k2, k3.keepX (M := fun b => b = p ∨ (Value.slice wa wn wc).ownBlock = some b) (fun b hb hm => keep b (h.lt b hb) hm) hM2 fun b hb => .inl hb⟩
    · have hjl := (List.getElem?_eq_some_iff.1 hl).1
      simp only [List.length_append, List.length_cons, List.length_nil] at hjl
      obtain rfl : j = wn := by omega
      rw [List.getElem?_append_right (by omega), h8, Nat.sub_self] at hl
      injection hl with hl
      subst hl
      have hvl : vs.length = j := by have := h5.1; omega
      have hcap := own_cap hcl
      refine ⟨CA, cc, by rw [List.getElem?_append_right (by omega), hvl, Nat.sub_self]; rfl, hcap, (GB.of_own hcl hok).keepX (M := fun _ => False) (fun b hb _ => ?_) (fun _ _ _ hm => hm.elim) fun b hb => .inr ⟨hb.1, by have := hb.2; omega⟩⟩
      refine keep2 b hb.2 (fun e => ?_) fun e => ?_
      · have := hb.1; omega
      · have := hqlt b e.symm; have := hb.1; omega
  · rcases hat with e | e
    · rw [hq1, h6, ← e, hk]
    · rw [hk] at e
      injection e with e
      have := h.lt k hf
      simp at e
      omega
  · rw [s4]
    rcases hb with hb | hb
    · have := h.lt b hb; omega
    · exact hb.2

end Go.Proofs.YtpoeneabhoajaaaDoor
