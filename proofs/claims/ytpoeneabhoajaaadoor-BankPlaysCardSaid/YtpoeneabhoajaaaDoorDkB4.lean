/- The disk's calls that turn nothing, by contract: has, Size, last, Read, Waiting, Pending; bytes.Clone. -/
import Derived.Test.YtpoeneabhoajaaaDoorDkA
namespace Go.Proofs.YtpoeneabhoajaaaDoor
open Go.RowKit

/-- Block g is a disk of the sectors ss; F tells its blocks. -/
structure DKr (w : World) (F : Nat → Prop) (g : Nat) (A : Option Addr) (n c : Nat) (ps : List Nat) (qs : List (Option Nat)) (ss : List Sec) : Prop where
  blk : w.heap[g]? = some (.cells #[.slice A n c] 92 (0, 0))
  row : w.ownsRow 0 112 1 (.slice A n c) n (ps.map ptrV)
  sr : SR w F ps qs ss
  fg : F g
  fr : ∀ r, (Value.slice A n c).ownBlock = some r → F r
  lt : ∀ b, F b → b < w.heap.size
  nl : n ≤ 4096
def DK (w : World) (F : Nat → Prop) (g : Nat) (ss : List Sec) : Prop := ∃ A n c ps qs, DKr w F g A n c ps qs ss
section
variable {w w' : World} {F : Nat → Prop} {g : Nat} {A : Option Addr} {n c : Nat} {ps : List Nat} {qs : List (Option Nat)} {ss : List Sec}
theorem DKr.lp (h : DKr w F g A n c ps qs ss) : ps.length = n := by have := h.row.1; simpa using this
theorem DKr.len (h : DKr w F g A n c ps qs ss) : ss.length = n := by rw [← h.sr.lp]; exact h.lp
theorem DKr.keep (h : DKr w F g A n c ps qs ss) (hs : w.heap.size ≤ w'.heap.size) (hk : ∀ b, F b → w'.heap[b]? = w.heap[b]?) : DKr w' F g A n c ps qs ss := by
  refine ⟨(hk g h.fg).trans h.blk, ⟨h.row.1, ?_⟩, h.sr.keep hk fun _ hb => hb, h.fg, h.fr, fun b hb => Nat.lt_of_lt_of_le (h.lt b hb) hs, h.nl⟩
  rcases h.row.2 with h0 | ⟨r, cap, cur, h1, h2, h3, h4⟩
  · exact .inl h0
  · exact .inr ⟨r, cap, cur, h1, h2, (hk r (h.fr r (by rw [h1]; rfl))).trans h3, h4⟩
theorem DKr.below (h : DKr w F g A n c ps qs ss) (hb : Below w.heap.size w w') : DKr w' F g A n c ps qs ss := h.keep hb.size fun b hF => hb.block b (h.lt b hF)
theorem DK.keep (h : DK w F g ss) (hs : w.heap.size ≤ w'.heap.size) (hk : ∀ b, F b → w'.heap[b]? = w.heap[b]?) : DK w' F g ss := by
  obtain ⟨A, n, c, ps, qs, h⟩ := h
  exact ⟨A, n, c, ps, qs, h.keep hs hk⟩
theorem DK.below (h : DK w F g ss) (hb : Below w.heap.size w w') : DK w' F g ss := by
  obtain ⟨A, n, c, ps, qs, h⟩ := h
  exact ⟨A, n, c, ps, qs, h.below hb⟩
theorem DK.lt (h : DK w F g ss) : ∀ b, F b → b < w.heap.size := by obtain ⟨A, n, c, ps, qs, h⟩ := h; exact h.lt
theorem DK.glt (h : DK w F g ss) : g < w.heap.size := by obtain ⟨A, n, c, ps, qs, h⟩ := h; exact h.lt g h.fg
theorem DK.nl (h : DK w F g ss) : ss.length ≤ 4096 := by obtain ⟨A, n, c, ps, qs, h⟩ := h; rw [h.len]; exact h.nl
/-- The place of a sector. -/
theorem DKr.at_ (h : DKr w F g A n c ps qs ss) {j : Nat} (hj : j < n) : ∃ r p q s, A = some ⟨r, 0, none⟩ ∧ w.cell? ⟨r, j, none⟩ = some (.pointer (some ⟨p, 0, none⟩)) ∧ ps[j]? = some p ∧ qs[j]? = some q ∧ ss[j]? = some s ∧ SecOk w F p q s := by
  obtain ⟨p, q, s, h1, h2, h3, h4⟩ := h.sr.at_ (j := j) (by rw [h.len]; exact hj)
  obtain ⟨r, cap, hv, _, _⟩ := h.row.form (by omega)
  have ha : A = some ⟨r, 0, none⟩ := by injection hv
  subst ha
  refine ⟨r, p, q, s, rfl, ?_, h1, h2, h3, h4⟩
  have hc := h.row.cells (g := r) rfl j (ptrV p) (by rw [List.getElem?_map, h1]; rfl)
  have e1 : (⟨r, 0, none⟩ : Addr).add j = ⟨r, j, none⟩ := by unfold Addr.add; split <;> simp_all
  rw [e1] at hc
  exact hc
end

/-- A new slice of bytes is answered; what was there is as it was. -/
def RetB (w : World) (l : List Int) (e : Ending) (w' : World) : Prop :=
  ∃ A c, e = .returned (.slice A l.length c) ∧ w'.ownsRow w.heap.size 5 1 (.slice A l.length c) l.length (l.map u8) ∧ Below w.heap.size w w'
theorem clone_any (a : Option Addr) (n c : Nat) (l : List Int) (w : World) (hx : BS w w.heap.size a n l) (hn : n ≤ 140737488355328) :
    Calls Tryd.prog 77 #[.slice a n c] w (RetB w l) := by
  have hq := fun (w : World) (a : Option Addr) (n c n' c' : Nat) => Lib.run_eql_slice_nil (P := Tryd.prog) w 37 5 a n c n' c' Tryd.underlying37
  have hln := hx.len
  rcases a with _ | ad
  · have hn0 : n = 0 := by
      rcases Nat.eq_zero_or_pos n with h0 | h0
      · exact h0
      · obtain ⟨b, o, h, _⟩ := hx.at_ h0
        cases h
    subst hn0
    have hl : l = [] := List.eq_nil_of_length_eq_zero hx.len
    subst hl
    go_enter Tryd.func77, Tryd.ntmps77
    go_wp2_with fail
    go_ret
    exact ⟨none, 0, rfl, World.ownsRow_nil _ _ _ _, Below.refl _ _⟩
  · go_enter Tryd.func77, Tryd.ntmps77
    go_wp2_with (at_builtin; refine wpList_app _ rfl (.tmp 5) (.tmp 6) _ rfl w.heap.size el_u8 (some ⟨w.heap.size, 0, none⟩) 0 0 [] rfl (World.ownsRow_made w #[] 0 (Nat.le_refl _) (Nat.zero_le _) rfl) w.heap.size (some ad) n c _ rfl (hx.1.alloc (Nat.le_refl _) _) (u8_cells _) (by unfold maxLen; omega) (by omega) (by simp) ?_; intro A' c' w1 hown hg hat)
    go_ret
    simp only [Nat.zero_add, List.nil_append] at hown ⊢
    subst hln
    exact ⟨A', c', rfl, hown, ((Below.refl _ _).alloc (Nat.le_refl _) _).grown hg (by simp) (fun k hk => by simp [Value.ownBlock] at hk; omega)⟩

/-- Is there such a sector? -/
def hasOf (n : Nat) (i : Int) : Bool := decide (0 ≤ i ∧ i < n)
theorem has_any (F : Nat → Prop) (g : Nat) (ss : List Sec) (i : Int) (w : World) (h : DK w F g ss) (hi : I64 i) :
    Calls Tryd.prog 76 #[.pointer (some ⟨g, 0, none⟩), .int .i64 i] w fun e w' => e = .returned (.bool (hasOf ss.length i)) ∧ w = w' := by
  obtain ⟨A, n, c, ps, qs, h⟩ := h
  rw [h.len]
  have c0 := cell_of_row w g 0 _ _ _ h.blk
  have hnl := h.nl
  simp at c0
  obtain ⟨i0, i1⟩ := hi
  clear h
  by_cases h1 : 0 ≤ i
  · by_cases h2 : i < n
    · rw [show hasOf n i = true from decide_eq_true ⟨h1, h2⟩]
      go_enter Tryd.func76, Tryd.ntmps76
      go_wp2_with fail
      go_ret
      exact ⟨rfl, rfl⟩
    · rw [show hasOf n i = false from decide_eq_false fun h => h2 h.2]
      go_enter Tryd.func76, Tryd.ntmps76
      go_wp2_with fail
      go_ret
      exact ⟨rfl, rfl⟩
  · rw [show hasOf n i = false from decide_eq_false fun h => h1 h.1]
    go_enter Tryd.func76, Tryd.ntmps76
    go_wp2_with fail
    go_ret
    exact ⟨rfl, rfl⟩

theorem size_any (F : Nat → Prop) (g : Nat) (ss : List Sec) (w : World) (h : DK w F g ss) :
    Calls Tryd.prog 21 #[.pointer (some ⟨g, 0, none⟩)] w fun e w' => e = .returned (.int .i64 ss.length) ∧ w = w' := by
  obtain ⟨A, n, c, ps, qs, h⟩ := h
  rw [h.len]
  have c0 := cell_of_row w g 0 _ _ _ h.blk
  have hnl := h.nl
  simp at c0
  clear h
  go_enter Tryd.func21, Tryd.ntmps21
  go_wp2_with fail
  go_ret
  exact ⟨rfl, rfl⟩

/-- A sector's cells. -/
theorem facts3 {w : World} {g : Nat} {v0 v1 v2 : Value} {t : TypeId} (h : w.heap[g]? = some (.cells #[v0, v1, v2] t (0, 0))) :
    w.cell? ⟨g, 0, none⟩ = some v0 ∧ w.cell? ⟨g, 1, none⟩ = some v1 ∧ w.cell? ⟨g, 2, none⟩ = some v2 :=
  ⟨cell_of_row w g 0 _ _ _ h, cell_of_row w g 1 _ _ _ h, cell_of_row w g 2 _ _ _ h⟩

theorem last_any (F : Nat → Prop) (p : Nat) (q : Option Nat) (s : Sec) (w : World) (h : SecOk w F p q s) :
    Calls Tryd.prog 78 #[.pointer (some ⟨p, 0, none⟩)] w fun e w' => ∃ a c, e = .returned (.slice a 128 c) ∧ (128 ≤ c ∧ c ≤ maxLen) ∧ GB w F a s.last ∧ w = w' := by
  obtain ⟨ga, gc, wa, wn, wc, vs, h1, h2, h3, h4, h5, h6, h7, h8, h9, h10⟩ := h
  obtain ⟨c0, c1, c2⟩ := facts3 h1
  have H4 := mkHid h4
  rcases Nat.eq_zero_or_pos wn with h0 | h0
  · subst h0
    have hw : s.wait = [] := List.eq_nil_of_length_eq_zero h8
    have hl : s.last = s.good := by unfold Sec.last; rw [hw]; rfl
    rw [hl]
    clear h1 h4 h5 h6 h7 h8 h10 hw hl
    go_enter Tryd.func78, Tryd.ntmps78
    go_wp2_with fail
    go_ret
    exact ⟨ga, gc, rfl, h3, H4.out, rfl⟩
  · obtain ⟨l, hl⟩ : ∃ l, s.wait[wn - 1]? = some l := ⟨_, List.getElem?_eq_getElem (by omega)⟩
    have hlast : s.last = l := by unfold Sec.last; rw [List.getLast?_eq_getElem?, h8, hl]; rfl
    obtain ⟨a, c, k1, k2, k3⟩ := h10 _ l hl
    rw [hlast]
    obtain ⟨r, cap, hv, _, hr⟩ := h5.form h0
    have hwa : wa = some ⟨r, 0, none⟩ := by injection hv
    subst hwa
    have hc := h5.cells (g := r) rfl _ _ k1
    have e1 : (⟨r, 0, none⟩ : Addr).add (wn - 1) = ⟨r, wn - 1, none⟩ := by unfold Addr.add; split <;> simp_all
    rw [e1] at hc
    have hcap := own_cap h5
    have K3 := mkHid k3
    clear h1 h4 h5 h6 h7 h8 h10 k1 k3 hl hlast hv e1
    go_enter Tryd.func78, Tryd.ntmps78
    go_wp2_with fail
    go_ret
    exact ⟨a, c, rfl, k2, K3.out, rfl⟩

theorem hasOf_nat {n : Nat} {i : Int} (h : hasOf n i = true) : ∃ k : Nat, i = k ∧ k < n := by
  have := of_decide_eq_true h
  exact ⟨i.toNat, by omega, by omega⟩

set_option maxRecDepth 20000 in
theorem read_no (F : Nat → Prop) (g : Nat) (ss : List Sec) (i : Int) (w : World) (h : DK w F g ss) (hi : I64 i) (hh : hasOf ss.length i = false) :
    Calls Tryd.prog 55 #[.pointer (some ⟨g, 0, none⟩), .int .i64 i] w fun e w' => e = .returned (.tuple #[.slice none 0 0, .iface 54 (.int .i64 20)]) ∧ w = w' := by
  have H := mkHid (has_any F g ss i w h hi)
  rw [hh] at H
  clear h hi hh
  go_enter Tryd.func55, Tryd.ntmps55
  go_wp2_with fail
  refine H.out.mono ?_
  rintro e w1 ⟨rfl, rfl⟩
  go_wp2_with fail
  go_ret2
  exact ⟨rfl, rfl⟩

set_option maxRecDepth 20000 in
theorem read_ok (F : Nat → Prop) (g : Nat) (ss : List Sec) (i : Nat) (s : Sec) (w : World) (h : DK w F g ss) (hs : ss[i]? = some s) (hb : s.bad = false) :
    Calls Tryd.prog 55 #[.pointer (some ⟨g, 0, none⟩), .int .i64 i] w fun e w' => ∃ A c, e = .returned (.tuple #[.slice A 128 c, .nilIface]) ∧ w'.ownsRow w.heap.size 5 1 (.slice A 128 c) 128 (s.last.map u8) ∧ okBytes s.last ∧ s.last.length = 128 ∧ Below w.heap.size w w' := by
  have hil := (List.getElem?_eq_some_iff.1 hs).1
  have hnl := h.nl
  have H := mkHid (has_any F g ss i w h ⟨by omega, by omega⟩)
  rw [show hasOf ss.length (i : Int) = true from decide_eq_true ⟨by omega, by omega⟩] at H
  obtain ⟨A, n, c, ps, qs, h⟩ := h
  have hlen := h.len
  obtain ⟨r, p, q, s', rfl, hp, _, _, hs', ho⟩ := h.at_ (j := i) (by omega)
  rw [hs] at hs'
  injection hs' with hs'
  subst hs'
  obtain ⟨hc1, hc2⟩ := own_cap h.row
  have c0 := cell_of_row w g 0 _ _ _ h.blk
  simp at c0
  have HO := mkHid ho
  have HLT := mkHid h.lt
  obtain ⟨ga, gc, wa, wn, wc, vs, h1, _⟩ := ho
  obtain ⟨_, _, d2⟩ := facts3 h1
  rw [hb] at d2
  rw [hlen] at hil
  clear h h1 hs hb hlen
  go_enter Tryd.func55, Tryd.ntmps55
  go_wp2_with fail
  refine H.out.mono ?_
  rintro e w1 ⟨rfl, rfl⟩
  go_wp2_with fail
  refine (last_any F p q s w HO.out).mono ?_
  rintro e w1 ⟨a, c2, rfl, hc3, hgb, rfl⟩
  have HGB := mkHid hgb
  clear hgb
  go_wp2_with fail
  refine (clone_any a 128 c2 s.last w (HGB.out.bs HLT.out) (by omega)).mono ?_
  rintro e w1 ⟨A1, c1, rfl, ho1, hb1⟩
  rw [HGB.out.1] at ho1 ⊢
  have HO1 := mkHid ho1
  have HB1 := mkHid hb1
  clear ho1 hb1
  go_wp2_with fail
  go_ret2
  exact ⟨A1, c1, rfl, HO1.out, HGB.out.2.1, HGB.out.1, HB1.out⟩

set_option maxRecDepth 20000 in
theorem read_bad (F : Nat → Prop) (g : Nat) (ss : List Sec) (i : Nat) (s : Sec) (w : World) (h : DK w F g ss) (hs : ss[i]? = some s) (hb : s.bad = true) :
    Calls Tryd.prog 55 #[.pointer (some ⟨g, 0, none⟩), .int .i64 i] w fun e w' => e = .returned (.tuple #[.slice none 0 0, .iface 54 (.int .i64 21)]) ∧ w = w' := by
  have hil := (List.getElem?_eq_some_iff.1 hs).1
  have hnl := h.nl
  have H := mkHid (has_any F g ss i w h ⟨by omega, by omega⟩)
  rw [show hasOf ss.length (i : Int) = true from decide_eq_true ⟨by omega, by omega⟩] at H
  obtain ⟨A, n, c, ps, qs, h⟩ := h
  have hlen := h.len
  obtain ⟨r, p, q, s', rfl, hp, _, _, hs', ho⟩ := h.at_ (j := i) (by omega)
  rw [hs] at hs'
  injection hs' with hs'
  subst hs'
  obtain ⟨hc1, hc2⟩ := own_cap h.row
  have c0 := cell_of_row w g 0 _ _ _ h.blk
  simp at c0
  obtain ⟨ga, gc, wa, wn, wc, vs, h1, _⟩ := ho
  obtain ⟨_, _, d2⟩ := facts3 h1
  rw [hb] at d2
  rw [hlen] at hil
  clear h h1 hs hb hlen
  go_enter Tryd.func55, Tryd.ntmps55
  go_wp2_with fail
  refine H.out.mono ?_
  rintro e w1 ⟨rfl, rfl⟩
  go_wp2_with fail
  go_ret2
  exact ⟨rfl, rfl⟩



end Go.Proofs.YtpoeneabhoajaaaDoor
