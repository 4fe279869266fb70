/- portagelaw03.DiskGrows answers true. -/
import Derived.Test.YtpponofbkkikfaaDkH
import Derived.Test.YtpponofbkkikfaaOps
namespace Go.Proofs.Ytpponofbkkikfaa
open Go.RowKit

/-- The law's row of what was read: its own, apart from the disk's blocks F. -/
structure HD (wr : World) (F : Nat → Prop) (base : Nat) (A : Option Addr) (L C : Nat) (ls : List (List Int)) (vs : List Value) : Prop where
  row : wr.ownsRow base 30 1 (.slice A L C) L vs
  out : ∀ b, (Value.slice A L C).ownBlock = some b → ¬ F b
  len : ls.length = L
  els : ∀ (j : Nat) (l : List Int), ls[j]? = some l → ∃ (a : Option Addr) (c : Nat), vs[j]? = some (Value.slice a 128 c) ∧ (128 ≤ c ∧ c ≤ maxLen) ∧ BS wr wr.heap.size a 128 l ∧ ∀ b o, a = some ⟨b, o, none⟩ → ¬ F b ∧ ∃ cur, wr.heap[b]? = some (.cells cur 5 (0, 0))
section
variable {wr w1 : World} {F F' : Nat → Prop} {base : Nat} {A : Option Addr} {L C : Nat} {ls : List (List Int)} {vs : List Value}
theorem HD.below (h : HD wr F base A L C ls vs) (hb : Below wr.heap.size wr w1) : HD w1 F base A L C ls vs :=
  ⟨own_below h.row hb, h.out, h.len, fun j l hl => by
    obtain ⟨a, c, h1, h2, h3, h4⟩ := h.els j l hl
    exact ⟨a, c, h1, h2, (h3.below hb).more hb.size, fun b o e => ⟨(h4 b o e).1, (h4 b o e).2.imp fun cur hc => (hb.block b (Array.getElem?_eq_some_iff.1 hc).1).trans hc⟩⟩⟩
theorem HD.turn (h : HD wr F base A L C ls vs) (ht : Turn F wr w1) (hF : ∀ b, F' b → F b ∨ wr.heap.size ≤ b) : HD w1 F' base A L C ls vs :=
  ⟨own_turn h.row ht h.out, fun b hb hf => by
    rcases hF b hf with e | e
    · exact h.out b hb e
    · have := (h.row.lt b hb).2; omega, h.len, fun j l hl => by
    obtain ⟨a, c, h1, h2, h3, h4⟩ := h.els j l hl
    refine ⟨a, c, h1, h2, ⟨⟨h3.1.1, fun k hk => ?_⟩, h3.2⟩, fun b o e => ⟨fun hf => ?_, (h4 b o e).2.imp fun cur hc => (ht.block b (Array.getElem?_eq_some_iff.1 hc).1 (h4 b o e).1).trans hc⟩⟩
    · obtain ⟨b, o, ha, hb, hc⟩ := h3.1.2 k hk
      exact ⟨b, o, ha, Nat.lt_of_lt_of_le hb ht.size, (World.cell?_of_block (w := wr) (ht.block b hb (h4 b o ha).1)).trans hc⟩
    · rcases hF b hf with e2 | e2
      · exact (h4 b o e).1 e2
      · obtain ⟨b2, o2, e3, hb2, _⟩ := h3.at_ (j := 0) (by omega)
        rw [e] at e3
        injection e3 with e3
        injection e3 with e3
        omega⟩
theorem HD.nil : HD wr F base none 0 0 [] [] := ⟨World.ownsRow_nil _ _ _ _, fun b hb => (by cases hb), rfl, fun j l h => (by simp at h)⟩
theorem HD.at_ (h : HD wr F base A L C ls vs) {j : Nat} {l : List Int} (hl : ls[j]? = some l) : ∃ r a c, A = some ⟨r, 0, none⟩ ∧ wr.cell? ⟨r, j, none⟩ = some (.slice a 128 c) ∧ BS wr wr.heap.size a 128 l := by
  have hj : j < L := by rw [← h.len]; exact (List.getElem?_eq_some_iff.1 hl).1
  obtain ⟨a, c, h1, _, h3, _⟩ := h.els j l hl
  obtain ⟨r, cap, hv, _, _⟩ := h.row.form (by omega)
  have ha : A = some ⟨r, 0, none⟩ := by injection hv
  subst ha
  have hc := h.row.cells (g := r) rfl _ _ h1
  have e1 : (⟨r, 0, none⟩ : Addr).add j = ⟨r, j, none⟩ := by unfold Addr.add; split <;> simp_all
  rw [e1] at hc
  exact ⟨r, a, c, rfl, hc, h3⟩
end

/-- The bytes of the first k sectors. -/
def lasts (ss : List Sec) (k : Nat) : List (List Int) := (ss.take k).map Sec.last
theorem lasts_succ {ss : List Sec} {k : Nat} {s : Sec} (hs : ss[k]? = some s) : lasts ss (k + 1) = lasts ss k ++ [s.last] := by
  unfold lasts
  rw [List.take_add_one, hs]
  simp
theorem pend_grown (ss : List Sec) (m : Nat) : pend (ss ++ List.replicate m sec0) = pend ss := by
  have h1 : ∀ j, j < ss.length → waits (ss ++ List.replicate m sec0) j = waits ss j := fun j hj => by
    unfold waits
    rw [List.getElem?_append_left hj]
  have h2 : ∀ j, ss.length ≤ j → waits (ss ++ List.replicate m sec0) j = false := fun j hj => by
    unfold waits
    rw [List.getElem?_append_right hj, List.getElem?_replicate]
    split <;> simp [sec0]
  have h3 : ∀ k, k ≤ ss.length → pendN (ss ++ List.replicate m sec0) k = pendN ss k := fun k => by
    induction k with
    | zero => intro _; rfl
    | succ k ih =>
      intro hk
      rw [pendN_succ, pendN_succ, ih (by omega), h1 k (by omega)]
  have h4 : ∀ k, pendN (ss ++ List.replicate m sec0) (ss.length + k) = pendN ss ss.length := fun k => by
    induction k with
    | zero => exact h3 _ (Nat.le_refl _)
    | succ k ih => rw [← Nat.add_assoc, pendN_succ, ih, h2 _ (by omega)]; simp
  unfold pend
  rw [List.length_append, List.length_replicate]
  exact h4 m



set_option maxRecDepth 20000 in
set_option maxHeartbeats 4000000 in
theorem grows_big (S : Nat) (a : Option Addr) (n c : Nat) (xs : List Op) (m : Int) (w : World) (hx : OPS w w.heap.size a n xs) (hn : n ≤ c ∧ c ≤ 140737488351232) (hm : I64 m) (hS1 : 1 ≤ S) (hS2 : S ≤ 40) (hn60 : n ≤ 60) (hm2 : 4096 < m) :
    Calls Try.prog 6 #[.int .i64 S, .slice a n c, .int .i64 m] w fun e w' => e = .returned (.bool true) ∧ Below w.heap.size w w' := by
  obtain ⟨hn1, hn2⟩ := hn
  have HM := mkHid hm
  obtain ⟨m0, m1⟩ := hm
  have HN := mkHid (newDisk_any S w hS1 (by omega))
  go_enter Try.func6, Try.ntmps6
  go_wp2_with fail
  refine HN.out.mono ?_
  rintro e w1 ⟨g, F, rfl, hd, hF, hb1⟩
  have HG := mkHid (show GW w w1 F g 0 (List.replicate S sec0) from ⟨⟨hd, hF, hb1⟩, fun s hs => by rw [List.eq_of_mem_replicate hs]; exact ⟨rfl, by simp [sec0]⟩⟩)
  clear hd hF hb1 HN
  go_wp2_with fail
  go_loopw [63] (fun i wr => ∃ (q : Nat) (F : Nat → Prop) (ss : List Sec), q ≤ n ∧ i = .int .i64 q ∧ ss.length = S ∧ GW w wr F g q ss) (fun i _ => n - (intOf i).toNat)
  case atStart => exact ⟨0, F, _, Nat.zero_le _, rfl, by simp, HG.out⟩
  case round =>
    clear HG
    obtain ⟨q, F, ss, hq, rfl, h5, hg⟩ := hrel
    have hsz := hg.ld.bel.size
    have HG := mkHid hg
    clear hg
    by_cases hlt : q < n
    · obtain ⟨b, o, x, a1, m1', c1, a2, m', c2, rfl, hb, _, hI0, hI1, hI2, hca, hbs, hcb, his, d0, d1, d2, d3, d4⟩ := (hx.below HG.out.ld.bel).at_ hlt
      obtain ⟨xk, xi, xn, xd, xp⟩ := x
      simp only at hI0 hI1 hI2 hbs his d0 d1 d2 d3 d4
      obtain ⟨i0, i1⟩ := id hI0
      obtain ⟨hca1, hca2, hca3⟩ := hca
      have HII := mkHid hI1
      have HSX := mkHid hx
      have hal := HG.out.below ((Below.refl _ _).alloc (Nat.le_refl _) (.cells #[.int .i64 xk, .int .i64 xi, .int .i64 xn, .slice a1 m1' c1, .slice a2 m' c2] 32))
      have HAL := mkHid hal
      have hdl : xd.length = m1' := hbs.len
      have HBA := mkHid (show ∀ W : World, W.heap = (wr.alloc (.cells #[.int .i64 xk, .int .i64 xi, .int .i64 xn, .slice a1 m1' c1, .slice a2 m' c2] 32)).heap → BS W W.heap.size a1 m1' xd from fun W hW => (hbs.keep fun b' hb' => by rw [hW]; exact Below.heap_alloc _ _ _ (by omega)).more (by rw [hW]; simp; omega))
      clear hbs his hx hal hI0 hI1 hI2
      by_cases hk2 : xk = 2
      case neg =>
        have hkb : (xk == 2) = false := by simpa using hk2
        go_wp2_with fail
        go_roundw
        case rel => exact ⟨q + 1, F, ss, by omega, by go_num, h5, HAL.out.more (by omega)⟩
        case measure => simp [intOf]; omega
      subst hk2
      have hkb : ((2 : Int) == 2) = true := by simp
      by_cases hmm : 1000 < m1'
      · have hmn : ¬ (m1' : Int) ≤ 1000 := by omega
        go_wp2_with fail
        go_roundw
        case rel => exact ⟨q + 1, F, ss, by omega, by go_num, h5, HAL.out.more (by omega)⟩
        case measure => simp [intOf]; omega
      have hmn : (m1' : Int) ≤ 1000 := by omega
      have HPC := mkHid (show ∀ s : World, s.heap[wr.heap.size]? = (wr.alloc (.cells #[.int .i64 2, .int .i64 xi, .int .i64 xn, .slice a1 m1' c1, .slice a2 m' c2] 32)).heap[wr.heap.size]? → s.cell? ⟨wr.heap.size, 1, none⟩ = some (.int .i64 xi) ∧ s.cell? ⟨wr.heap.size, 3, none⟩ = some (.slice a1 m1' c1) from fun s hs => by
        have hs' := hs.trans (heap_alloc_new wr _)
        exact ⟨cell_of_row s _ 1 _ _ _ hs', cell_of_row s _ 3 _ _ _ hs'⟩)
      have HC0 := mkHid (HPC.out _ rfl)
      have HALL := mkHid (wnext_all (i := xi) (l := xd) HG.out.all)
      have HW := mkHid (show ∀ s ∈ ss, s.wait.length < 1000000 from fun s hs => by have := (HG.out.all s hs).2; omega)
      have HN1 := mkHid (show ∀ x, F x → x < wr.heap.size from HG.out.ld.d.lt)
      go_wp2_with fail
      go_region_held3 (fun s => s.cell? ⟨wr.heap.size, 1, none⟩ = some (.int .i64 xi) ∧ s.cell? ⟨wr.heap.size, 3, none⟩ = some (.slice a1 m1' c1)) (first | exact HC0.out | assumption) (first
        | (go_at_call 11; refine (write_all F g ss xi CA m1' cc xd w5 HB5.out.ld.d HII.out HCO.out HW.out).mono ?_; rintro e w6 ⟨rfl, ht6, F3, hd6, hF6⟩; have hpc6 := HPC.out w6 ((ht6.block _ (by omega) (fun hf => by have := HN1.out _ hf; omega)).trans HK5.out); have HT6 := mkHid (show GW w w6 F3 g (q + 1) (wnext ss xi xd) from ⟨HB5.out.ld.turn ht6 hd6 hF6, HALL.out⟩); clear ht6 hd6 hF6)
        | (go_at_call 12; refine (copy_any a1 m1' c1 xd _ (HBA.out _ (by rfl)) (by omega)).mono ?_; rintro e w5 ⟨CA, cc, rfl, hco, hb5⟩; rw [hdl] at hco ⊢; have hpc := HPC.out w5 (hb5.block _ (by simp [World.drew])); have HCO := mkHid (show BS w5 w5.heap.size CA m1' xd from ⟨SL.of_own hco, (HBA.out _ rfl).2⟩); have HB5 := mkHid (HAL.out.below (Below.mk hb5.os hb5.tape hb5.output hb5.size hb5.block)); have HK5 := mkHid (show w5.heap[wr.heap.size]? = (wr.alloc (.cells #[.int .i64 2, .int .i64 xi, .int .i64 xn, .slice a1 m1' c1, .slice a2 m' c2] 32)).heap[wr.heap.size]? from hb5.block _ (by simp [World.drew])); have hs5 : wr.heap.size + 1 ≤ w5.heap.size := (by have := hb5.size; simpa [World.drew] using this); clear hco hb5))
      rename_i hheld
      clear hheld hpc hpc6
      go_wp2_with fail
      go_roundw
      case rel => exact ⟨q + 1, F3, wnext ss xi xd, by omega, by go_num, by rw [wnext_len]; exact h5, HT6.out⟩
      case measure => simp [intOf]; omega
    · obtain rfl : q = n := by omega
      clear hx
      obtain ⟨wP, rfl⟩ : ∃ x, x = wr := ⟨wr, rfl⟩
      go_wp2_with fail
      go_loopw [11, 85] (fun hd i wr => ∃ (p : Nat) (A : Option Addr) (C : Nat) (vs : List Value), p ≤ S ∧ i = .int .i64 p ∧ hd = .slice A p C ∧ GW w wr F g q ss ∧ HD wr F w.heap.size A p C (lasts ss p) vs) (fun _ i _ => S - (intOf i).toNat)
      case atStart => exact ⟨0, none, 0, [], Nat.zero_le _, rfl, rfl, HG.out, HD.nil⟩
      case round =>
        clear HG
        obtain ⟨p, A, C, vs, hp, rfl, rfl, hg, hh⟩ := hrel
        have hsz := hg.ld.bel.size
        have HG := mkHid hg
        have HH := mkHid hh
        clear hg hh
        by_cases hlt2 : p < S
        · obtain ⟨s, hs⟩ : ∃ s, ss[p]? = some s := ⟨_, List.getElem?_eq_getElem (by omega)⟩
          have HS := mkHid hs
          have HBD := mkHid (HG.out.all s (List.mem_of_getElem? hs)).1
          clear hs
          go_wp2_with fail
          refine (read_ok F g _ p s wr HG.out.ld.d HS.out HBD.out).mono ?_
          rintro e w3 ⟨A3, c3, rfl, ho3, hk3, hl3, hb3⟩
          have HO3 := mkHid ho3
          have HK3 := mkHid hk3
          have HG3 := mkHid (HG.out.below hb3)
          have HH3 := mkHid (HH.out.below hb3)
          have hs3 := hb3.size
          have HN3 := mkHid (show ∀ b o, A3 = some ⟨b, o, none⟩ → ¬ F b ∧ ∃ cur, w3.heap[b]? = some (.cells cur 5 (0, 0)) from fun b o e => ⟨fun hf => by
            have h1 := HG.out.ld.d.lt b hf
            have h2 := (ho3.lt b (by rw [e]; rfl)).1
            omega, own_type ho3 (by rw [e]; rfl)⟩)
          clear ho3 hk3 hl3 hb3
          go_wp2_with (at_builtin; refine wpList_app _ rfl (.tmp 94) (.tmp 96) _ rfl w.heap.size el_bs A p C vs rfl (HH3.out.row.alloc _) (w3.heap.size + 1) (some ⟨w3.heap.size, 0, none⟩) 1 1 [.slice A3 128 c3] rfl (SL.one _ _) (one_slice _ _ _) (by unfold maxLen; omega) (by omega) (by simp; omega) ?_; intro A' C' w4 ho4 hg4 hat4; have HO4 := mkHid ho4; have HG4 := mkHid hg4; have HAT4 := mkHid hat4; clear ho4 hg4 hat4)
          go_roundw
          case rel =>
            have hbel : Below w.heap.size w3 w4 := ((Below.refl _ _).alloc (by omega) _).grown HG4.out (by simp; omega) (own_base HH3.out.row)
            have hkF : ∀ b, F b → w4.heap[b]? = w3.heap[b]? := fun b hb => (HG4.out.block b (by have := HG3.out.ld.d.lt b hb; simp; omega) (fun e => HH3.out.out b e.symm hb)).trans (Below.heap_alloc _ _ _ (HG3.out.ld.d.lt b hb))
            have hkB : ∀ (a : Option Addr) (c : Nat) (l : List Int), BS w3 w3.heap.size a 128 l → (∀ b o, a = some ⟨b, o, none⟩ → w4.heap[b]? = w3.heap[b]?) → BS w4 w4.heap.size a 128 l := fun a c l h hk => ⟨⟨h.1.1, fun j hj => by
              obtain ⟨b, o, ha, hb, hc⟩ := h.1.2 j hj
              exact ⟨b, o, ha, by have := hbel.size; omega, (World.cell?_of_block (w := w3) (hk b o ha)).trans hc⟩⟩, h.2⟩
            have htyp : ∀ (b : Nat), (∃ cur, w3.heap[b]? = some (.cells cur 5 (0, 0))) → w4.heap[b]? = w3.heap[b]? := fun b ⟨cur, hc⟩ => by
              have hb2 := (Array.getElem?_eq_some_iff.1 hc).1
              refine (HG4.out.block b (by simp; omega) (fun e => ?_)).trans (Below.heap_alloc _ _ _ hb2)
              obtain ⟨cur', hcur⟩ := own_type HH3.out.row e.symm
              rw [hc] at hcur
              simp at hcur
            refine ⟨p + 1, A', C', vs ++ [.slice A3 128 c3], by omega, by go_num, rfl, ⟨HG3.out.ld.keep hkF hbel, HG3.out.all⟩, ⟨HO4.out, fun b hb hf => ?_, by rw [lasts_succ HS.out, List.length_append, HH3.out.len]; rfl, fun j l hl => ?_⟩⟩
            · rcases HAT4.out with e | e
              · exact HH3.out.out b (by rw [← e]; exact hb) hf
              · rw [hb] at e
                injection e with e
                have := HG3.out.ld.d.lt b hf
                simp at e
                omega
            · rw [lasts_succ HS.out] at hl
              have hvl : vs.length = p := by have := HH3.out.row.1; simpa using this
              by_cases hj : j < p
              · rw [List.getElem?_append_left (by rw [HH3.out.len]; exact hj)] at hl
                obtain ⟨a5, c5, k1, k2, k3, k4⟩ := HH3.out.els j l hl
                exact ⟨a5, c5, by rw [List.getElem?_append_left (by omega)]; exact k1, k2, hkB a5 c5 l k3 (fun b o e => htyp b (k4 b o e).2), fun b o e => ⟨(k4 b o e).1, (k4 b o e).2.imp fun cur hc => (htyp b ⟨cur, hc⟩).trans hc⟩⟩
              · have hjl := (List.getElem?_eq_some_iff.1 hl).1
                rw [List.length_append, HH3.out.len] at hjl
                simp only [List.length_cons, List.length_nil] at hjl
                obtain rfl : j = p := by omega
                rw [List.getElem?_append_right (by rw [HH3.out.len]; exact Nat.le_refl _), HH3.out.len, Nat.sub_self] at hl
                injection hl with hl
                subst hl
                have hb3 : BS w3 w3.heap.size A3 128 s.last := ⟨SL.of_own HO3.out, HK3.out⟩
                exact ⟨A3, c3, by rw [List.getElem?_append_right (by omega), hvl, Nat.sub_self]; rfl, own_cap HO3.out, hkB A3 c3 _ hb3 (fun b o e => htyp b (HN3.out b o e).2), fun b o e => ⟨(HN3.out b o e).1, (HN3.out b o e).2.imp fun cur hc => (htyp b ⟨cur, hc⟩).trans hc⟩⟩
          case measure => simp [intOf]; omega
        · obtain rfl : p = S := by omega
          go_wp2_with fail
          refine (pending_any F g ss wr HG.out.ld.d).mono ?_
          rintro e w4 ⟨PA, pc, rfl, hop, hb4⟩
          have HOP := mkHid hop
          have HG4 := mkHid (HG.out.below hb4)
          have HH4 := mkHid (HH.out.below hb4)
          have HNP := mkHid (show ∀ b, (Value.slice PA (pend ss).length pc).ownBlock = some b → ¬ F b from fun b hb hf => by
            have h1 := HG.out.ld.d.lt b hf
            have h2 := (hop.lt b hb).1
            omega)
          have hss : ((p : Int) == (p : Int)) = true := by simp
          clear hop hb4
          have hgt : 4096 - (p : Int) < m := by omega
          have hres := grow_no F g ss m _ HG4.out.ld.d HM.out (by rw [h5]; omega)
          have HRES := mkHid hres
          clear hres
          go_wp2_with fail
          refine HRES.out.mono ?_
          rintro e w5 ⟨rfl, rfl⟩
          go_wp2_with fail
          refine (is_code 20 20 _).mono ?_
          rintro e w5 ⟨rfl, rfl⟩
          rw [show ((20 : Int) != 0 && (20 : Int) == 20) = true from rfl]
          go_wp2_with fail
          refine (size_any F g ss _ HG4.out.ld.d).mono ?_
          rintro e w5 ⟨rfl, rfl⟩
          rw [h5]
          go_wp2_with fail
          refine (awake_any _).mono ?_
          rintro e w5 ⟨rfl, hb5⟩
          go_wp2_with fail
          go_ret
          exact ⟨rfl, (HG4.out.below hb5).ld.bel⟩

set_option maxRecDepth 20000 in
set_option maxHeartbeats 4000000 in
theorem grows_small (S : Nat) (a : Option Addr) (n c : Nat) (xs : List Op) (m : Int) (w : World) (hx : OPS w w.heap.size a n xs) (hn : n ≤ c ∧ c ≤ 140737488351232) (hm : I64 m) (hS1 : 1 ≤ S) (hS2 : S ≤ 40) (hn60 : n ≤ 60) (hm2 : m ≤ 100) :
    Calls Try.prog 6 #[.int .i64 S, .slice a n c, .int .i64 m] w fun e w' => e = .returned (.bool true) ∧ Below w.heap.size w w' := by
  obtain ⟨hn1, hn2⟩ := hn
  have HM := mkHid hm
  obtain ⟨m0, m1⟩ := hm
  have HN := mkHid (newDisk_any S w hS1 (by omega))
  go_enter Try.func6, Try.ntmps6
  go_wp2_with fail
  refine HN.out.mono ?_
  rintro e w1 ⟨g, F, rfl, hd, hF, hb1⟩
  have HG := mkHid (show GW w w1 F g 0 (List.replicate S sec0) from ⟨⟨hd, hF, hb1⟩, fun s hs => by rw [List.eq_of_mem_replicate hs]; exact ⟨rfl, by simp [sec0]⟩⟩)
  clear hd hF hb1 HN
  go_wp2_with fail
  go_loopw [63] (fun i wr => ∃ (q : Nat) (F : Nat → Prop) (ss : List Sec), q ≤ n ∧ i = .int .i64 q ∧ ss.length = S ∧ GW w wr F g q ss) (fun i _ => n - (intOf i).toNat)
  case atStart => exact ⟨0, F, _, Nat.zero_le _, rfl, by simp, HG.out⟩
  case round =>
    clear HG
    obtain ⟨q, F, ss, hq, rfl, h5, hg⟩ := hrel
    have hsz := hg.ld.bel.size
    have HG := mkHid hg
    clear hg
    by_cases hlt : q < n
    · obtain ⟨b, o, x, a1, m1', c1, a2, m', c2, rfl, hb, _, hI0, hI1, hI2, hca, hbs, hcb, his, d0, d1, d2, d3, d4⟩ := (hx.below HG.out.ld.bel).at_ hlt
      obtain ⟨xk, xi, xn, xd, xp⟩ := x
      simp only at hI0 hI1 hI2 hbs his d0 d1 d2 d3 d4
      obtain ⟨i0, i1⟩ := id hI0
      obtain ⟨hca1, hca2, hca3⟩ := hca
      have HII := mkHid hI1
      have HSX := mkHid hx
      have hal := HG.out.below ((Below.refl _ _).alloc (Nat.le_refl _) (.cells #[.int .i64 xk, .int .i64 xi, .int .i64 xn, .slice a1 m1' c1, .slice a2 m' c2] 32))
      have HAL := mkHid hal
      have hdl : xd.length = m1' := hbs.len
      have HBA := mkHid (show ∀ W : World, W.heap = (wr.alloc (.cells #[.int .i64 xk, .int .i64 xi, .int .i64 xn, .slice a1 m1' c1, .slice a2 m' c2] 32)).heap → BS W W.heap.size a1 m1' xd from fun W hW => (hbs.keep fun b' hb' => by rw [hW]; exact Below.heap_alloc _ _ _ (by omega)).more (by rw [hW]; simp; omega))
      clear hbs his hx hal hI0 hI1 hI2
      by_cases hk2 : xk = 2
      case neg =>
        have hkb : (xk == 2) = false := by simpa using hk2
        go_wp2_with fail
        go_roundw
        case rel => exact ⟨q + 1, F, ss, by omega, by go_num, h5, HAL.out.more (by omega)⟩
        case measure => simp [intOf]; omega
      subst hk2
      have hkb : ((2 : Int) == 2) = true := by simp
      by_cases hmm : 1000 < m1'
      · have hmn : ¬ (m1' : Int) ≤ 1000 := by omega
        go_wp2_with fail
        go_roundw
        case rel => exact ⟨q + 1, F, ss, by omega, by go_num, h5, HAL.out.more (by omega)⟩
        case measure => simp [intOf]; omega
      have hmn : (m1' : Int) ≤ 1000 := by omega
      have HPC := mkHid (show ∀ s : World, s.heap[wr.heap.size]? = (wr.alloc (.cells #[.int .i64 2, .int .i64 xi, .int .i64 xn, .slice a1 m1' c1, .slice a2 m' c2] 32)).heap[wr.heap.size]? → s.cell? ⟨wr.heap.size, 1, none⟩ = some (.int .i64 xi) ∧ s.cell? ⟨wr.heap.size, 3, none⟩ = some (.slice a1 m1' c1) from fun s hs => by
        have hs' := hs.trans (heap_alloc_new wr _)
        exact ⟨cell_of_row s _ 1 _ _ _ hs', cell_of_row s _ 3 _ _ _ hs'⟩)
      have HC0 := mkHid (HPC.out _ rfl)
      have HALL := mkHid (wnext_all (i := xi) (l := xd) HG.out.all)
      have HW := mkHid (show ∀ s ∈ ss, s.wait.length < 1000000 from fun s hs => by have := (HG.out.all s hs).2; omega)
      have HN1 := mkHid (show ∀ x, F x → x < wr.heap.size from HG.out.ld.d.lt)
      go_wp2_with fail
      go_region_held3 (fun s => s.cell? ⟨wr.heap.size, 1, none⟩ = some (.int .i64 xi) ∧ s.cell? ⟨wr.heap.size, 3, none⟩ = some (.slice a1 m1' c1)) (first | exact HC0.out | assumption) (first
        | (go_at_call 11; refine (write_all F g ss xi CA m1' cc xd w5 HB5.out.ld.d HII.out HCO.out HW.out).mono ?_; rintro e w6 ⟨rfl, ht6, F3, hd6, hF6⟩; have hpc6 := HPC.out w6 ((ht6.block _ (by omega) (fun hf => by have := HN1.out _ hf; omega)).trans HK5.out); have HT6 := mkHid (show GW w w6 F3 g (q + 1) (wnext ss xi xd) from ⟨HB5.out.ld.turn ht6 hd6 hF6, HALL.out⟩); clear ht6 hd6 hF6)
        | (go_at_call 12; refine (copy_any a1 m1' c1 xd _ (HBA.out _ (by rfl)) (by omega)).mono ?_; rintro e w5 ⟨CA, cc, rfl, hco, hb5⟩; rw [hdl] at hco ⊢; have hpc := HPC.out w5 (hb5.block _ (by simp [World.drew])); have HCO := mkHid (show BS w5 w5.heap.size CA m1' xd from ⟨SL.of_own hco, (HBA.out _ rfl).2⟩); have HB5 := mkHid (HAL.out.below (Below.mk hb5.os hb5.tape hb5.output hb5.size hb5.block)); have HK5 := mkHid (show w5.heap[wr.heap.size]? = (wr.alloc (.cells #[.int .i64 2, .int .i64 xi, .int .i64 xn, .slice a1 m1' c1, .slice a2 m' c2] 32)).heap[wr.heap.size]? from hb5.block _ (by simp [World.drew])); have hs5 : wr.heap.size + 1 ≤ w5.heap.size := (by have := hb5.size; simpa [World.drew] using this); clear hco hb5))
      rename_i hheld
      clear hheld hpc hpc6
      go_wp2_with fail
      go_roundw
      case rel => exact ⟨q + 1, F3, wnext ss xi xd, by omega, by go_num, by rw [wnext_len]; exact h5, HT6.out⟩
      case measure => simp [intOf]; omega
    · obtain rfl : q = n := by omega
      clear hx
      obtain ⟨wP, rfl⟩ : ∃ x, x = wr := ⟨wr, rfl⟩
      go_wp2_with fail
      go_loopw [11, 85] (fun hd i wr => ∃ (p : Nat) (A : Option Addr) (C : Nat) (vs : List Value), p ≤ S ∧ i = .int .i64 p ∧ hd = .slice A p C ∧ GW w wr F g q ss ∧ HD wr F w.heap.size A p C (lasts ss p) vs) (fun _ i _ => S - (intOf i).toNat)
      case atStart => exact ⟨0, none, 0, [], Nat.zero_le _, rfl, rfl, HG.out, HD.nil⟩
      case round =>
        clear HG
        obtain ⟨p, A, C, vs, hp, rfl, rfl, hg, hh⟩ := hrel
        have hsz := hg.ld.bel.size
        have HG := mkHid hg
        have HH := mkHid hh
        clear hg hh
        by_cases hlt2 : p < S
        · obtain ⟨s, hs⟩ : ∃ s, ss[p]? = some s := ⟨_, List.getElem?_eq_getElem (by omega)⟩
          have HS := mkHid hs
          have HBD := mkHid (HG.out.all s (List.mem_of_getElem? hs)).1
          clear hs
          go_wp2_with fail
          refine (read_ok F g _ p s wr HG.out.ld.d HS.out HBD.out).mono ?_
          rintro e w3 ⟨A3, c3, rfl, ho3, hk3, hl3, hb3⟩
          have HO3 := mkHid ho3
          have HK3 := mkHid hk3
          have HG3 := mkHid (HG.out.below hb3)
          have HH3 := mkHid (HH.out.below hb3)
          have hs3 := hb3.size
          have HN3 := mkHid (show ∀ b o, A3 = some ⟨b, o, none⟩ → ¬ F b ∧ ∃ cur, w3.heap[b]? = some (.cells cur 5 (0, 0)) from fun b o e => ⟨fun hf => by
            have h1 := HG.out.ld.d.lt b hf
            have h2 := (ho3.lt b (by rw [e]; rfl)).1
            omega, own_type ho3 (by rw [e]; rfl)⟩)
          clear ho3 hk3 hl3 hb3
          go_wp2_with (at_builtin; refine wpList_app _ rfl (.tmp 94) (.tmp 96) _ rfl w.heap.size el_bs A p C vs rfl (HH3.out.row.alloc _) (w3.heap.size + 1) (some ⟨w3.heap.size, 0, none⟩) 1 1 [.slice A3 128 c3] rfl (SL.one _ _) (one_slice _ _ _) (by unfold maxLen; omega) (by omega) (by simp; omega) ?_; intro A' C' w4 ho4 hg4 hat4; have HO4 := mkHid ho4; have HG4 := mkHid hg4; have HAT4 := mkHid hat4; clear ho4 hg4 hat4)
          go_roundw
          case rel =>
            have hbel : Below w.heap.size w3 w4 := ((Below.refl _ _).alloc (by omega) _).grown HG4.out (by simp; omega) (own_base HH3.out.row)
            have hkF : ∀ b, F b → w4.heap[b]? = w3.heap[b]? := fun b hb => (HG4.out.block b (by have := HG3.out.ld.d.lt b hb; simp; omega) (fun e => HH3.out.out b e.symm hb)).trans (Below.heap_alloc _ _ _ (HG3.out.ld.d.lt b hb))
            have hkB : ∀ (a : Option Addr) (c : Nat) (l : List Int), BS w3 w3.heap.size a 128 l → (∀ b o, a = some ⟨b, o, none⟩ → w4.heap[b]? = w3.heap[b]?) → BS w4 w4.heap.size a 128 l := fun a c l h hk => ⟨⟨h.1.1, fun j hj => by
              obtain ⟨b, o, ha, hb, hc⟩ := h.1.2 j hj
              exact ⟨b, o, ha, by have := hbel.size; omega, (World.cell?_of_block (w := w3) (hk b o ha)).trans hc⟩⟩, h.2⟩
            have htyp : ∀ (b : Nat), (∃ cur, w3.heap[b]? = some (.cells cur 5 (0, 0))) → w4.heap[b]? = w3.heap[b]? := fun b ⟨cur, hc⟩ => by
              have hb2 := (Array.getElem?_eq_some_iff.1 hc).1
              refine (HG4.out.block b (by simp; omega) (fun e => ?_)).trans (Below.heap_alloc _ _ _ hb2)
              obtain ⟨cur', hcur⟩ := own_type HH3.out.row e.symm
              rw [hc] at hcur
              simp at hcur
            refine ⟨p + 1, A', C', vs ++ [.slice A3 128 c3], by omega, by go_num, rfl, ⟨HG3.out.ld.keep hkF hbel, HG3.out.all⟩, ⟨HO4.out, fun b hb hf => ?_, by rw [lasts_succ HS.out, List.length_append, HH3.out.len]; rfl, fun j l hl => ?_⟩⟩
            · rcases HAT4.out with e | e
              · exact HH3.out.out b (by rw [← e]; exact hb) hf
              · rw [hb] at e
                injection e with e
                have := HG3.out.ld.d.lt b hf
                simp at e
                omega
            · rw [lasts_succ HS.out] at hl
              have hvl : vs.length = p := by have := HH3.out.row.1; simpa using this
              by_cases hj : j < p
              · rw [List.getElem?_append_left (by rw [HH3.out.len]; exact hj)] at hl
                obtain ⟨a5, c5, k1, k2, k3, k4⟩ := HH3.out.els j l hl
                exact ⟨a5, c5, by rw [List.getElem?_append_left (by omega)]; exact k1, k2, hkB a5 c5 l k3 (fun b o e => htyp b (k4 b o e).2), fun b o e => ⟨(k4 b o e).1, (k4 b o e).2.imp fun cur hc => (htyp b ⟨cur, hc⟩).trans hc⟩⟩
              · have hjl := (List.getElem?_eq_some_iff.1 hl).1
                rw [List.length_append, HH3.out.len] at hjl
                simp only [List.length_cons, List.length_nil] at hjl
                obtain rfl : j = p := by omega
                rw [List.getElem?_append_right (by rw [HH3.out.len]; exact Nat.le_refl _), HH3.out.len, Nat.sub_self] at hl
                injection hl with hl
                subst hl
                have hb3 : BS w3 w3.heap.size A3 128 s.last := ⟨SL.of_own HO3.out, HK3.out⟩
                exact ⟨A3, c3, by rw [List.getElem?_append_right (by omega), hvl, Nat.sub_self]; rfl, own_cap HO3.out, hkB A3 c3 _ hb3 (fun b o e => htyp b (HN3.out b o e).2), fun b o e => ⟨(HN3.out b o e).1, (HN3.out b o e).2.imp fun cur hc => (htyp b ⟨cur, hc⟩).trans hc⟩⟩
          case measure => simp [intOf]; omega
        · obtain rfl : p = S := by omega
          go_wp2_with fail
          refine (pending_any F g ss wr HG.out.ld.d).mono ?_
          rintro e w4 ⟨PA, pc, rfl, hop, hb4⟩
          have HOP := mkHid hop
          have HG4 := mkHid (HG.out.below hb4)
          have HH4 := mkHid (HH.out.below hb4)
          have HNP := mkHid (show ∀ b, (Value.slice PA (pend ss).length pc).ownBlock = some b → ¬ F b from fun b hb hf => by
            have h1 := HG.out.ld.d.lt b hf
            have h2 := (hop.lt b hb).1
            omega)
          have hss : ((p : Int) == (p : Int)) = true := by simp
          clear hop hb4
          by_cases hm1 : m < 1
          · have hres := grow_no F g ss m _ HG4.out.ld.d HM.out (by rw [h5]; omega)
            have HRES := mkHid hres
            clear hres
            go_wp2_with fail
            refine HRES.out.mono ?_
            rintro e w5 ⟨rfl, rfl⟩
            go_wp2_with fail
            refine (is_code 20 20 _).mono ?_
            rintro e w5 ⟨rfl, rfl⟩
            rw [show ((20 : Int) != 0 && (20 : Int) == 20) = true from rfl]
            go_wp2_with fail
            refine (size_any F g ss _ HG4.out.ld.d).mono ?_
            rintro e w5 ⟨rfl, rfl⟩
            rw [h5]
            go_wp2_with fail
            refine (awake_any _).mono ?_
            rintro e w5 ⟨rfl, hb5⟩
            go_wp2_with fail
            go_ret
            exact ⟨rfl, (HG4.out.below hb5).ld.bel⟩
          obtain ⟨M, rfl⟩ : ∃ M : Nat, m = M := ⟨m.toNat, by omega⟩
          have hle : ¬ 4096 - (p : Int) < (M : Int) := by omega
          go_wp2_with fail
          refine (grow_ok F g ss M _ HG4.out.ld.d (by omega) (by omega)).mono ?_
          rintro e w5 ⟨rfl, ht5, F5, hd5, hF5⟩
          have HL5 := mkHid (HG4.out.ld.turn ht5 hd5 hF5)
          have HH5 := mkHid (HH4.out.turn ht5 hF5)
          have HOP5 := mkHid (own_turn HOP.out ht5 HNP.out)
          clear ht5 hd5 hF5
          have hlen5 : (ss ++ List.replicate M sec0).length = p + M := by simp [h5]
          have hne5 : (((p + M : Nat) : Int) != (p : Int) + (M : Int)) = false := by simp
          have hpl : (pend ss).length ≤ 40 := Nat.le_trans (pendN_len ss _) (by omega)
          go_wp2_with fail
          refine (size_any F5 g _ _ HL5.out.d).mono ?_
          rintro e w6 ⟨rfl, rfl⟩
          rw [hlen5]
          go_wp2_with fail
          refine (pending_any F5 g _ _ HL5.out.d).mono ?_
          rintro e w6 ⟨PB, pb, rfl, hop6, hb6⟩
          rw [pend_grown] at hop6 ⊢
          have HOP6 := mkHid hop6
          have HOP56 := mkHid (own_below HOP5.out hb6)
          have HL6 := mkHid (HL5.out.below hb6)
          have HH6 := mkHid (HH5.out.below hb6)
          clear hop6 hb6
          go_wp2_with fail
          refine (ints_any PB PA _ _ pb pc (pend ss) (pend ss) _ ⟨SL.of_own HOP6.out, pendN_ok ss _ (by omega)⟩ ⟨SL.of_own HOP56.out, pendN_ok ss _ (by omega)⟩ (by omega) rfl).mono ?_
          rintro e w7 ⟨rfl, hb7⟩
          have HL7 := mkHid (HL6.out.below hb7)
          have HH7 := mkHid (HH6.out.below hb7)
          have HSS := mkHid (show ∀ s ∈ ss ++ List.replicate M sec0, s.bad = false from fun s hs => by
            rcases List.mem_append.1 hs with h | h
            · exact (HG4.out.all s h).1
            · rw [List.eq_of_mem_replicate h]; rfl)
          clear hb7
          go_wp2_with fail
          obtain ⟨wQ, rfl⟩ : ∃ x, x = wr := ⟨wr, rfl⟩
          go_loopw [143] (fun i wr => ∃ k : Nat, k ≤ p + M ∧ i = .int .i64 k ∧ LD w wr F5 g (ss ++ List.replicate M sec0) ∧ HD wr F5 w.heap.size A p C (lasts ss p) vs) (fun i _ => p + M - (intOf i).toNat)
          case atStart => exact ⟨0, Nat.zero_le _, rfl, HL7.out, HH7.out⟩
          case round =>
            clear HL7 HH7
            obtain ⟨k, hk, rfl, hl, hh⟩ := hrel
            have HL8 := mkHid hl
            have HH8 := mkHid hh
            clear hl hh
            by_cases hlt3 : k < p + M
            · obtain ⟨s, hs⟩ : ∃ s, (ss ++ List.replicate M sec0)[k]? = some s := ⟨_, List.getElem?_eq_getElem (by omega)⟩
              have HBD := mkHid (HSS.out s (List.mem_of_getElem? hs))
              have HS := mkHid hs
              clear hs
              go_wp2_with fail
              refine (read_ok F5 g _ k s wr HL8.out.d HS.out HBD.out).mono ?_
              rintro e w8 ⟨A8, c8, rfl, ho8, hk8, _, hb8⟩
              have HO8 := mkHid ho8
              have HK8 := mkHid hk8
              have HL9 := mkHid (HL8.out.below hb8)
              have HH9 := mkHid (HH8.out.below hb8)
              clear ho8 hk8 hb8
              by_cases hkp : k < p
              · have hsl : (lasts ss p)[k]? = some s.last := by
                  have h1 := HS.out
                  rw [List.getElem?_append_left (by omega)] at h1
                  unfold lasts
                  rw [List.getElem?_map, List.getElem?_take, if_pos hkp, h1]
                  rfl
                obtain ⟨r, a9, c9, rfl, hc9, hb9⟩ := HH9.out.at_ hsl
                have hcap9 := own_cap HH9.out.row
                have HB9 := mkHid hb9
                clear hsl hb9
                go_wp2_with fail
                refine (same_any A8 a9 128 128 c8 c9 _ _ _ _ w8 ⟨SL.of_own HO8.out, HK8.out⟩ HB9.out).mono ?_
                rintro e w10 ⟨rfl, rfl⟩
                rw [decide_eq_true rfl]
                go_wp2_with fail
                go_roundw
                case rel => exact ⟨k + 1, by omega, by go_num, HL9.out, HH9.out⟩
                case measure => simp [intOf]; omega
              · have hs0 : s = sec0 := by
                  have h1 := HS.out
                  rw [List.getElem?_append_right (by omega), List.getElem?_replicate] at h1
                  split at h1
                  · injection h1 with h1; exact h1.symm
                  · cases h1
                subst hs0
                obtain ⟨ht, ⟨ii, z, hi, hz, hsi, hbi, hzs⟩, _⟩ := el_u8
                have hz' : z = .int .u8 0 := by
                  have : (Try.prog.info? 5).map (·.zero) = some (some (.int .u8 0)) := by kernel_rfl
                  rw [hi] at this
                  simp only [Option.map_some, Option.some.injEq] at this
                  rw [hz] at this
                  injection this
                subst hz'
                obtain ⟨wm, hrun, hom, hgm⟩ := run_make_full (P := Try.prog) (w := w8) w.heap.size _ _ ii _ 1 ht hi hz hsi .i64 .i64 128 (by rw [hbi]; omega) (by unfold maxLen; omega) HL9.out.bel.size
                rw [zeros_cells] at hom
                have hmk : ∀ W, W = w8 → (Instr.makeSlice 30 (.int .i64 128) (.int .i64 128)).run Try.prog W = .ok (.slice (some ⟨w8.heap.size, 0, none⟩) 128 128) wm := fun W hW => by
                  subst hW
                  exact hrun
                have hbm : Below w8.heap.size w8 wm := (Below.refl _ _).grown hgm (Nat.le_refl _) (fun k hk => by cases hk)
                have HOM := mkHid hom
                have HOM8 := mkHid (own_below HO8.out hbm)
                have HLM := mkHid (HL9.out.below hbm)
                have HHM := mkHid (HH9.out.below hbm)
                clear hrun hom hgm hbm ht hi hz hsi hbi hzs
                go_wp2_with fail
                clear hmk
                refine (same_any A8 (some ⟨w8.heap.size, 0, none⟩) 128 128 c8 128 _ _ _ _ wm ⟨SL.of_own HOM8.out, HK8.out⟩ ⟨SL.of_own HOM.out, zeros_ok⟩).mono ?_
                rintro e w10 ⟨rfl, rfl⟩
                rw [show decide (sec0.last = zeros) = true from rfl]
                go_wp2_with fail
                go_roundw
                case rel => exact ⟨k + 1, by omega, by go_num, HLM.out, HHM.out⟩
                case measure => simp [intOf]; omega
            · obtain rfl : k = p + M := by omega
              go_wp2_with fail
              refine (awake_any _).mono ?_
              rintro e w8 ⟨rfl, hb8⟩
              go_wp2_with fail
              go_ret
              exact ⟨rfl, (HL8.out.below hb8).bel⟩

end Go.Proofs.Ytpponofbkkikfaa
