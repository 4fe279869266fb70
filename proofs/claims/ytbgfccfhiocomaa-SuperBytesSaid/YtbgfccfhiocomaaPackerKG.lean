/- frame.Packer.put by contract, with what it leaves alone: every old block but the packer's own and its row's. -/
import Derived.Test.YtbgfccfhiocomaaPackerF
namespace Go.Proofs.Ytbgfccfhiocomaa
open Go.RowKit

/-- What put leaves alone: all below 'base'; every old block but the packer's (g) and its row's (r); the row's block behind it (r') is the old one or a new one. -/
structure PB (base : Nat) (w w' : World) (g : Nat) (r r' : Option Nat) : Prop where
  below : Below base w w'
  keep : ∀ b, b < w.heap.size → b ≠ g → some b ≠ r → w'.heap[b]? = w.heap[b]?
  row : r' = r ∨ ∃ q, r' = some q ∧ w.heap.size ≤ q
theorem PB.refl (base : Nat) (w : World) (g : Nat) (r : Option Nat) : PB base w w g r r := ⟨Below.refl _ _, fun _ _ _ _ => rfl, .inl rfl⟩
theorem PB.trans {base : Nat} {w w1 w2 : World} {g : Nat} {r r1 r2 : Option Nat} (h : PB base w w1 g r r1) (k : PB base w1 w2 g r1 r2) : PB base w w2 g r r2 := by
  have hs := h.below.size
  refine ⟨h.below.trans k.below, fun b hb hg hr => ?_, ?_⟩
  · have hr1 : some b ≠ r1 := by
      rcases h.row with e | ⟨q, e, hq⟩
      · rw [e]; exact hr
      · rw [e]; intro e2; injection e2 with e2; omega
    exact (k.keep b (by omega) hg hr1).trans (h.keep b hb hg hr)
  · rcases k.row with e | ⟨q, e, hq⟩
    · rcases h.row with e1 | ⟨q, e1, hq⟩
      · exact .inl (e.trans e1)
      · exact .inr ⟨q, e.trans e1, hq⟩
    · exact .inr ⟨q, e, by omega⟩

theorem PK.stepK {w w1 : World} {g base n C : Nat} {A : Option Addr} {bs : List Int} {bad b : Bool} {o : Obj} {A' : Option Addr} {n' C' : Nat} {bs' : List Int} (h : PK w g base A n C bs bad)
    (hg : ((w.setCell ⟨g, 1, none⟩ (.bool b)).alloc o).grownBy w1 (Value.slice A n C).ownBlock)
    (hat : (Value.slice A' n' C').ownBlock = (Value.slice A n C).ownBlock ∨ (Value.slice A' n' C').ownBlock = some ((w.setCell ⟨g, 1, none⟩ (.bool b)).alloc o).heap.size)
    (ho : w1.ownsRow base 5 1 (.slice A' n' C') n' (bs'.map u8)) (ok : okBytes bs') :
    PK (w1.setCell ⟨g, 0, none⟩ (.slice A' n' C')) g base A' n' C' bs' b ∧ PB base w (w1.setCell ⟨g, 0, none⟩ (.slice A' n' C')) g (Value.slice A n C).ownBlock (Value.slice A' n' C').ownBlock ∧
    (∀ (k : Nat) (cs : Array Value) (t : TypeId) (fr : Nat × Nat), w.heap[k]? = some (.cells cs t fr) → t ≠ 5 → t ≠ 118 → (w1.setCell ⟨g, 0, none⟩ (.slice A' n' C')).heap[k]? = some (.cells cs t fr)) := by
  obtain ⟨h1, h2, h3⟩ := h.step hg ho ok
  refine ⟨h1, ⟨h2, fun q hq hqg hqr => ?_, ?_⟩, h3⟩
  · rw [heap_setCell_other _ _ _ _ hqg, hg.block q (by simp [World.setCell]; omega) hqr, Below.heap_alloc _ _ _ (by simp [World.setCell]; exact hq), heap_setCell_other _ _ _ _ hqg]
  · rcases hat with e | e
    · exact .inl e
    · exact .inr ⟨_, e, by simp [World.setCell]⟩

set_option maxRecDepth 20000 in
set_option maxHeartbeats 2000000 in
/-- put, 1 byte a number: of numbers in a block of their own. -/
theorem put1_own (g base : Nat) (A : Option Addr) (n C : Nat) (bs : List Int) (bad : Bool) (k m cn : Nat) (l : List Int) (fr : Nat × Nat) (w : World) (hp : PK w g base A n C bs bad) (hnum : w.heap[k]? = some (.cells (l.map i64v).toArray 3 fr)) (hl : l.length = m) (hI : ∀ x ∈ l, I64 x) (hsz : n + 8 * m ≤ 1000000000000) (r0 : Option Nat) (hr0 : (Value.slice A n C).ownBlock = r0) :
    Calls Try.prog 68 #[.pointer (some ⟨g, 0, none⟩), .int .i64 1, .slice (some ⟨k, 0, none⟩) m cn] w fun e w' => e = .returned (.pointer (some ⟨g, 0, none⟩)) ∧ (∃ A' n' C', PK w' g base A' n' C' (bs ++ packs 1 l) (bad || !l.all (fits 1)) ∧ PB base w w' g r0 (Value.slice A' n' C').ownBlock) := by
  have hmb : m ≤ 1000000000000 := by omega
  go_enter Try.func68, Try.ntmps68
  go_wp2_with fail
  go_loopw [11] (fun i wr => ∃ (q n : Nat) (A : Option Addr) (C : Nat), q ≤ m ∧ i = .int .i64 q ∧ n + 8 * (m - q) ≤ 1000000000000 ∧ PK wr g base A n C (bs ++ packs 1 (l.take q)) (bad || !(l.take q).all (fits 1)) ∧ wr.heap[k]? = some (.cells (l.map i64v).toArray 3 fr) ∧ PB base w wr g r0 (Value.slice A n C).ownBlock) (fun i _ => m - (intOf i).toNat)
  case atStart => exact ⟨0, n, A, C, Nat.zero_le _, rfl, by omega, by simpa [packs] using hp, hnum, by rw [hr0]; exact PB.refl _ _ _ _⟩
  case round =>
    clear hp hnum hsz hr0 A n C
    obtain ⟨q, n, A, C, hq, rfl, hsz, pk0, hnum, hb⟩ := hrel
    by_cases hlt : q < m
    · have hc : wr.cell? ⟨k, q, none⟩ = some (.int .i64 (l[q]?.getD 0)) := by
        rw [cell_of_row _ _ _ _ _ _ hnum, List.getElem?_toArray, List.getElem?_map, List.getElem?_eq_getElem (by omega)]; rfl
      have hN := hI (l[q]?.getD 0) (by rw [List.getElem?_eq_getElem (by omega)]; exact List.getElem_mem _)
      have HP := mkHid (packs_succ 1 l q (by omega))
      have HA := mkHid (all_succ_fits 1 l q (by omega) bad)
      have HHL := mkHid hl
      clear hl hI
      generalize l[q]?.getD 0 = N at *
      generalize hbad0 : (bad || !(l.take q).all (fits 1)) = bad0 at *
      have HBD := mkHid hbad0
      clear hbad0
      obtain ⟨hN1, hN2⟩ := hN
      cases bad0 with
      | true =>
        have PKS1 := mkHid ((pk0.setBad true).alloc (.cells #[.int .u8 (N % 256)] 5))
        obtain ⟨c0, c1, f0, f1⟩ := pk0.facts
        have hlt1 := pk0.lt
        have hgb1 := pk0.gb
        have hln1 := pk0.len
        have HLN1 := mkHid hln1
        clear hln1
        go_upto_region 16 with (at_builtin; refine wpList_app _ rfl (.tmp 149) (.tmp 152) _ rfl base el_u8 A n C _ rfl PKS1.out.own (wr.heap.size + 1) (some ⟨wr.heap.size, 0, none⟩) 1 1 ([N % 256].map Go.Proofs.Ytbgfccfhiocomaa.u8) rfl (SL.new _ (by simp [World.setCell]) rfl) (u8_cells _) (by unfold maxLen; omega) (by omega) (by simp [World.setCell]; omega) ?_; intro A1 C1 x1 hown1 hg1 hat1; have HAT1 := mkHid hat1; clear hat1; obtain ⟨d0, d1, e0, e1⟩ := facts2 (PKS1.out.grown hg1))
        rw [← List.map_append] at hown1
        obtain ⟨pk1, hB1, hK1⟩ := pk0.stepK hg1 HAT1.out hown1 (pk0.ok.append (bytes_ok _ (by intro x hx; simp only [List.mem_cons, List.not_mem_nil, or_false] at hx; omega)))
        have hn1 := hK1 _ _ _ _ hnum (by decide) (by decide)
        generalize hv1 : World.setCell x1 _ _ = v1 at *
        clear hv1 hg1 hK1 hown1 HAT1 d0 d1 e0 e1 c0 c1 f0 f1 PKS1
        go_wp2_with fail
        go_roundw
        case rel =>
          have hfin : PK v1 g base A1 (n + 1) C1 (bs ++ packs 1 (l.take (q + 1))) (bad || !(l.take (q + 1)).all (fits 1)) := by
            rw [HP.out, HA.out, ← List.append_assoc, nb1_eq, Bool.true_or]
            exact pk1
          exact ⟨q + 1, (n + 1), A1, C1, by omega, by go_num, by omega, hfin, hn1, hb.trans hB1⟩
        case measure => simp [intOf]; omega
      | false =>
        by_cases hneg : N < 0
        · have HFT := mkHid (show fits 1 N = false by unfold fits; rw [if_neg (by decide)]; exact decide_eq_false (by omega))
          have PKS1 := mkHid ((pk0.setBad true).alloc (.cells #[.int .u8 (N % 256)] 5))
          obtain ⟨c0, c1, f0, f1⟩ := pk0.facts
          have hlt1 := pk0.lt
          have hgb1 := pk0.gb
          have hln1 := pk0.len
          have HLN1 := mkHid hln1
          clear hln1
          go_upto_region 16 with (at_builtin; refine wpList_app _ rfl (.tmp 149) (.tmp 152) _ rfl base el_u8 A n C _ rfl PKS1.out.own (wr.heap.size + 1) (some ⟨wr.heap.size, 0, none⟩) 1 1 ([N % 256].map Go.Proofs.Ytbgfccfhiocomaa.u8) rfl (SL.new _ (by simp [World.setCell]) rfl) (u8_cells _) (by unfold maxLen; omega) (by omega) (by simp [World.setCell]; omega) ?_; intro A1 C1 x1 hown1 hg1 hat1; have HAT1 := mkHid hat1; clear hat1; obtain ⟨d0, d1, e0, e1⟩ := facts2 (PKS1.out.grown hg1))
          rw [← List.map_append] at hown1
          obtain ⟨pk1, hB1, hK1⟩ := pk0.stepK hg1 HAT1.out hown1 (pk0.ok.append (bytes_ok _ (by intro x hx; simp only [List.mem_cons, List.not_mem_nil, or_false] at hx; omega)))
          have hn1 := hK1 _ _ _ _ hnum (by decide) (by decide)
          generalize hv1 : World.setCell x1 _ _ = v1 at *
          clear hv1 hg1 hK1 hown1 HAT1 d0 d1 e0 e1 c0 c1 f0 f1 PKS1
          go_wp2_with fail
          go_roundw
          case rel =>
            have hfin : PK v1 g base A1 (n + 1) C1 (bs ++ packs 1 (l.take (q + 1))) (bad || !(l.take (q + 1)).all (fits 1)) := by
              rw [HP.out, HA.out, ← List.append_assoc, nb1_eq, HFT.out, show (false || !false) = true from rfl]
              exact pk1
            exact ⟨q + 1, (n + 1), A1, C1, by omega, by go_num, by omega, hfin, hn1, hb.trans hB1⟩
          case measure => simp [intOf]; omega
        by_cases hbig : 256 ≤ N
        · have HFT := mkHid (show fits 1 N = false by unfold fits; rw [if_neg (by decide)]; exact decide_eq_false (fun h => absurd h.2 (by rw [show (256 : Int) ^ 1 = 256 from rfl]; omega)))
          have hsh : (N / 256 != 0) = true := by rw [bne_iff_ne]; omega
          have PKS1 := mkHid ((pk0.setBad true).alloc (.cells #[.int .u8 (N % 256)] 5))
          obtain ⟨c0, c1, f0, f1⟩ := pk0.facts
          have hlt1 := pk0.lt
          have hgb1 := pk0.gb
          have hln1 := pk0.len
          have HLN1 := mkHid hln1
          clear hln1
          go_upto_region 16 with (at_builtin; refine wpList_app _ rfl (.tmp 149) (.tmp 152) _ rfl base el_u8 A n C _ rfl PKS1.out.own (wr.heap.size + 1) (some ⟨wr.heap.size, 0, none⟩) 1 1 ([N % 256].map Go.Proofs.Ytbgfccfhiocomaa.u8) rfl (SL.new _ (by simp [World.setCell]) rfl) (u8_cells _) (by unfold maxLen; omega) (by omega) (by simp [World.setCell]; omega) ?_; intro A1 C1 x1 hown1 hg1 hat1; have HAT1 := mkHid hat1; clear hat1; obtain ⟨d0, d1, e0, e1⟩ := facts2 (PKS1.out.grown hg1))
          rw [← List.map_append] at hown1
          obtain ⟨pk1, hB1, hK1⟩ := pk0.stepK hg1 HAT1.out hown1 (pk0.ok.append (bytes_ok _ (by intro x hx; simp only [List.mem_cons, List.not_mem_nil, or_false] at hx; omega)))
          have hn1 := hK1 _ _ _ _ hnum (by decide) (by decide)
          generalize hv1 : World.setCell x1 _ _ = v1 at *
          clear hv1 hg1 hK1 hown1 HAT1 d0 d1 e0 e1 c0 c1 f0 f1 PKS1
          go_wp2_with fail
          go_roundw
          case rel =>
            have hfin : PK v1 g base A1 (n + 1) C1 (bs ++ packs 1 (l.take (q + 1))) (bad || !(l.take (q + 1)).all (fits 1)) := by
              rw [HP.out, HA.out, ← List.append_assoc, nb1_eq, HFT.out, show (false || !false) = true from rfl]
              exact pk1
            exact ⟨q + 1, (n + 1), A1, C1, by omega, by go_num, by omega, hfin, hn1, hb.trans hB1⟩
          case measure => simp [intOf]; omega
        have HFT := mkHid (show fits 1 N = true by unfold fits; rw [if_neg (by decide)]; exact decide_eq_true ⟨by omega, by rw [show (256 : Int) ^ 1 = 256 from rfl]; omega⟩)
        have hsh : (N / 256 != 0) = false := by rw [bne_eq_false_iff_eq]; omega
        have HBG := mkHid hbig
        clear hbig
        have PKS1 := mkHid ((pk0.setBad false).alloc (.cells #[.int .u8 (N % 256)] 5))
        obtain ⟨c0, c1, f0, f1⟩ := pk0.facts
        have hlt1 := pk0.lt
        have hgb1 := pk0.gb
        have hln1 := pk0.len
        have HLN1 := mkHid hln1
        clear hln1
        go_upto_region 16 with (at_builtin; refine wpList_app _ rfl (.tmp 149) (.tmp 152) _ rfl base el_u8 A n C _ rfl PKS1.out.own (wr.heap.size + 1) (some ⟨wr.heap.size, 0, none⟩) 1 1 ([N % 256].map Go.Proofs.Ytbgfccfhiocomaa.u8) rfl (SL.new _ (by simp [World.setCell]) rfl) (u8_cells _) (by unfold maxLen; omega) (by omega) (by simp [World.setCell]; omega) ?_; intro A1 C1 x1 hown1 hg1 hat1; have HAT1 := mkHid hat1; clear hat1; obtain ⟨d0, d1, e0, e1⟩ := facts2 (PKS1.out.grown hg1))
        rw [← List.map_append] at hown1
        obtain ⟨pk1, hB1, hK1⟩ := pk0.stepK hg1 HAT1.out hown1 (pk0.ok.append (bytes_ok _ (by intro x hx; simp only [List.mem_cons, List.not_mem_nil, or_false] at hx; omega)))
        have hn1 := hK1 _ _ _ _ hnum (by decide) (by decide)
        generalize hv1 : World.setCell x1 _ _ = v1 at *
        clear hv1 hg1 hK1 hown1 HAT1 d0 d1 e0 e1 c0 c1 f0 f1 PKS1
        go_wp2_with fail
        go_roundw
        case rel =>
          have hfin : PK v1 g base A1 (n + 1) C1 (bs ++ packs 1 (l.take (q + 1))) (bad || !(l.take (q + 1)).all (fits 1)) := by
            rw [HP.out, HA.out, ← List.append_assoc, nb1_eq, HFT.out, show (false || !true) = false from rfl]
            exact pk1
          exact ⟨q + 1, (n + 1), A1, C1, by omega, by go_num, by omega, hfin, hn1, hb.trans hB1⟩
        case measure => simp [intOf]; omega
    · obtain rfl : q = m := by omega
      rw [List.take_of_length_le (by omega)] at pk0
      go_wp2_with fail
      go_ret
      exact ⟨rfl, ⟨A, n, C, pk0, hb⟩⟩

set_option maxRecDepth 20000 in
set_option maxHeartbeats 2000000 in
/-- put, 2 bytes a number: of numbers in a block of their own. -/
theorem put2_own (g base : Nat) (A : Option Addr) (n C : Nat) (bs : List Int) (bad : Bool) (k m cn : Nat) (l : List Int) (fr : Nat × Nat) (w : World) (hp : PK w g base A n C bs bad) (hnum : w.heap[k]? = some (.cells (l.map i64v).toArray 3 fr)) (hl : l.length = m) (hI : ∀ x ∈ l, I64 x) (hsz : n + 8 * m ≤ 1000000000000) (r0 : Option Nat) (hr0 : (Value.slice A n C).ownBlock = r0) :
    Calls Try.prog 68 #[.pointer (some ⟨g, 0, none⟩), .int .i64 2, .slice (some ⟨k, 0, none⟩) m cn] w fun e w' => e = .returned (.pointer (some ⟨g, 0, none⟩)) ∧ (∃ A' n' C', PK w' g base A' n' C' (bs ++ packs 2 l) (bad || !l.all (fits 2)) ∧ PB base w w' g r0 (Value.slice A' n' C').ownBlock) := by
  have hmb : m ≤ 1000000000000 := by omega
  go_enter Try.func68, Try.ntmps68
  go_wp2_with fail
  go_loopw [11] (fun i wr => ∃ (q n : Nat) (A : Option Addr) (C : Nat), q ≤ m ∧ i = .int .i64 q ∧ n + 8 * (m - q) ≤ 1000000000000 ∧ PK wr g base A n C (bs ++ packs 2 (l.take q)) (bad || !(l.take q).all (fits 2)) ∧ wr.heap[k]? = some (.cells (l.map i64v).toArray 3 fr) ∧ PB base w wr g r0 (Value.slice A n C).ownBlock) (fun i _ => m - (intOf i).toNat)
  case atStart => exact ⟨0, n, A, C, Nat.zero_le _, rfl, by omega, by simpa [packs] using hp, hnum, by rw [hr0]; exact PB.refl _ _ _ _⟩
  case round =>
    clear hp hnum hsz hr0 A n C
    obtain ⟨q, n, A, C, hq, rfl, hsz, pk0, hnum, hb⟩ := hrel
    by_cases hlt : q < m
    · have hc : wr.cell? ⟨k, q, none⟩ = some (.int .i64 (l[q]?.getD 0)) := by
        rw [cell_of_row _ _ _ _ _ _ hnum, List.getElem?_toArray, List.getElem?_map, List.getElem?_eq_getElem (by omega)]; rfl
      have hN := hI (l[q]?.getD 0) (by rw [List.getElem?_eq_getElem (by omega)]; exact List.getElem_mem _)
      have HP := mkHid (packs_succ 2 l q (by omega))
      have HA := mkHid (all_succ_fits 2 l q (by omega) bad)
      have HHL := mkHid hl
      clear hl hI
      generalize l[q]?.getD 0 = N at *
      generalize hbad0 : (bad || !(l.take q).all (fits 2)) = bad0 at *
      have HBD := mkHid hbad0
      clear hbad0
      obtain ⟨hN1, hN2⟩ := hN
      cases bad0 with
      | true =>
        have PKS1 := mkHid ((pk0.setBad true).alloc (.cells #[.int .u8 (N / 256 % 256)] 5))
        obtain ⟨c0, c1, f0, f1⟩ := pk0.facts
        have hlt1 := pk0.lt
        have hgb1 := pk0.gb
        have hln1 := pk0.len
        have HLN1 := mkHid hln1
        clear hln1
        go_upto_region 14 with (at_builtin; refine wpList_app _ rfl (.tmp 117) (.tmp 121) _ rfl base el_u8 A n C _ rfl PKS1.out.own (wr.heap.size + 1) (some ⟨wr.heap.size, 0, none⟩) 1 1 ([N / 256 % 256].map Go.Proofs.Ytbgfccfhiocomaa.u8) rfl (SL.new _ (by simp [World.setCell]) rfl) (u8_cells _) (by unfold maxLen; omega) (by omega) (by simp [World.setCell]; omega) ?_; intro A1 C1 x1 hown1 hg1 hat1; have HAT1 := mkHid hat1; clear hat1; obtain ⟨d0, d1, e0, e1⟩ := facts2 (PKS1.out.grown hg1))
        rw [← List.map_append] at hown1
        obtain ⟨pk1, hB1, hK1⟩ := pk0.stepK hg1 HAT1.out hown1 (pk0.ok.append (bytes_ok _ (by intro x hx; simp only [List.mem_cons, List.not_mem_nil, or_false] at hx; omega)))
        have hn1 := hK1 _ _ _ _ hnum (by decide) (by decide)
        generalize hv1 : World.setCell x1 _ _ = v1 at *
        clear hv1 hg1 hK1 hown1 HAT1 d0 d1 e0 e1 c0 c1 f0 f1 PKS1
        have PKS2 := mkHid ((pk1.setBad true).alloc (.cells #[.int .u8 (N % 256)] 5))
        obtain ⟨c0, c1, f0, f1⟩ := pk1.facts
        have hlt2 := pk1.lt
        have hgb2 := pk1.gb
        have hln2 := pk1.len
        have HLN2 := mkHid hln2
        clear hln2
        go_upto_region 16 with (at_builtin; refine wpList_app _ rfl (.tmp 149) (.tmp 152) _ rfl base el_u8 A1 (n + 1) C1 _ rfl PKS2.out.own (v1.heap.size + 1) (some ⟨v1.heap.size, 0, none⟩) 1 1 ([N % 256].map Go.Proofs.Ytbgfccfhiocomaa.u8) rfl (SL.new _ (by simp [World.setCell]) rfl) (u8_cells _) (by unfold maxLen; omega) (by omega) (by simp [World.setCell]; omega) ?_; intro A2 C2 x2 hown2 hg2 hat2; have HAT2 := mkHid hat2; clear hat2; obtain ⟨d0, d1, e0, e1⟩ := facts2 (PKS2.out.grown hg2))
        rw [← List.map_append] at hown2
        obtain ⟨pk2, hB2, hK2⟩ := pk1.stepK hg2 HAT2.out hown2 (pk1.ok.append (bytes_ok _ (by intro x hx; simp only [List.mem_cons, List.not_mem_nil, or_false] at hx; omega)))
        have hn2 := hK2 _ _ _ _ hn1 (by decide) (by decide)
        generalize hv2 : World.setCell x2 _ _ = v2 at *
        clear hv2 hg2 hK2 hown2 HAT2 d0 d1 e0 e1 c0 c1 f0 f1 PKS2
        go_wp2_with fail
        go_roundw
        case rel =>
          have hfin : PK v2 g base A2 ((n + 1) + 1) C2 (bs ++ packs 2 (l.take (q + 1))) (bad || !(l.take (q + 1)).all (fits 2)) := by
            rw [HP.out, HA.out, ← List.append_assoc, nb2_eq, Bool.true_or]
            exact pk2
          exact ⟨q + 1, ((n + 1) + 1), A2, C2, by omega, by go_num, by omega, hfin, hn2, hb.trans (hB1.trans hB2)⟩
        case measure => simp [intOf]; omega
      | false =>
        by_cases hneg : N < 0
        · have HFT := mkHid (show fits 2 N = false by unfold fits; rw [if_neg (by decide)]; exact decide_eq_false (by omega))
          have PKS1 := mkHid ((pk0.setBad true).alloc (.cells #[.int .u8 (N / 256 % 256)] 5))
          obtain ⟨c0, c1, f0, f1⟩ := pk0.facts
          have hlt1 := pk0.lt
          have hgb1 := pk0.gb
          have hln1 := pk0.len
          have HLN1 := mkHid hln1
          clear hln1
          go_upto_region 14 with (at_builtin; refine wpList_app _ rfl (.tmp 117) (.tmp 121) _ rfl base el_u8 A n C _ rfl PKS1.out.own (wr.heap.size + 1) (some ⟨wr.heap.size, 0, none⟩) 1 1 ([N / 256 % 256].map Go.Proofs.Ytbgfccfhiocomaa.u8) rfl (SL.new _ (by simp [World.setCell]) rfl) (u8_cells _) (by unfold maxLen; omega) (by omega) (by simp [World.setCell]; omega) ?_; intro A1 C1 x1 hown1 hg1 hat1; have HAT1 := mkHid hat1; clear hat1; obtain ⟨d0, d1, e0, e1⟩ := facts2 (PKS1.out.grown hg1))
          rw [← List.map_append] at hown1
          obtain ⟨pk1, hB1, hK1⟩ := pk0.stepK hg1 HAT1.out hown1 (pk0.ok.append (bytes_ok _ (by intro x hx; simp only [List.mem_cons, List.not_mem_nil, or_false] at hx; omega)))
          have hn1 := hK1 _ _ _ _ hnum (by decide) (by decide)
          generalize hv1 : World.setCell x1 _ _ = v1 at *
          clear hv1 hg1 hK1 hown1 HAT1 d0 d1 e0 e1 c0 c1 f0 f1 PKS1
          have PKS2 := mkHid ((pk1.setBad true).alloc (.cells #[.int .u8 (N % 256)] 5))
          obtain ⟨c0, c1, f0, f1⟩ := pk1.facts
          have hlt2 := pk1.lt
          have hgb2 := pk1.gb
          have hln2 := pk1.len
          have HLN2 := mkHid hln2
          clear hln2
          go_upto_region 16 with (at_builtin; refine wpList_app _ rfl (.tmp 149) (.tmp 152) _ rfl base el_u8 A1 (n + 1) C1 _ rfl PKS2.out.own (v1.heap.size + 1) (some ⟨v1.heap.size, 0, none⟩) 1 1 ([N % 256].map Go.Proofs.Ytbgfccfhiocomaa.u8) rfl (SL.new _ (by simp [World.setCell]) rfl) (u8_cells _) (by unfold maxLen; omega) (by omega) (by simp [World.setCell]; omega) ?_; intro A2 C2 x2 hown2 hg2 hat2; have HAT2 := mkHid hat2; clear hat2; obtain ⟨d0, d1, e0, e1⟩ := facts2 (PKS2.out.grown hg2))
          rw [← List.map_append] at hown2
          obtain ⟨pk2, hB2, hK2⟩ := pk1.stepK hg2 HAT2.out hown2 (pk1.ok.append (bytes_ok _ (by intro x hx; simp only [List.mem_cons, List.not_mem_nil, or_false] at hx; omega)))
          have hn2 := hK2 _ _ _ _ hn1 (by decide) (by decide)
          generalize hv2 : World.setCell x2 _ _ = v2 at *
          clear hv2 hg2 hK2 hown2 HAT2 d0 d1 e0 e1 c0 c1 f0 f1 PKS2
          go_wp2_with fail
          go_roundw
          case rel =>
            have hfin : PK v2 g base A2 ((n + 1) + 1) C2 (bs ++ packs 2 (l.take (q + 1))) (bad || !(l.take (q + 1)).all (fits 2)) := by
              rw [HP.out, HA.out, ← List.append_assoc, nb2_eq, HFT.out, show (false || !false) = true from rfl]
              exact pk2
            exact ⟨q + 1, ((n + 1) + 1), A2, C2, by omega, by go_num, by omega, hfin, hn2, hb.trans (hB1.trans hB2)⟩
          case measure => simp [intOf]; omega
        by_cases hbig : 65536 ≤ N
        · have HFT := mkHid (show fits 2 N = false by unfold fits; rw [if_neg (by decide)]; exact decide_eq_false (fun h => absurd h.2 (by rw [show (256 : Int) ^ 2 = 65536 from rfl]; omega)))
          have hsh : (N / 65536 != 0) = true := by rw [bne_iff_ne]; omega
          have PKS1 := mkHid ((pk0.setBad true).alloc (.cells #[.int .u8 (N / 256 % 256)] 5))
          obtain ⟨c0, c1, f0, f1⟩ := pk0.facts
          have hlt1 := pk0.lt
          have hgb1 := pk0.gb
          have hln1 := pk0.len
          have HLN1 := mkHid hln1
          clear hln1
          go_upto_region 14 with (at_builtin; refine wpList_app _ rfl (.tmp 117) (.tmp 121) _ rfl base el_u8 A n C _ rfl PKS1.out.own (wr.heap.size + 1) (some ⟨wr.heap.size, 0, none⟩) 1 1 ([N / 256 % 256].map Go.Proofs.Ytbgfccfhiocomaa.u8) rfl (SL.new _ (by simp [World.setCell]) rfl) (u8_cells _) (by unfold maxLen; omega) (by omega) (by simp [World.setCell]; omega) ?_; intro A1 C1 x1 hown1 hg1 hat1; have HAT1 := mkHid hat1; clear hat1; obtain ⟨d0, d1, e0, e1⟩ := facts2 (PKS1.out.grown hg1))
          rw [← List.map_append] at hown1
          obtain ⟨pk1, hB1, hK1⟩ := pk0.stepK hg1 HAT1.out hown1 (pk0.ok.append (bytes_ok _ (by intro x hx; simp only [List.mem_cons, List.not_mem_nil, or_false] at hx; omega)))
          have hn1 := hK1 _ _ _ _ hnum (by decide) (by decide)
          generalize hv1 : World.setCell x1 _ _ = v1 at *
          clear hv1 hg1 hK1 hown1 HAT1 d0 d1 e0 e1 c0 c1 f0 f1 PKS1
          have PKS2 := mkHid ((pk1.setBad true).alloc (.cells #[.int .u8 (N % 256)] 5))
          obtain ⟨c0, c1, f0, f1⟩ := pk1.facts
          have hlt2 := pk1.lt
          have hgb2 := pk1.gb
          have hln2 := pk1.len
          have HLN2 := mkHid hln2
          clear hln2
          go_upto_region 16 with (at_builtin; refine wpList_app _ rfl (.tmp 149) (.tmp 152) _ rfl base el_u8 A1 (n + 1) C1 _ rfl PKS2.out.own (v1.heap.size + 1) (some ⟨v1.heap.size, 0, none⟩) 1 1 ([N % 256].map Go.Proofs.Ytbgfccfhiocomaa.u8) rfl (SL.new _ (by simp [World.setCell]) rfl) (u8_cells _) (by unfold maxLen; omega) (by omega) (by simp [World.setCell]; omega) ?_; intro A2 C2 x2 hown2 hg2 hat2; have HAT2 := mkHid hat2; clear hat2; obtain ⟨d0, d1, e0, e1⟩ := facts2 (PKS2.out.grown hg2))
          rw [← List.map_append] at hown2
          obtain ⟨pk2, hB2, hK2⟩ := pk1.stepK hg2 HAT2.out hown2 (pk1.ok.append (bytes_ok _ (by intro x hx; simp only [List.mem_cons, List.not_mem_nil, or_false] at hx; omega)))
          have hn2 := hK2 _ _ _ _ hn1 (by decide) (by decide)
          generalize hv2 : World.setCell x2 _ _ = v2 at *
          clear hv2 hg2 hK2 hown2 HAT2 d0 d1 e0 e1 c0 c1 f0 f1 PKS2
          go_wp2_with fail
          go_roundw
          case rel =>
            have hfin : PK v2 g base A2 ((n + 1) + 1) C2 (bs ++ packs 2 (l.take (q + 1))) (bad || !(l.take (q + 1)).all (fits 2)) := by
              rw [HP.out, HA.out, ← List.append_assoc, nb2_eq, HFT.out, show (false || !false) = true from rfl]
              exact pk2
            exact ⟨q + 1, ((n + 1) + 1), A2, C2, by omega, by go_num, by omega, hfin, hn2, hb.trans (hB1.trans hB2)⟩
          case measure => simp [intOf]; omega
        have HFT := mkHid (show fits 2 N = true by unfold fits; rw [if_neg (by decide)]; exact decide_eq_true ⟨by omega, by rw [show (256 : Int) ^ 2 = 65536 from rfl]; omega⟩)
        have hsh : (N / 65536 != 0) = false := by rw [bne_eq_false_iff_eq]; omega
        have HBG := mkHid hbig
        clear hbig
        have PKS1 := mkHid ((pk0.setBad false).alloc (.cells #[.int .u8 (N / 256 % 256)] 5))
        obtain ⟨c0, c1, f0, f1⟩ := pk0.facts
        have hlt1 := pk0.lt
        have hgb1 := pk0.gb
        have hln1 := pk0.len
        have HLN1 := mkHid hln1
        clear hln1
        go_upto_region 14 with (at_builtin; refine wpList_app _ rfl (.tmp 117) (.tmp 121) _ rfl base el_u8 A n C _ rfl PKS1.out.own (wr.heap.size + 1) (some ⟨wr.heap.size, 0, none⟩) 1 1 ([N / 256 % 256].map Go.Proofs.Ytbgfccfhiocomaa.u8) rfl (SL.new _ (by simp [World.setCell]) rfl) (u8_cells _) (by unfold maxLen; omega) (by omega) (by simp [World.setCell]; omega) ?_; intro A1 C1 x1 hown1 hg1 hat1; have HAT1 := mkHid hat1; clear hat1; obtain ⟨d0, d1, e0, e1⟩ := facts2 (PKS1.out.grown hg1))
        rw [← List.map_append] at hown1
        obtain ⟨pk1, hB1, hK1⟩ := pk0.stepK hg1 HAT1.out hown1 (pk0.ok.append (bytes_ok _ (by intro x hx; simp only [List.mem_cons, List.not_mem_nil, or_false] at hx; omega)))
        have hn1 := hK1 _ _ _ _ hnum (by decide) (by decide)
        generalize hv1 : World.setCell x1 _ _ = v1 at *
        clear hv1 hg1 hK1 hown1 HAT1 d0 d1 e0 e1 c0 c1 f0 f1 PKS1
        have PKS2 := mkHid ((pk1.setBad false).alloc (.cells #[.int .u8 (N % 256)] 5))
        obtain ⟨c0, c1, f0, f1⟩ := pk1.facts
        have hlt2 := pk1.lt
        have hgb2 := pk1.gb
        have hln2 := pk1.len
        have HLN2 := mkHid hln2
        clear hln2
        go_upto_region 16 with (at_builtin; refine wpList_app _ rfl (.tmp 149) (.tmp 152) _ rfl base el_u8 A1 (n + 1) C1 _ rfl PKS2.out.own (v1.heap.size + 1) (some ⟨v1.heap.size, 0, none⟩) 1 1 ([N % 256].map Go.Proofs.Ytbgfccfhiocomaa.u8) rfl (SL.new _ (by simp [World.setCell]) rfl) (u8_cells _) (by unfold maxLen; omega) (by omega) (by simp [World.setCell]; omega) ?_; intro A2 C2 x2 hown2 hg2 hat2; have HAT2 := mkHid hat2; clear hat2; obtain ⟨d0, d1, e0, e1⟩ := facts2 (PKS2.out.grown hg2))
        rw [← List.map_append] at hown2
        obtain ⟨pk2, hB2, hK2⟩ := pk1.stepK hg2 HAT2.out hown2 (pk1.ok.append (bytes_ok _ (by intro x hx; simp only [List.mem_cons, List.not_mem_nil, or_false] at hx; omega)))
        have hn2 := hK2 _ _ _ _ hn1 (by decide) (by decide)
        generalize hv2 : World.setCell x2 _ _ = v2 at *
        clear hv2 hg2 hK2 hown2 HAT2 d0 d1 e0 e1 c0 c1 f0 f1 PKS2
        go_wp2_with fail
        go_roundw
        case rel =>
          have hfin : PK v2 g base A2 ((n + 1) + 1) C2 (bs ++ packs 2 (l.take (q + 1))) (bad || !(l.take (q + 1)).all (fits 2)) := by
            rw [HP.out, HA.out, ← List.append_assoc, nb2_eq, HFT.out, show (false || !true) = false from rfl]
            exact pk2
          exact ⟨q + 1, ((n + 1) + 1), A2, C2, by omega, by go_num, by omega, hfin, hn2, hb.trans (hB1.trans hB2)⟩
        case measure => simp [intOf]; omega
    · obtain rfl : q = m := by omega
      rw [List.take_of_length_le (by omega)] at pk0
      go_wp2_with fail
      go_ret
      exact ⟨rfl, ⟨A, n, C, pk0, hb⟩⟩


end Go.Proofs.Ytbgfccfhiocomaa
