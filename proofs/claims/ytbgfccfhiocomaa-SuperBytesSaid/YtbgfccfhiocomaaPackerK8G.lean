/- frame.Packer.put by contract, with what it leaves alone: every old block but the packer's own and its row's. -/
import Derived.Test.YtbgfccfhiocomaaPackerKG
namespace Go.Proofs.Ytbgfccfhiocomaa
open Go.RowKit

set_option maxRecDepth 20000 in
set_option maxHeartbeats 2000000 in
/-- put, 8 bytes a number: of numbers in a block of their own. -/
theorem put8_own (g base : Nat) (A : Option Addr) (n C : Nat) (bs : List Int) (bad : Bool) (k m cn : Nat) (l : List Int) (fr : Nat × Nat) (w : World) (hp : PK w g base A n C bs bad) (hnum : w.heap[k]? = some (.cells (l.map i64v).toArray 3 fr)) (hl : l.length = m) (hI : ∀ x ∈ l, I64 x) (hsz : n + 8 * m ≤ 1000000000000) (r0 : Option Nat) (hr0 : (Value.slice A n C).ownBlock = r0) :
    Calls Try.prog 68 #[.pointer (some ⟨g, 0, none⟩), .int .i64 8, .slice (some ⟨k, 0, none⟩) m cn] w fun e w' => e = .returned (.pointer (some ⟨g, 0, none⟩)) ∧ (∃ A' n' C', PK w' g base A' n' C' (bs ++ packs 8 l) (bad || !l.all (fits 8)) ∧ PB base w w' g r0 (Value.slice A' n' C').ownBlock) := by
  have hmb : m ≤ 1000000000000 := by omega
  go_enter Try.func68, Try.ntmps68
  go_wp2_with fail
  go_loopw [11] (fun i wr => ∃ (q n : Nat) (A : Option Addr) (C : Nat), q ≤ m ∧ i = .int .i64 q ∧ n + 8 * (m - q) ≤ 1000000000000 ∧ PK wr g base A n C (bs ++ packs 8 (l.take q)) (bad || !(l.take q).all (fits 8)) ∧ wr.heap[k]? = some (.cells (l.map i64v).toArray 3 fr) ∧ PB base w wr g r0 (Value.slice A n C).ownBlock) (fun i _ => m - (intOf i).toNat)
  case atStart => exact ⟨0, n, A, C, Nat.zero_le _, rfl, by omega, by simpa [packs] using hp, hnum, by rw [hr0]; exact PB.refl _ _ _ _⟩
  case round =>
    clear hp hnum hsz hr0 A n C
    obtain ⟨q, n, A, C, hq, rfl, hsz, pk0, hnum, hb⟩ := hrel
    by_cases hlt : q < m
    · have hc : wr.cell? ⟨k, q, none⟩ = some (.int .i64 (l[q]?.getD 0)) := by
        rw [cell_of_row _ _ _ _ _ _ hnum, List.getElem?_toArray, List.getElem?_map, List.getElem?_eq_getElem (by omega)]; rfl
      have hN := hI (l[q]?.getD 0) (by rw [List.getElem?_eq_getElem (by omega)]; exact List.getElem_mem _)
      have HP := mkHid (packs_succ 8 l q (by omega))
      have HA := mkHid (all_succ_fits 8 l q (by omega) bad)
      have HHL := mkHid hl
      clear hl hI
      generalize l[q]?.getD 0 = N at *
      generalize hbad0 : (bad || !(l.take q).all (fits 8)) = bad0 at *
      have HBD := mkHid hbad0
      clear hbad0
      obtain ⟨hN1, hN2⟩ := hN
      cases bad0 with
      | true =>
        have PKS1 := mkHid ((pk0.setBad true).alloc (.cells #[.int .u8 (N / 72057594037927936 % 256), .int .u8 (N / 281474976710656 % 256), .int .u8 (N / 1099511627776 % 256), .int .u8 (N / 4294967296 % 256)] 5))
        obtain ⟨c0, c1, f0, f1⟩ := pk0.facts
        have hlt1 := pk0.lt
        have hgb1 := pk0.gb
        have hln1 := pk0.len
        have HLN1 := mkHid hln1
        clear hln1
        go_upto_region 10 with (at_builtin; refine wpList_app _ rfl (.tmp 41) (.tmp 54) _ rfl base el_u8 A n C _ rfl PKS1.out.own (wr.heap.size + 1) (some ⟨wr.heap.size, 0, none⟩) 4 4 ([N / 72057594037927936 % 256, N / 281474976710656 % 256, N / 1099511627776 % 256, N / 4294967296 % 256].map Go.Proofs.Ytbgfccfhiocomaa.u8) rfl (SL.new _ (by simp [World.setCell]) rfl) (u8_cells _) (by unfold maxLen; omega) (by omega) (by simp [World.setCell]; omega) ?_; intro A1 C1 x1 hown1 hg1 hat1; have HAT1 := mkHid hat1; clear hat1; obtain ⟨d0, d1, e0, e1⟩ := facts2 (PKS1.out.grown hg1))
        rw [← List.map_append] at hown1
        obtain ⟨pk1, hB1, hK1⟩ := pk0.stepK hg1 HAT1.out hown1 (pk0.ok.append (bytes_ok _ (by intro x hx; simp only [List.mem_cons, List.not_mem_nil, or_false] at hx; omega)))
        have hn1 := hK1 _ _ _ _ hnum (by decide) (by decide)
        generalize hv1 : World.setCell x1 _ _ = v1 at *
        clear hv1 hg1 hK1 hown1 HAT1 d0 d1 e0 e1 c0 c1 f0 f1 PKS1
        have PKS2 := mkHid ((pk1.setBad true).alloc (.cells #[.int .u8 (N / 16777216 % 256), .int .u8 (N / 65536 % 256)] 5))
        obtain ⟨c0, c1, f0, f1⟩ := pk1.facts
        have hlt2 := pk1.lt
        have hgb2 := pk1.gb
        have hln2 := pk1.len
        have HLN2 := mkHid hln2
        clear hln2
        go_upto_region 12 with (at_builtin; refine wpList_app _ rfl (.tmp 82) (.tmp 89) _ rfl base el_u8 A1 (n + 4) C1 _ rfl PKS2.out.own (v1.heap.size + 1) (some ⟨v1.heap.size, 0, none⟩) 2 2 ([N / 16777216 % 256, N / 65536 % 256].map Go.Proofs.Ytbgfccfhiocomaa.u8) rfl (SL.new _ (by simp [World.setCell]) rfl) (u8_cells _) (by unfold maxLen; omega) (by omega) (by simp [World.setCell]; omega) ?_; intro A2 C2 x2 hown2 hg2 hat2; have HAT2 := mkHid hat2; clear hat2; obtain ⟨d0, d1, e0, e1⟩ := facts2 (PKS2.out.grown hg2))
        rw [← List.map_append] at hown2
        obtain ⟨pk2, hB2, hK2⟩ := pk1.stepK hg2 HAT2.out hown2 (pk1.ok.append (bytes_ok _ (by intro x hx; simp only [List.mem_cons, List.not_mem_nil, or_false] at hx; omega)))
        have hn2 := hK2 _ _ _ _ hn1 (by decide) (by decide)
        generalize hv2 : World.setCell x2 _ _ = v2 at *
        clear hv2 hg2 hK2 hown2 HAT2 d0 d1 e0 e1 c0 c1 f0 f1 PKS2
        have PKS3 := mkHid ((pk2.setBad true).alloc (.cells #[.int .u8 (N / 256 % 256)] 5))
        obtain ⟨c0, c1, f0, f1⟩ := pk2.facts
        have hlt3 := pk2.lt
        have hgb3 := pk2.gb
        have hln3 := pk2.len
        have HLN3 := mkHid hln3
        clear hln3
        go_upto_region 14 with (at_builtin; refine wpList_app _ rfl (.tmp 117) (.tmp 121) _ rfl base el_u8 A2 ((n + 4) + 2) C2 _ rfl PKS3.out.own (v2.heap.size + 1) (some ⟨v2.heap.size, 0, none⟩) 1 1 ([N / 256 % 256].map Go.Proofs.Ytbgfccfhiocomaa.u8) rfl (SL.new _ (by simp [World.setCell]) rfl) (u8_cells _) (by unfold maxLen; omega) (by omega) (by simp [World.setCell]; omega) ?_; intro A3 C3 x3 hown3 hg3 hat3; have HAT3 := mkHid hat3; clear hat3; obtain ⟨d0, d1, e0, e1⟩ := facts2 (PKS3.out.grown hg3))
        rw [← List.map_append] at hown3
        obtain ⟨pk3, hB3, hK3⟩ := pk2.stepK hg3 HAT3.out hown3 (pk2.ok.append (bytes_ok _ (by intro x hx; simp only [List.mem_cons, List.not_mem_nil, or_false] at hx; omega)))
        have hn3 := hK3 _ _ _ _ hn2 (by decide) (by decide)
        generalize hv3 : World.setCell x3 _ _ = v3 at *
        clear hv3 hg3 hK3 hown3 HAT3 d0 d1 e0 e1 c0 c1 f0 f1 PKS3
        have PKS4 := mkHid ((pk3.setBad true).alloc (.cells #[.int .u8 (N % 256)] 5))
        obtain ⟨c0, c1, f0, f1⟩ := pk3.facts
        have hlt4 := pk3.lt
        have hgb4 := pk3.gb
        have hln4 := pk3.len
        have HLN4 := mkHid hln4
        clear hln4
        go_upto_region 16 with (at_builtin; refine wpList_app _ rfl (.tmp 149) (.tmp 152) _ rfl base el_u8 A3 (((n + 4) + 2) + 1) C3 _ rfl PKS4.out.own (v3.heap.size + 1) (some ⟨v3.heap.size, 0, none⟩) 1 1 ([N % 256].map Go.Proofs.Ytbgfccfhiocomaa.u8) rfl (SL.new _ (by simp [World.setCell]) rfl) (u8_cells _) (by unfold maxLen; omega) (by omega) (by simp [World.setCell]; omega) ?_; intro A4 C4 x4 hown4 hg4 hat4; have HAT4 := mkHid hat4; clear hat4; obtain ⟨d0, d1, e0, e1⟩ := facts2 (PKS4.out.grown hg4))
        rw [← List.map_append] at hown4
        obtain ⟨pk4, hB4, hK4⟩ := pk3.stepK hg4 HAT4.out hown4 (pk3.ok.append (bytes_ok _ (by intro x hx; simp only [List.mem_cons, List.not_mem_nil, or_false] at hx; omega)))
        have hn4 := hK4 _ _ _ _ hn3 (by decide) (by decide)
        generalize hv4 : World.setCell x4 _ _ = v4 at *
        clear hv4 hg4 hK4 hown4 HAT4 d0 d1 e0 e1 c0 c1 f0 f1 PKS4
        go_wp2_with fail
        go_roundw
        case rel =>
          have hfin : PK v4 g base A4 ((((n + 4) + 2) + 1) + 1) C4 (bs ++ packs 8 (l.take (q + 1))) (bad || !(l.take (q + 1)).all (fits 8)) := by
            rw [HP.out, HA.out, ← List.append_assoc, nb8_eq, Bool.true_or]
            exact pk4
          exact ⟨q + 1, ((((n + 4) + 2) + 1) + 1), A4, C4, by omega, by go_num, by omega, hfin, hn4, hb.trans (((hB1.trans hB2).trans hB3).trans hB4)⟩
        case measure => simp [intOf]; omega
      | false =>
        by_cases hneg : N < 0
        · have HFT := mkHid (show fits 8 N = false by unfold fits; rw [if_pos rfl]; exact decide_eq_false (by omega))
          have PKS1 := mkHid ((pk0.setBad true).alloc (.cells #[.int .u8 (N / 72057594037927936 % 256), .int .u8 (N / 281474976710656 % 256), .int .u8 (N / 1099511627776 % 256), .int .u8 (N / 4294967296 % 256)] 5))
          obtain ⟨c0, c1, f0, f1⟩ := pk0.facts
          have hlt1 := pk0.lt
          have hgb1 := pk0.gb
          have hln1 := pk0.len
          have HLN1 := mkHid hln1
          clear hln1
          go_upto_region 10 with (at_builtin; refine wpList_app _ rfl (.tmp 41) (.tmp 54) _ rfl base el_u8 A n C _ rfl PKS1.out.own (wr.heap.size + 1) (some ⟨wr.heap.size, 0, none⟩) 4 4 ([N / 72057594037927936 % 256, N / 281474976710656 % 256, N / 1099511627776 % 256, N / 4294967296 % 256].map Go.Proofs.Ytbgfccfhiocomaa.u8) rfl (SL.new _ (by simp [World.setCell]) rfl) (u8_cells _) (by unfold maxLen; omega) (by omega) (by simp [World.setCell]; omega) ?_; intro A1 C1 x1 hown1 hg1 hat1; have HAT1 := mkHid hat1; clear hat1; obtain ⟨d0, d1, e0, e1⟩ := facts2 (PKS1.out.grown hg1))
          rw [← List.map_append] at hown1
          obtain ⟨pk1, hB1, hK1⟩ := pk0.stepK hg1 HAT1.out hown1 (pk0.ok.append (bytes_ok _ (by intro x hx; simp only [List.mem_cons, List.not_mem_nil, or_false] at hx; omega)))
          have hn1 := hK1 _ _ _ _ hnum (by decide) (by decide)
          generalize hv1 : World.setCell x1 _ _ = v1 at *
          clear hv1 hg1 hK1 hown1 HAT1 d0 d1 e0 e1 c0 c1 f0 f1 PKS1
          have PKS2 := mkHid ((pk1.setBad true).alloc (.cells #[.int .u8 (N / 16777216 % 256), .int .u8 (N / 65536 % 256)] 5))
          obtain ⟨c0, c1, f0, f1⟩ := pk1.facts
          have hlt2 := pk1.lt
          have hgb2 := pk1.gb
          have hln2 := pk1.len
          have HLN2 := mkHid hln2
          clear hln2
          go_upto_region 12 with (at_builtin; refine wpList_app _ rfl (.tmp 82) (.tmp 89) _ rfl base el_u8 A1 (n + 4) C1 _ rfl PKS2.out.own (v1.heap.size + 1) (some ⟨v1.heap.size, 0, none⟩) 2 2 ([N / 16777216 % 256, N / 65536 % 256].map Go.Proofs.Ytbgfccfhiocomaa.u8) rfl (SL.new _ (by simp [World.setCell]) rfl) (u8_cells _) (by unfold maxLen; omega) (by omega) (by simp [World.setCell]; omega) ?_; intro A2 C2 x2 hown2 hg2 hat2; have HAT2 := mkHid hat2; clear hat2; obtain ⟨d0, d1, e0, e1⟩ := facts2 (PKS2.out.grown hg2))
          rw [← List.map_append] at hown2
          obtain ⟨pk2, hB2, hK2⟩ := pk1.stepK hg2 HAT2.out hown2 (pk1.ok.append (bytes_ok _ (by intro x hx; simp only [List.mem_cons, List.not_mem_nil, or_false] at hx; omega)))
          have hn2 := hK2 _ _ _ _ hn1 (by decide) (by decide)
          generalize hv2 : World.setCell x2 _ _ = v2 at *
          clear hv2 hg2 hK2 hown2 HAT2 d0 d1 e0 e1 c0 c1 f0 f1 PKS2
          have PKS3 := mkHid ((pk2.setBad true).alloc (.cells #[.int .u8 (N / 256 % 256)] 5))
          obtain ⟨c0, c1, f0, f1⟩ := pk2.facts
          have hlt3 := pk2.lt
          have hgb3 := pk2.gb
          have hln3 := pk2.len
          have HLN3 := mkHid hln3
          clear hln3
          go_upto_region 14 with (at_builtin; refine wpList_app _ rfl (.tmp 117) (.tmp 121) _ rfl base el_u8 A2 ((n + 4) + 2) C2 _ rfl PKS3.out.own (v2.heap.size + 1) (some ⟨v2.heap.size, 0, none⟩) 1 1 ([N / 256 % 256].map Go.Proofs.Ytbgfccfhiocomaa.u8) rfl (SL.new _ (by simp [World.setCell]) rfl) (u8_cells _) (by unfold maxLen; omega) (by omega) (by simp [World.setCell]; omega) ?_; intro A3 C3 x3 hown3 hg3 hat3; have HAT3 := mkHid hat3; clear hat3; obtain ⟨d0, d1, e0, e1⟩ := facts2 (PKS3.out.grown hg3))
          rw [← List.map_append] at hown3
          obtain ⟨pk3, hB3, hK3⟩ := pk2.stepK hg3 HAT3.out hown3 (pk2.ok.append (bytes_ok _ (by intro x hx; simp only [List.mem_cons, List.not_mem_nil, or_false] at hx; omega)))
          have hn3 := hK3 _ _ _ _ hn2 (by decide) (by decide)
          generalize hv3 : World.setCell x3 _ _ = v3 at *
          clear hv3 hg3 hK3 hown3 HAT3 d0 d1 e0 e1 c0 c1 f0 f1 PKS3
          have PKS4 := mkHid ((pk3.setBad true).alloc (.cells #[.int .u8 (N % 256)] 5))
          obtain ⟨c0, c1, f0, f1⟩ := pk3.facts
          have hlt4 := pk3.lt
          have hgb4 := pk3.gb
          have hln4 := pk3.len
          have HLN4 := mkHid hln4
          clear hln4
          go_upto_region 16 with (at_builtin; refine wpList_app _ rfl (.tmp 149) (.tmp 152) _ rfl base el_u8 A3 (((n + 4) + 2) + 1) C3 _ rfl PKS4.out.own (v3.heap.size + 1) (some ⟨v3.heap.size, 0, none⟩) 1 1 ([N % 256].map Go.Proofs.Ytbgfccfhiocomaa.u8) rfl (SL.new _ (by simp [World.setCell]) rfl) (u8_cells _) (by unfold maxLen; omega) (by omega) (by simp [World.setCell]; omega) ?_; intro A4 C4 x4 hown4 hg4 hat4; have HAT4 := mkHid hat4; clear hat4; obtain ⟨d0, d1, e0, e1⟩ := facts2 (PKS4.out.grown hg4))
          rw [← List.map_append] at hown4
          obtain ⟨pk4, hB4, hK4⟩ := pk3.stepK hg4 HAT4.out hown4 (pk3.ok.append (bytes_ok _ (by intro x hx; simp only [List.mem_cons, List.not_mem_nil, or_false] at hx; omega)))
          have hn4 := hK4 _ _ _ _ hn3 (by decide) (by decide)
          generalize hv4 : World.setCell x4 _ _ = v4 at *
          clear hv4 hg4 hK4 hown4 HAT4 d0 d1 e0 e1 c0 c1 f0 f1 PKS4
          go_wp2_with fail
          go_roundw
          case rel =>
            have hfin : PK v4 g base A4 ((((n + 4) + 2) + 1) + 1) C4 (bs ++ packs 8 (l.take (q + 1))) (bad || !(l.take (q + 1)).all (fits 8)) := by
              rw [HP.out, HA.out, ← List.append_assoc, nb8_eq, HFT.out, show (false || !false) = true from rfl]
              exact pk4
            exact ⟨q + 1, ((((n + 4) + 2) + 1) + 1), A4, C4, by omega, by go_num, by omega, hfin, hn4, hb.trans (((hB1.trans hB2).trans hB3).trans hB4)⟩
          case measure => simp [intOf]; omega
        by_cases hbig : 4611686018427387903 < N
        · have HFT := mkHid (show fits 8 N = false by unfold fits; rw [if_pos rfl]; exact decide_eq_false (by omega))
          have PKS1 := mkHid ((pk0.setBad true).alloc (.cells #[.int .u8 (N / 72057594037927936 % 256), .int .u8 (N / 281474976710656 % 256), .int .u8 (N / 1099511627776 % 256), .int .u8 (N / 4294967296 % 256)] 5))
          obtain ⟨c0, c1, f0, f1⟩ := pk0.facts
          have hlt1 := pk0.lt
          have hgb1 := pk0.gb
          have hln1 := pk0.len
          have HLN1 := mkHid hln1
          clear hln1
          go_upto_region 9 with (fail)
          have HBG := mkHid hbig
          clear hbig hN2
          go_upto_region 10 with (at_builtin; refine wpList_app _ rfl (.tmp 41) (.tmp 54) _ rfl base el_u8 A n C _ rfl PKS1.out.own (wr.heap.size + 1) (some ⟨wr.heap.size, 0, none⟩) 4 4 ([N / 72057594037927936 % 256, N / 281474976710656 % 256, N / 1099511627776 % 256, N / 4294967296 % 256].map Go.Proofs.Ytbgfccfhiocomaa.u8) rfl (SL.new _ (by simp [World.setCell]) rfl) (u8_cells _) (by unfold maxLen; omega) (by omega) (by simp [World.setCell]; omega) ?_; intro A1 C1 x1 hown1 hg1 hat1; have HAT1 := mkHid hat1; clear hat1; obtain ⟨d0, d1, e0, e1⟩ := facts2 (PKS1.out.grown hg1))
          rw [← List.map_append] at hown1
          obtain ⟨pk1, hB1, hK1⟩ := pk0.stepK hg1 HAT1.out hown1 (pk0.ok.append (bytes_ok _ (by intro x hx; simp only [List.mem_cons, List.not_mem_nil, or_false] at hx; omega)))
          have hn1 := hK1 _ _ _ _ hnum (by decide) (by decide)
          generalize hv1 : World.setCell x1 _ _ = v1 at *
          clear hv1 hg1 hK1 hown1 HAT1 d0 d1 e0 e1 c0 c1 f0 f1 PKS1
          have PKS2 := mkHid ((pk1.setBad true).alloc (.cells #[.int .u8 (N / 16777216 % 256), .int .u8 (N / 65536 % 256)] 5))
          obtain ⟨c0, c1, f0, f1⟩ := pk1.facts
          have hlt2 := pk1.lt
          have hgb2 := pk1.gb
          have hln2 := pk1.len
          have HLN2 := mkHid hln2
          clear hln2
          go_upto_region 12 with (at_builtin; refine wpList_app _ rfl (.tmp 82) (.tmp 89) _ rfl base el_u8 A1 (n + 4) C1 _ rfl PKS2.out.own (v1.heap.size + 1) (some ⟨v1.heap.size, 0, none⟩) 2 2 ([N / 16777216 % 256, N / 65536 % 256].map Go.Proofs.Ytbgfccfhiocomaa.u8) rfl (SL.new _ (by simp [World.setCell]) rfl) (u8_cells _) (by unfold maxLen; omega) (by omega) (by simp [World.setCell]; omega) ?_; intro A2 C2 x2 hown2 hg2 hat2; have HAT2 := mkHid hat2; clear hat2; obtain ⟨d0, d1, e0, e1⟩ := facts2 (PKS2.out.grown hg2))
          rw [← List.map_append] at hown2
          obtain ⟨pk2, hB2, hK2⟩ := pk1.stepK hg2 HAT2.out hown2 (pk1.ok.append (bytes_ok _ (by intro x hx; simp only [List.mem_cons, List.not_mem_nil, or_false] at hx; omega)))
          have hn2 := hK2 _ _ _ _ hn1 (by decide) (by decide)
          generalize hv2 : World.setCell x2 _ _ = v2 at *
          clear hv2 hg2 hK2 hown2 HAT2 d0 d1 e0 e1 c0 c1 f0 f1 PKS2
          have PKS3 := mkHid ((pk2.setBad true).alloc (.cells #[.int .u8 (N / 256 % 256)] 5))
          obtain ⟨c0, c1, f0, f1⟩ := pk2.facts
          have hlt3 := pk2.lt
          have hgb3 := pk2.gb
          have hln3 := pk2.len
          have HLN3 := mkHid hln3
          clear hln3
          go_upto_region 14 with (at_builtin; refine wpList_app _ rfl (.tmp 117) (.tmp 121) _ rfl base el_u8 A2 ((n + 4) + 2) C2 _ rfl PKS3.out.own (v2.heap.size + 1) (some ⟨v2.heap.size, 0, none⟩) 1 1 ([N / 256 % 256].map Go.Proofs.Ytbgfccfhiocomaa.u8) rfl (SL.new _ (by simp [World.setCell]) rfl) (u8_cells _) (by unfold maxLen; omega) (by omega) (by simp [World.setCell]; omega) ?_; intro A3 C3 x3 hown3 hg3 hat3; have HAT3 := mkHid hat3; clear hat3; obtain ⟨d0, d1, e0, e1⟩ := facts2 (PKS3.out.grown hg3))
          rw [← List.map_append] at hown3
          obtain ⟨pk3, hB3, hK3⟩ := pk2.stepK hg3 HAT3.out hown3 (pk2.ok.append (bytes_ok _ (by intro x hx; simp only [List.mem_cons, List.not_mem_nil, or_false] at hx; omega)))
          have hn3 := hK3 _ _ _ _ hn2 (by decide) (by decide)
          generalize hv3 : World.setCell x3 _ _ = v3 at *
          clear hv3 hg3 hK3 hown3 HAT3 d0 d1 e0 e1 c0 c1 f0 f1 PKS3
          have PKS4 := mkHid ((pk3.setBad true).alloc (.cells #[.int .u8 (N % 256)] 5))
          obtain ⟨c0, c1, f0, f1⟩ := pk3.facts
          have hlt4 := pk3.lt
          have hgb4 := pk3.gb
          have hln4 := pk3.len
          have HLN4 := mkHid hln4
          clear hln4
          go_upto_region 16 with (at_builtin; refine wpList_app _ rfl (.tmp 149) (.tmp 152) _ rfl base el_u8 A3 (((n + 4) + 2) + 1) C3 _ rfl PKS4.out.own (v3.heap.size + 1) (some ⟨v3.heap.size, 0, none⟩) 1 1 ([N % 256].map Go.Proofs.Ytbgfccfhiocomaa.u8) rfl (SL.new _ (by simp [World.setCell]) rfl) (u8_cells _) (by unfold maxLen; omega) (by omega) (by simp [World.setCell]; omega) ?_; intro A4 C4 x4 hown4 hg4 hat4; have HAT4 := mkHid hat4; clear hat4; obtain ⟨d0, d1, e0, e1⟩ := facts2 (PKS4.out.grown hg4))
          rw [← List.map_append] at hown4
          obtain ⟨pk4, hB4, hK4⟩ := pk3.stepK hg4 HAT4.out hown4 (pk3.ok.append (bytes_ok _ (by intro x hx; simp only [List.mem_cons, List.not_mem_nil, or_false] at hx; omega)))
          have hn4 := hK4 _ _ _ _ hn3 (by decide) (by decide)
          generalize hv4 : World.setCell x4 _ _ = v4 at *
          clear hv4 hg4 hK4 hown4 HAT4 d0 d1 e0 e1 c0 c1 f0 f1 PKS4
          go_wp2_with fail
          go_roundw
          case rel =>
            have hfin : PK v4 g base A4 ((((n + 4) + 2) + 1) + 1) C4 (bs ++ packs 8 (l.take (q + 1))) (bad || !(l.take (q + 1)).all (fits 8)) := by
              rw [HP.out, HA.out, ← List.append_assoc, nb8_eq, HFT.out, show (false || !false) = true from rfl]
              exact pk4
            exact ⟨q + 1, ((((n + 4) + 2) + 1) + 1), A4, C4, by omega, by go_num, by omega, hfin, hn4, hb.trans (((hB1.trans hB2).trans hB3).trans hB4)⟩
          case measure => simp [intOf]; omega
        have HFT := mkHid (show fits 8 N = true by unfold fits; rw [if_pos rfl]; exact decide_eq_true (by omega))
        have PKS1 := mkHid ((pk0.setBad false).alloc (.cells #[.int .u8 (N / 72057594037927936 % 256), .int .u8 (N / 281474976710656 % 256), .int .u8 (N / 1099511627776 % 256), .int .u8 (N / 4294967296 % 256)] 5))
        obtain ⟨c0, c1, f0, f1⟩ := pk0.facts
        have hlt1 := pk0.lt
        have hgb1 := pk0.gb
        have hln1 := pk0.len
        have HLN1 := mkHid hln1
        clear hln1
        go_upto_region 9 with (fail)
        have HBG := mkHid hbig
        clear hbig hN2
        go_upto_region 10 with (at_builtin; refine wpList_app _ rfl (.tmp 41) (.tmp 54) _ rfl base el_u8 A n C _ rfl PKS1.out.own (wr.heap.size + 1) (some ⟨wr.heap.size, 0, none⟩) 4 4 ([N / 72057594037927936 % 256, N / 281474976710656 % 256, N / 1099511627776 % 256, N / 4294967296 % 256].map Go.Proofs.Ytbgfccfhiocomaa.u8) rfl (SL.new _ (by simp [World.setCell]) rfl) (u8_cells _) (by unfold maxLen; omega) (by omega) (by simp [World.setCell]; omega) ?_; intro A1 C1 x1 hown1 hg1 hat1; have HAT1 := mkHid hat1; clear hat1; obtain ⟨d0, d1, e0, e1⟩ := facts2 (PKS1.out.grown hg1))
        rw [← List.map_append] at hown1
        obtain ⟨pk1, hB1, hK1⟩ := pk0.stepK hg1 HAT1.out hown1 (pk0.ok.append (bytes_ok _ (by intro x hx; simp only [List.mem_cons, List.not_mem_nil, or_false] at hx; omega)))
        have hn1 := hK1 _ _ _ _ hnum (by decide) (by decide)
        generalize hv1 : World.setCell x1 _ _ = v1 at *
        clear hv1 hg1 hK1 hown1 HAT1 d0 d1 e0 e1 c0 c1 f0 f1 PKS1
        have PKS2 := mkHid ((pk1.setBad false).alloc (.cells #[.int .u8 (N / 16777216 % 256), .int .u8 (N / 65536 % 256)] 5))
        obtain ⟨c0, c1, f0, f1⟩ := pk1.facts
        have hlt2 := pk1.lt
        have hgb2 := pk1.gb
        have hln2 := pk1.len
        have HLN2 := mkHid hln2
        clear hln2
        go_upto_region 12 with (at_builtin; refine wpList_app _ rfl (.tmp 82) (.tmp 89) _ rfl base el_u8 A1 (n + 4) C1 _ rfl PKS2.out.own (v1.heap.size + 1) (some ⟨v1.heap.size, 0, none⟩) 2 2 ([N / 16777216 % 256, N / 65536 % 256].map Go.Proofs.Ytbgfccfhiocomaa.u8) rfl (SL.new _ (by simp [World.setCell]) rfl) (u8_cells _) (by unfold maxLen; omega) (by omega) (by simp [World.setCell]; omega) ?_; intro A2 C2 x2 hown2 hg2 hat2; have HAT2 := mkHid hat2; clear hat2; obtain ⟨d0, d1, e0, e1⟩ := facts2 (PKS2.out.grown hg2))
        rw [← List.map_append] at hown2
        obtain ⟨pk2, hB2, hK2⟩ := pk1.stepK hg2 HAT2.out hown2 (pk1.ok.append (bytes_ok _ (by intro x hx; simp only [List.mem_cons, List.not_mem_nil, or_false] at hx; omega)))
        have hn2 := hK2 _ _ _ _ hn1 (by decide) (by decide)
        generalize hv2 : World.setCell x2 _ _ = v2 at *
        clear hv2 hg2 hK2 hown2 HAT2 d0 d1 e0 e1 c0 c1 f0 f1 PKS2
        have PKS3 := mkHid ((pk2.setBad false).alloc (.cells #[.int .u8 (N / 256 % 256)] 5))
        obtain ⟨c0, c1, f0, f1⟩ := pk2.facts
        have hlt3 := pk2.lt
        have hgb3 := pk2.gb
        have hln3 := pk2.len
        have HLN3 := mkHid hln3
        clear hln3
        go_upto_region 14 with (at_builtin; refine wpList_app _ rfl (.tmp 117) (.tmp 121) _ rfl base el_u8 A2 ((n + 4) + 2) C2 _ rfl PKS3.out.own (v2.heap.size + 1) (some ⟨v2.heap.size, 0, none⟩) 1 1 ([N / 256 % 256].map Go.Proofs.Ytbgfccfhiocomaa.u8) rfl (SL.new _ (by simp [World.setCell]) rfl) (u8_cells _) (by unfold maxLen; omega) (by omega) (by simp [World.setCell]; omega) ?_; intro A3 C3 x3 hown3 hg3 hat3; have HAT3 := mkHid hat3; clear hat3; obtain ⟨d0, d1, e0, e1⟩ := facts2 (PKS3.out.grown hg3))
        rw [← List.map_append] at hown3
        obtain ⟨pk3, hB3, hK3⟩ := pk2.stepK hg3 HAT3.out hown3 (pk2.ok.append (bytes_ok _ (by intro x hx; simp only [List.mem_cons, List.not_mem_nil, or_false] at hx; omega)))
        have hn3 := hK3 _ _ _ _ hn2 (by decide) (by decide)
        generalize hv3 : World.setCell x3 _ _ = v3 at *
        clear hv3 hg3 hK3 hown3 HAT3 d0 d1 e0 e1 c0 c1 f0 f1 PKS3
        have PKS4 := mkHid ((pk3.setBad false).alloc (.cells #[.int .u8 (N % 256)] 5))
        obtain ⟨c0, c1, f0, f1⟩ := pk3.facts
        have hlt4 := pk3.lt
        have hgb4 := pk3.gb
        have hln4 := pk3.len
        have HLN4 := mkHid hln4
        clear hln4
        go_upto_region 16 with (at_builtin; refine wpList_app _ rfl (.tmp 149) (.tmp 152) _ rfl base el_u8 A3 (((n + 4) + 2) + 1) C3 _ rfl PKS4.out.own (v3.heap.size + 1) (some ⟨v3.heap.size, 0, none⟩) 1 1 ([N % 256].map Go.Proofs.Ytbgfccfhiocomaa.u8) rfl (SL.new _ (by simp [World.setCell]) rfl) (u8_cells _) (by unfold maxLen; omega) (by omega) (by simp [World.setCell]; omega) ?_; intro A4 C4 x4 hown4 hg4 hat4; have HAT4 := mkHid hat4; clear hat4; obtain ⟨d0, d1, e0, e1⟩ := facts2 (PKS4.out.grown hg4))
        rw [← List.map_append] at hown4
        obtain ⟨pk4, hB4, hK4⟩ := pk3.stepK hg4 HAT4.out hown4 (pk3.ok.append (bytes_ok _ (by intro x hx; simp only [List.mem_cons, List.not_mem_nil, or_false] at hx; omega)))
        have hn4 := hK4 _ _ _ _ hn3 (by decide) (by decide)
        generalize hv4 : World.setCell x4 _ _ = v4 at *
        clear hv4 hg4 hK4 hown4 HAT4 d0 d1 e0 e1 c0 c1 f0 f1 PKS4
        go_wp2_with fail
        go_roundw
        case rel =>
          have hfin : PK v4 g base A4 ((((n + 4) + 2) + 1) + 1) C4 (bs ++ packs 8 (l.take (q + 1))) (bad || !(l.take (q + 1)).all (fits 8)) := by
            rw [HP.out, HA.out, ← List.append_assoc, nb8_eq, HFT.out, show (false || !true) = false from rfl]
            exact pk4
          exact ⟨q + 1, ((((n + 4) + 2) + 1) + 1), A4, C4, by omega, by go_num, by omega, hfin, hn4, hb.trans (((hB1.trans hB2).trans hB3).trans hB4)⟩
        case measure => simp [intOf]; omega
    · obtain rfl : q = m := by omega
      rw [List.take_of_length_le (by omega)] at pk0
      go_wp2_with fail
      go_ret
      exact ⟨rfl, ⟨A, n, C, pk0, hb⟩⟩

end Go.Proofs.Ytbgfccfhiocomaa
