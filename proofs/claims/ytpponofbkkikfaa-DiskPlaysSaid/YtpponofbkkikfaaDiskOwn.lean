/- portagelaw03.DiskOwn answers true. -/
import Derived.Test.YtpponofbkkikfaaAwake03
import Derived.Test.YtpponofbkkikfaaSameB
import Derived.Test.YtpponofbkkikfaaErrIs
namespace Go.Proofs.Ytpponofbkkikfaa
open Go.RowKit

theorem bits_u8 (x y : Int) : 0 ≤ bits .xor .u8 x y ∧ bits .xor .u8 x y < 256 := by
  show 0 ≤ IntKind.u8.wrap ((BitVec.ofInt 8 x ^^^ BitVec.ofInt 8 y).toNat : Nat) ∧ IntKind.u8.wrap ((BitVec.ofInt 8 x ^^^ BitVec.ofInt 8 y).toNat : Nat) < 256
  rw [IntKind.wrap_u8]
  omega
theorem grown_set (w : World) (g o : Nat) (v : Value) : w.grownBy (w.setCell ⟨g, o, none⟩ v) (some g) :=
  ⟨rfl, rfl, rfl, by simp [World.setCell], fun q _ hne => heap_setCell_other _ _ _ _ fun e => hne (by have e : q = g := e; rw [e])⟩
/-- A row of bytes of one's own that is being written over, since world w0. -/
def OW (w0 wr : World) (base : Nat) (A : Option Addr) (n C : Nat) : Prop :=
  ∃ lv : List Int, wr.ownsRow base 5 1 (.slice A n C) n (lv.map u8) ∧ okBytes lv ∧ w0.grownBy wr (Value.slice A n C).ownBlock
theorem OW.start {w0 : World} {base : Nat} {A : Option Addr} {n C : Nat} {l : List Int} (h : w0.ownsRow base 5 1 (.slice A n C) n (l.map u8)) (ok : okBytes l) : OW w0 w0 base A n C := ⟨l, h, ok, grownBy_refl _ _⟩
theorem OW.set {w0 wr : World} {base g n C k : Nat} {y : Int} (h : OW w0 wr base (some ⟨g, 0, none⟩) n C) (hk : k < n) (h0 : 0 ≤ y) (h1 : y < 256) : OW w0 (wr.setCell ⟨g, k, none⟩ (.int .u8 y)) base (some ⟨g, 0, none⟩) n C := by
  obtain ⟨lv, ho, ok, hg⟩ := h
  refine ⟨lv.set k y, ?_, fun x hx => ?_, ?_⟩
  · have := own_set (v := u8 y) ho hk
    rw [List.map_set]
    exact this
  · rcases List.mem_or_eq_of_mem_set hx with hx | rfl
    · exact ok x hx
    · exact ⟨h0, h1⟩
  · have g1 := grown_set wr g k (.int .u8 y)
    exact ⟨g1.os.trans hg.os, g1.tape.trans hg.tape, g1.output.trans hg.output, by have := hg.size; have := g1.size; omega, fun q hq hne => (g1.block q (by have := hg.size; omega) hne).trans (hg.block q hq hne)⟩
theorem OW.cells {w0 wr : World} {base : Nat} {A : Option Addr} {n C k : Nat} (h : OW w0 wr base A n C) (hk : k < n) : ∃ g x, A = some ⟨g, 0, none⟩ ∧ wr.cell? ⟨g, k, none⟩ = some (.int .u8 x) ∧ wr.frozen? ⟨g, k, none⟩ = false ∧ 0 ≤ x ∧ x < 256 := by
  obtain ⟨lv, ho, ok, hg⟩ := h
  obtain ⟨g, rfl, _, _, hc⟩ := own_cells ho (by omega)
  exact ⟨g, _, rfl, hc k hk, frozen_of_own ho k, (ok.get k).1, (ok.get k).2⟩
/-- A row that lies outside of what may turn. -/
theorem own_turn {w w' : World} {F : Nat → Prop} {base : Nat} {e : TypeId} {s n : Nat} {v : Value} {xs : List Value} (h : w.ownsRow base e s v n xs) (ht : Turn F w w') (hF : ∀ b, v.ownBlock = some b → ¬ F b) : w'.ownsRow base e s v n xs := by
  refine ⟨h.1, ?_⟩
  rcases h.2 with h0 | ⟨g, cap, cur, h1, h2, h3, h4⟩
  · exact .inl h0
  · exact .inr ⟨g, cap, cur, h1, h2, (ht.block g (Array.getElem?_eq_some_iff.1 h3).1 (hF g (by rw [h1]; rfl))).trans h3, h4⟩
/-- A disk that has nothing of the row that was written over. -/
theorem LD.over {w w0 wr : World} {F : Nat → Prop} {g : Nat} {ss : List Sec} {base n C : Nat} {A : Option Addr} (h : LD w w0 F g ss) (ho : OW w0 wr base A n C) (hb : w.heap.size ≤ base) (hF : ∀ b, F b → (Value.slice A n C).ownBlock ≠ some b) : LD w wr F g ss := by
  obtain ⟨lv, h1, _, hg⟩ := ho
  exact h.keep (fun b hb' => hg.block b (h.d.lt b hb') fun e => hF b hb' e.symm) ((Below.refl _ _).grown hg (h.bel.size) fun k hk => Nat.le_trans hb (h1.lt k hk).1)

set_option maxRecDepth 20000 in
set_option maxHeartbeats 4000000 in
theorem diskOwn_any (i : Int) (a : Option Addr) (n c : Nat) (l : List Int) (w : World) (hi : I64 i) (hx : BS w w.heap.size a n l) (hn : n ≤ c ∧ c ≤ 140737488351232) :
    Calls Try.prog 7 #[.int .i64 i, .slice a n c] w fun e w' => e = .returned (.bool true) ∧ Below w.heap.size w w' := by
  obtain ⟨hn1, hn2⟩ := hn
  have HN := mkHid (newDisk_any 4 w (by omega) (by omega))
  have hln := hx.len
  have hI := hi
  obtain ⟨i0, i1⟩ := hi
  go_enter Try.func7, Try.ntmps7
  go_wp2_with fail
  refine HN.out.mono ?_
  rintro e w1 ⟨g, F, rfl, hd, hF, hb1⟩
  have HL1 := mkHid (show LD w w1 F g (List.replicate 4 sec0) from ⟨hd, hF, hb1⟩)
  clear hd hF hb1 HN
  by_cases hn128 : n = 128
  case neg =>
    have hnb : ((n : Int) != 128) = true := by simp; omega
    go_wp2_with fail
    refine (awake_any _).mono ?_
    rintro e w2 ⟨rfl, hb2⟩
    go_wp2_with fail
    go_ret
    exact ⟨rfl, (HL1.out.below hb2).bel⟩
  subst hn128
  have hx1 := (hx.below HL1.out.bel).more HL1.out.bel.size
  have HX := mkHid hx
  clear hx
  go_wp2_with fail
  refine (copy_any a 128 c l w1 hx1 (by omega)).mono ?_
  rintro e w2 ⟨Ai, Ci, rfl, hoi, hb2⟩
  rw [hln] at hoi ⊢
  have HOI := mkHid hoi
  have HL2 := mkHid (HL1.out.below hb2)
  have hFi : ∀ b, F b → (Value.slice Ai 128 Ci).ownBlock ≠ some b := fun b hb e => by
    have h1 := HL1.out.d.lt b hb
    have h2 := (hoi.lt b e).1
    omega
  have HFI := mkHid hFi
  have hbi : BS w2 w2.heap.size Ai 128 l := ⟨SL.of_own hoi, HX.out.2⟩
  have hs1 := HL1.out.bel.size
  clear hoi hb2 hx1 hFi
  by_cases hh : hasOf 4 i = true
  case neg =>
    have hh : hasOf 4 i = false := by simpa using hh
    have hout : i < 0 ∨ 3 < i := by have := of_decide_eq_false hh; omega
    go_wp2_with fail
    refine (write_no F g _ i Ai 128 Ci w2 HL2.out.d hI hh).mono ?_
    rintro e w3 ⟨rfl, rfl⟩
    have HOUT := mkHid hout
    clear hh hout hbi
    go_wp2_with fail
    go_loopw [43] (fun i wr => ∃ k : Nat, k ≤ 128 ∧ i = .int .i64 k ∧ OW w2 wr w1.heap.size Ai 128 Ci) (fun i _ => 128 - (intOf i).toNat)
    case atStart => exact ⟨0, Nat.zero_le _, rfl, OW.start HOI.out HX.out.2⟩
    case round =>
      obtain ⟨k, hk, rfl, how⟩ := hrel
      by_cases hlt : k < 128
      · obtain ⟨gi, x, rfl, hcell, hfrz, hx0, hx1⟩ := how.cells hlt
        have HOW := mkHid how
        clear how
        go_wp2_with fail
        go_roundw
        case rel => exact ⟨k + 1, by omega, by go_num, HOW.out.set hlt (bits_u8 _ _).1 (bits_u8 _ _).2⟩
        case measure => simp [intOf]; omega
      · obtain rfl : k = 128 := by omega
        have HLR := mkHid (HL2.out.over how hs1 HFI.out)
        clear how
        have fin : ∀ W, LD w W F g (List.replicate 4 sec0) → Calls Try.prog 20 #[codeV 20, .int .i64 20] W fun e w' => e = .returned (.bool true) ∧ w' = W := fun W _ => (is_code 20 20 W).mono fun e w' h => ⟨h.1, h.2.symm⟩
        have FIN := mkHid fin
        clear fin
        rcases HOUT.out with h1 | h1
        all_goals go_wp2_with fail
        all_goals refine (FIN.out _ HLR.out).mono ?_
        all_goals rintro e w3 ⟨rfl, rfl⟩
        all_goals go_wp2_with fail
        all_goals refine (pending_any F g _ _ HLR.out.d).mono ?_
        all_goals rintro e w4 ⟨PA, pc, rfl, _, hb4⟩
        all_goals rw [show (pend (List.replicate 4 sec0)).length = 0 from rfl]
        all_goals have HL4 := mkHid (HLR.out.below hb4)
        all_goals clear hb4
        all_goals go_wp2_with fail
        all_goals refine (awake_any _).mono ?_
        all_goals rintro e w5 ⟨rfl, hb5⟩
        all_goals go_wp2_with fail
        all_goals go_ret
        all_goals exact ⟨rfl, (HL4.out.below hb5).bel⟩
  obtain ⟨k0, rfl, hk0⟩ := hasOf_nat hh
  have hs0 : (List.replicate 4 sec0)[k0]? = some sec0 := by rw [List.getElem?_replicate, if_pos hk0]
  go_wp2_with fail
  refine (write_ok F g _ k0 sec0 Ai Ci l w2 HL2.out.d hs0 hbi (by simp [sec0])).mono ?_
  rintro e w3 ⟨rfl, ht3, F3, hd3, hF3⟩
  have HL3 := mkHid (HL2.out.turn ht3 hd3 hF3)
  have HOI3 := mkHid (own_turn HOI.out ht3 fun b hb hf => HFI.out b hf hb)
  have HFI3 := mkHid (show ∀ b, F3 b → (Value.slice Ai 128 Ci).ownBlock ≠ some b from fun b hb e => by
    rcases hF3 b hb with h | h
    · exact HFI.out b h e
    · have := (HOI.out.lt b e).2
      omega)
  have HS1 := mkHid (show ((List.replicate 4 sec0).set k0 { sec0 with wait := sec0.wait ++ [l] })[k0]? = some ⟨zeros, [l], false⟩ by rw [List.getElem?_set_self (by simp; exact hk0)]; rfl)
  clear ht3 hd3 hF3 hh hs0 hbi
  generalize (List.replicate 4 sec0).set k0 { sec0 with wait := sec0.wait ++ [l] } = S3 at *
  go_wp2_with fail
  go_loopw [43] (fun i wr => ∃ k : Nat, k ≤ 128 ∧ i = .int .i64 k ∧ OW w3 wr w1.heap.size Ai 128 Ci) (fun i _ => 128 - (intOf i).toNat)
  case atStart => exact ⟨0, Nat.zero_le _, rfl, OW.start HOI3.out HX.out.2⟩
  case round =>
    obtain ⟨k, hk, rfl, how⟩ := hrel
    by_cases hlt : k < 128
    · obtain ⟨gi, x, rfl, hcell, hfrz, hx0, hx1⟩ := how.cells hlt
      have HOW := mkHid how
      clear how
      go_wp2_with fail
      go_roundw
      case rel => exact ⟨k + 1, by omega, by go_num, HOW.out.set hlt (bits_u8 _ _).1 (bits_u8 _ _).2⟩
      case measure => simp [intOf]; omega
    · obtain rfl : k = 128 := by omega
      have HLR := mkHid (HL3.out.over how hs1 HFI3.out)
      obtain ⟨wP, rfl⟩ : ∃ x, x = wr := ⟨wr, rfl⟩
      clear how
      go_wp2_with fail
      refine (read_ok F3 g S3 k0 _ wP HLR.out.d HS1.out rfl).mono ?_
      rintro e w4 ⟨Ar, Cr, rfl, hor, _, _, hb4⟩
      rw [show Sec.last ⟨zeros, [l], false⟩ = l from rfl] at hor
      have HOR := mkHid hor
      have HL4 := mkHid (HLR.out.below hb4)
      have HFR := mkHid (show ∀ b, F3 b → (Value.slice Ar 128 Cr).ownBlock ≠ some b from fun b hb e => by
        have h1 := HLR.out.d.lt b hb
        have h2 := (hor.lt b e).1
        omega)
      have hsP := HLR.out.bel.size
      clear hor hb4
      go_wp2_with fail
      refine (same_any Ar a 128 128 Cr c _ _ l l w4 ⟨SL.of_own HOR.out, HX.out.2⟩ (HX.out.below HL4.out.bel)).mono ?_
      rintro e w5 ⟨rfl, rfl⟩
      rw [show decide (l = l) = true from decide_eq_true rfl]
      go_wp2_with fail
      go_loopw [92] (fun i wr => ∃ k : Nat, k ≤ 128 ∧ i = .int .i64 k ∧ OW w4 wr wP.heap.size Ar 128 Cr) (fun i _ => 128 - (intOf i).toNat)
      case atStart => exact ⟨0, Nat.zero_le _, rfl, OW.start HOR.out HX.out.2⟩
      case round =>
        obtain ⟨k, hk, rfl, how⟩ := hrel
        by_cases hlt : k < 128
        · obtain ⟨gi, x, rfl, hcell, hfrz, hx0, hx1⟩ := how.cells hlt
          have HOW := mkHid how
          clear how
          go_wp2_with fail
          go_roundw
          case rel => exact ⟨k + 1, by omega, by go_num, HOW.out.set hlt (bits_u8 _ _).1 (bits_u8 _ _).2⟩
          case measure => simp [intOf]; omega
        · obtain rfl : k = 128 := by omega
          have HLQ := mkHid (HL4.out.over how hsP HFR.out)
          clear how
          go_wp2_with fail
          refine (flush_any F3 g S3 wr HLQ.out.d).mono ?_
          rintro e w6 ⟨rfl, ht6, hd6⟩
          have HL6 := mkHid (HLQ.out.turn ht6 hd6 fun b hb => .inl hb)
          have HS6 := mkHid (show (flushed S3)[k0]? = some ⟨l, [], false⟩ by unfold flushed; rw [List.getElem?_map, HS1.out]; rfl)
          clear ht6 hd6
          go_wp2_with fail
          refine (read_ok F3 g (flushed S3) k0 _ w6 HL6.out.d HS6.out rfl).mono ?_
          rintro e w7 ⟨Az, Cz, rfl, hoz, _, _, hb7⟩
          rw [show Sec.last ⟨l, [], false⟩ = l from rfl] at hoz
          have HOZ := mkHid hoz
          have HL7 := mkHid (HL6.out.below hb7)
          clear hoz hb7
          go_wp2_with fail
          refine (same_any Az a 128 128 Cz c _ _ l l w7 ⟨SL.of_own HOZ.out, HX.out.2⟩ (HX.out.below HL7.out.bel)).mono ?_
          rintro e w8 ⟨rfl, rfl⟩
          rw [show decide (l = l) = true from decide_eq_true rfl]
          go_wp2_with fail
          refine (awake_any _).mono ?_
          rintro e w9 ⟨rfl, hb9⟩
          go_wp2_with fail
          go_ret
          exact ⟨rfl, (HL7.out.below hb9).bel⟩

end Go.Proofs.Ytpponofbkkikfaa
