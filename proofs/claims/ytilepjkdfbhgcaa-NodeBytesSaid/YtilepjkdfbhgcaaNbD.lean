/- node.Parse by contract. -/
import Derived.Test.YtilepjkdfbhgcaaNbC
import Derived.Test.YtilepjkdfbhgcaaNdX
namespace Go.Proofs.Ytilepjkdfbhgcaa
open Go.RowKit Go.Shelf

theorem UK.keepX {w w' : World} {g n c : Nat} {a : Option Addr} {bs : List Int} {bad : Bool} (h : UK w g a n c bs bad) (hk : ∀ b, b ≤ g → w'.heap[b]? = w.heap[b]?) : UK w' g a n c bs bad := by
  have hg : w'.heap[g]? = _ := (hk g (Nat.le_refl _)).trans h.blk
  have hl := (Array.getElem?_eq_some_iff.1 hg).1
  exact ⟨hg, ⟨h.bytes.1, h.bytes.2.1, fun j hj => by
    obtain ⟨b, o, ha, h1, h2, h3⟩ := h.bytes.2.2 j hj
    exact ⟨b, o, ha, h1, by omega, (World.cell?_of_block (w := w) (hk b (by omega))).trans h3⟩⟩, h.cap⟩
section
variable {t : TypeId} {w0 w w1 W : World} {B X L C L' C' L3 C3 L4 C4 g : Nat} {lv : Int} {A A' A3 A4 : Option Addr} {ks vs ks' vs' : List Int}
/-- The world as it was below a block. -/
def cutW (w : World) (X : Nat) : World := { w with heap := w.heap.extract 0 X }
theorem cutW_size (w : World) (X : Nat) (h : X ≤ w.heap.size) : (cutW w X).heap.size = X := by simp [cutW]; omega
theorem cutW_get (w : World) {X b : Nat} (hb : b < X) : (cutW w X).heap[b]? = w.heap[b]? := by
  simp only [cutW]
  rw [Array.getElem?_extract]
  split
  · simp
  · rename_i h
    rw [Array.getElem?_eq_none (by omega)]
/-- A node under way, told from a later world. -/
theorem OUT.rebase (h : OUT t w0 B X lv A L C A' L' C' ks vs w) : OUT t (cutW w X) B X lv A L C A' L' C' ks vs w := by
  have hs := cutW_size w X (Nat.le_of_lt h.lt)
  refine ⟨h.kr, h.vr, h.ap, h.bl, Below.mk rfl rfl rfl (by rw [hs]; exact Nat.le_of_lt h.lt) (fun b hb => ?_), Nat.le_of_eq hs, h.hi⟩
  rw [hs] at hb
  exact (cutW_get w hb).symm
theorem OUT.back (h : OUT t w0 B X lv A L C A' L' C' ks vs w) (k : OUT t (cutW w X) B X lv A3 L3 C3 A4 L4 C4 ks' vs' W) : OUT t w0 B X lv A3 L3 C3 A4 L4 C4 ks' vs' W ∧ ∀ b, b < X → W.heap[b]? = w.heap[b]? := by
  have hs := cutW_size w X (Nat.le_of_lt h.lt)
  have hb : ∀ b, b < X → W.heap[b]? = w.heap[b]? := fun b hb => (k.be.block b (by rw [hs]; exact hb)).trans (cutW_get w hb)
  refine ⟨⟨k.kr, k.vr, k.ap, k.bl, Below.mk (k.be.os.trans h.be.os) (k.be.tape.trans h.be.tape) (k.be.output.trans h.be.output) (by have := k.be.size; rw [hs] at this; have := h.lo; omega) (fun b hb' => (hb b (by have := h.lo; omega)).trans (h.be.block b hb')), h.lo, k.hi⟩, hb⟩
/-- A block below turns. -/
theorem OUT.turn (h : OUT t w0 B X lv A L C A' L' C' ks vs w) (hg : w.grownBy w1 (some g)) (h1 : w0.heap.size ≤ g) (h2 : g < X) : OUT t w0 B X lv A L C A' L' C' ks vs w1 := by
  have hi := h.hi
  refine ⟨own_blk h.kr fun r hr => hg.block r (h.kr.lt _ hr).2 (fun e => by injection e with e; have := (h.kr.lt _ hr).1; omega), own_blk h.vr fun r hr => hg.block r (h.vr.lt _ hr).2 (fun e => by injection e with e; have := (h.vr.lt _ hr).1; omega), h.ap, (hg.block X h.lt (fun e => by injection e with e; omega)).trans h.bl, h.be.grown hg h.be.size (fun k hk => by injection hk with hk; omega), h.lo, h.hi⟩
end

/-- The state within Parse's loop. -/
structure NP (w wr : World) (g X q : Nat) (lv : Int) (A : Option Addr) (C : Nat) (A' : Option Addr) (C' : Nat) (s : List Int × Bool) : Prop where
  uk : ∃ a n c, UK wr g a n c (rd8N q s).2.1 (rd8N q s).2.2
  out : OUT 32 w (X + 1) X lv A q C A' q C' (keysOf (rd8N q s).1) (valsOf (rd8N q s).1) wr
  res : wr.heap[w.heap.size]? = some (.cells #[.int .i64 0, .slice none 0 0, .slice none 0 0] 32 (0, 0))

set_option maxRecDepth 20000 in
set_option maxHeartbeats 4000000 in
theorem nparse_any (a : Option Addr) (n c : Nat) (l : List Int) (w : World) (hx : BS w w.heap.size a n l) (hn : CapOk n c) :
    Calls Try.prog 34 #[.slice a n c] w fun e w' => ∃ v, e = .returned (.tuple #[v, errV (parsN l).1]) ∧ NdIn w' v (parsN l).2.1 (keysOf (parsN l).2.2) (valsOf (parsN l).2.2) ∧ Below w.heap.size w w' := by
  obtain ⟨W, hW⟩ : ∃ W, w.alloc (.cells #[.int .i64 0, .slice none 0 0, .slice none 0 0] 32) = W := ⟨_, rfl⟩
  have hal : Below w.heap.size w W := by rw [← hW]; exact (Below.refl _ _).alloc (Nat.le_refl _) _
  have hsz : W.heap.size = w.heap.size + 1 := by rw [← hW]; simp
  have hrs : W.heap[w.heap.size]? = some (.cells #[.int .i64 0, .slice none 0 0, .slice none 0 0] 32 (0, 0)) := by rw [← hW]; exact heap_alloc_new _ _
  have HX := mkHid ((hx.below hal).more hal.size)
  have HX0 := mkHid hx
  have HAL := mkHid hal
  have HCR := mkHid (show ∀ Z : World, Z.heap[w.heap.size]? = some (.cells #[.int .i64 0, .slice none 0 0, .slice none 0 0] 32 (0, 0)) → (Z.cell? ⟨w.heap.size, 0, none⟩ = some (.int .i64 0) ∧ Z.cell? ⟨w.heap.size, 1, none⟩ = some (.slice none 0 0) ∧ Z.cell? ⟨w.heap.size, 2, none⟩ = some (.slice none 0 0)) ∧ Z.frozen? ⟨w.heap.size, 0, none⟩ = false ∧ Z.frozen? ⟨w.heap.size, 1, none⟩ = false ∧ Z.frozen? ⟨w.heap.size, 2, none⟩ = false from fun Z h => ⟨⟨cell_of_row Z _ 0 _ _ _ h, cell_of_row Z _ 1 _ _ _ h, cell_of_row Z _ 2 _ _ _ h⟩, frozen_of_row Z _ 0 _ _ h, frozen_of_row Z _ 1 _ _ h, frozen_of_row Z _ 2 _ _ h⟩)
  have HRS := mkHid hrs
  have HOK := mkHid hx.2
  have HN := mkHid hn
  have HWS := mkHid hsz
  clear hx hal hrs hsz
  by_cases hg0 : (getOf 2 l).1 = 0
  case neg =>
    have HG := mkHid (get_err 2 a n c l W HX.out hn hg0)
    have HP := mkHid (show parsN l = (70, 0, []) from if_neg fun e => hg0 e.1)
    clear hn hg0
    go_enter Try.func34, Try.ntmps34
    go_wp2_with fail
    refine HG.out.mono ?_
    rintro e w1 ⟨rfl, hb1⟩
    clear hW
    have hr1 := (hb1.block _ (by rw [HWS.out]; omega)).trans HRS.out
    obtain ⟨⟨c0, c1, c2⟩, f0, f1, f2⟩ := HCR.out w1 hr1
    have HB1 := mkHid (HAL.out.trans (hb1.mono HAL.out.size))
    clear hb1 hr1
    go_wp2_with fail
    refine bodyPost_ret (v := .tuple #[.agg #[.int .i64 0, .slice none 0 0, .slice none 0 0], codeV 70]) (by simp [results, Try.results34, go_sem, c0, c1, c2]) rfl ?_
    rw [HP.out]
    exact ⟨_, by rw [errV_of (by omega)], ⟨none, 0, 0, none, 0, 0, rfl, IS.nil, IS.nil, ⟨by omega, by unfold maxLen; omega, by omega⟩, ⟨by omega, by unfold maxLen; omega, by omega⟩⟩, by first | exact HB1.out | exact ((HB1.out.setCell (p := ⟨w.heap.size, 0, none⟩) (Nat.le_refl _) _).setCell (p := ⟨w.heap.size, 1, none⟩) (Nat.le_refl _) _).setCell (p := ⟨w.heap.size, 2, none⟩) (Nat.le_refl _) _⟩
  obtain ⟨p, hp⟩ : ∃ p, getOf 2 l = (0, p) := ⟨(getOf 2 l).2, Prod.ext hg0 rfl⟩
  obtain ⟨hlf, hpl, hpok⟩ := frame_of_get HOK.out hp
  have hgk := get_ok 2 a n c l W HX.out hn hg0
  rw [hp] at hgk
  have HG := mkHid hgk
  have HGP := mkHid hp
  have HLF := mkHid hlf
  have HPOK := mkHid hpok
  have HPL := mkHid hpl
  clear hn hg0 hgk hp hlf hpok
  go_enter Try.func34, Try.ntmps34
  go_wp2_with fail
  refine HG.out.mono ?_
  rintro e w1 ⟨A1, n1, C1, rfl, ho1, hb1⟩
  clear hW
  have hbs1 : BS w1 w1.heap.size A1 n1 p := ⟨SL.of_own ho1, HPOK.out⟩
  have hn1 : n1 ≤ 122 := by rw [← hbs1.len]; exact hpl
  have HBS1 := mkHid hbs1
  have HR1 := mkHid ((hb1.block _ (by rw [HWS.out]; omega)).trans HRS.out)
  have HB1 := mkHid (HAL.out.trans (hb1.mono HAL.out.size))
  have hs1 : w.heap.size + 1 ≤ w1.heap.size := by have := hb1.size; have := HWS.out; omega
  clear ho1 hb1 hbs1 hpl
  go_wp2_with fail
  refine (newUnpacker_any A1 n1 C1 p w1 HBS1.out (by omega)).mono ?_
  rintro e w2 ⟨g, rfl, hg, ⟨au, nu, cu, hu⟩, hb2⟩
  have HU2 := mkHid hu
  have hgl := hu.lt
  have HR2 := mkHid ((hb2.block _ (by omega)).trans HR1.out)
  have HB2 := mkHid (HB1.out.trans (hb2.mono HB1.out.size))
  clear hu hb2
  go_wp2_with fail
  refine (uByte_any g au nu cu p false w2 HU2.out).mono ?_
  rintro e w3 ⟨rfl, ⟨a3, n3, c3, hu3⟩, hg3⟩
  have hs3 : w2.heap.size ≤ w3.heap.size := hg3.size
  have HR3 := mkHid ((hg3.block _ (by omega) (fun e => by injection e with e; omega)).trans HR2.out)
  have HB3 := mkHid (HB2.out.grown hg3 HB2.out.size (fun k hk => by injection hk with hk; omega))
  have HL0 := mkHid (takeOf_ok HPOK.out 1 false)
  obtain ⟨lv, hlv⟩ : ∃ lv, (takeOf 1 p false).1 = lv := ⟨_, rfl⟩
  obtain ⟨s1, hs1e⟩ : ∃ s, (takeOf 1 p false).2 = s := ⟨_, rfl⟩
  rw [hlv, hs1e] at HL0
  rw [hs1e] at hu3
  have HLV := mkHid hlv
  have HS1 := mkHid hs1e
  rw [hlv]
  have HU3 := mkHid hu3
  clear hu3 hg3 hlv hs1e
  go_wp2_with fail
  obtain ⟨W4, hW4⟩ : ∃ W4, w3.alloc (.cells #[.int .i64 lv, .slice none 0 0, .slice none 0 0] 32) = W4 := ⟨_, rfl⟩
  have hs4 : W4.heap.size = w3.heap.size + 1 := by rw [← hW4]; simp
  have hal4 : Below w3.heap.size w3 W4 := by rw [← hW4]; exact (Below.refl _ _).alloc (Nat.le_refl _) _
  have hX4 : W4.heap[w3.heap.size]? = some (.cells #[.int .i64 lv, .slice none 0 0, .slice none 0 0] 32 (0, 0)) := by rw [← hW4]; exact heap_alloc_new _ _
  have HU4 := mkHid (HU3.out.below hal4 (Nat.le_refl _))
  have HO4 := mkHid (show OUT 32 w (w3.heap.size + 1) w3.heap.size lv none 0 0 none 0 0 [] [] W4 from ⟨World.ownsRow_nil _ _ _ _, World.ownsRow_nil _ _ _ _, (fun g hg => by cases hg), hX4, HB3.out.trans (hal4.mono HB3.out.size), by omega, Nat.lt_succ_self _⟩)
  have HR4 := mkHid ((hal4.block _ (by omega)).trans HR3.out)
  rw [hW4]
  clear hal4 hX4 hW4
  refine (uByte_any g a3 n3 c3 s1.1 s1.2 W4 HU4.out).mono ?_
  rintro e w5 ⟨rfl, ⟨a5, n5, c5, hu5⟩, hg5⟩
  have hs5 : W4.heap.size ≤ w5.heap.size := hg5.size
  have HO5 := mkHid (HO4.out.turn hg5 (by omega) (by omega))
  have HR5 := mkHid ((hg5.block _ (by omega) (fun e => by injection e with e; omega)).trans HR4.out)
  have HL5 := mkHid (takeOf_ok HL0.out.2.2 1 s1.2)
  obtain ⟨N, hN⟩ : ∃ N, (takeOf 1 s1.1 s1.2).1 = N := ⟨_, rfl⟩
  obtain ⟨s2, hs2e⟩ : ∃ s, (takeOf 1 s1.1 s1.2).2 = s := ⟨_, rfl⟩
  rw [hN, hs2e] at HL5
  rw [hs2e] at hu5
  have HNN := mkHid hN
  have HS2 := mkHid hs2e
  rw [hN]
  obtain ⟨M, hM⟩ : ∃ M : Nat, (min N 7).toNat = M := ⟨_, rfl⟩
  have HMM := mkHid hM
  have hNR := HL5.out.1
  have hM7 : M ≤ 7 := by omega
  have hMI : min N 7 = (M : Int) := by omega
  have HNP := mkHid (show NP w w5 g w3.heap.size 0 lv none 0 none 0 s2 from ⟨⟨a5, n5, c5, hu5⟩, HO5.out, HR5.out⟩)
  obtain ⟨X, hX⟩ : ∃ X, w3.heap.size = X := ⟨_, rfl⟩
  have hgX : g < X := by omega
  have hwg : w.heap.size < g := by omega
  rw [hX] at HNP ⊢
  clear hu5 hg5 hN hs2e hM HO5 HR5 HO4 HR4 HU4 HU3 HU2 HR3 HR2 HR1 hs3 hs4 hs5 hgl hg hs1 hX
  go_wp2_with fail
  go_loopw [27] (fun i wr => ∃ (q : Nat) (A : Option Addr) (C : Nat) (A' : Option Addr) (C' : Nat), q ≤ M ∧ i = .int .i64 q ∧ Hid (NP w wr g X q lv A C A' C' s2)) (fun i _ => M - (intOf i).toNat)
  case atStart => exact ⟨0, none, 0, none, 0, Nat.zero_le _, rfl, HNP⟩
  case round =>
    clear HNP hMI
    obtain ⟨q, A, C, A', C', hq, rfl, HNP⟩ := hrel
    by_cases hlt : q < M
    · obtain ⟨ar, nr, cr, hur⟩ := HNP.out.uk
      have HUR := mkHid hur
      have HO := mkHid HNP.out.out
      have HRR := mkHid HNP.out.res
      have hwl : w.heap.size < wr.heap.size := (Array.getElem?_eq_some_iff.1 HNP.out.res).1
      have x1 := HO.out.c1
      have x2 := HO.out.c2
      have HSTEP := mkHid (show rd8N (q + 1) s2 = ((rd8N q s2).1 ++ [(rd8 (rd8N q s2).2).1], (rd8 (rd8N q s2).2).2) from rfl)
      obtain ⟨bs, hbs⟩ : ∃ t, (rd8N q s2).2 = t := ⟨_, rfl⟩
      obtain ⟨xs, hxs⟩ : ∃ t, (rd8N q s2).1 = t := ⟨_, rfl⟩
      rw [hbs] at HUR HSTEP
      rw [hxs] at HO HSTEP
      clear hbs hxs hur HNP
      go_wp2_with fail
      go_region_law (first
        | ((try go_simp); go_at_call 59; refine (uLong_any g ar nr cr bs.1 bs.2 _ (by exact HUR.out.keepX (fun _ _ => rfl))).mono ?_; rintro e y1 ⟨rfl, ⟨a7, n7, c7, hu7⟩, hg7⟩; have hg7 : World.grownBy wr y1 (some g) := ⟨hg7.os, hg7.tape, hg7.output, hg7.size, hg7.block⟩; have HO1 := mkHid (HO.out.turn hg7 (Nat.le_of_lt hwg) hgX); have HOr := mkHid HO1.out.rebase; have x11 := HO1.out.c1; have xa1 := (HO1.out.next (below_al (Below.refl _ _) (.cells #[.int .i64 (takeOf 8 bs.1 bs.2).1] 3))).c1; have HR1 := mkHid ((hg7.block _ hwl (fun e => by injection e with e; omega)).trans HRR.out); have HU1 := mkHid hu7; clear hg7 hu7)
        | (refine step_key 30 33 rfl rfl HOr.out (by first | exact below_al (Below.refl _ _).drew _ | exact (below_al (Below.refl _ _) _).drew | exact below_al (Below.refl _ _) _) (by omega) (heap_alloc_new _ _) (by omega) rfl rfl ?_; intro A3 C3 w3 ho c1 c2 f1 f2))
      all_goals
        obtain ⟨V, hV⟩ : ∃ V, w3.setCell ⟨X, 1, none⟩ (.slice A3 (q + 1) C3) = V := ⟨_, rfl⟩
        rw [hV] at ho ⊢
        clear hV c1 c2 f1 f2 xa1 x11 x1 x2
        obtain ⟨hk1, hk2⟩ := HO1.out.back ho.out
        have HO2 := mkHid hk1
        have HU2 := mkHid (HU1.out.keepX fun b hb => hk2 b (by omega))
        have HR2 := mkHid ((hk2 _ (by omega)).trans HR1.out)
        have hvl : w.heap.size < V.heap.size := (Array.getElem?_eq_some_iff.1 HR2.out).1
        have x1 := HO2.out.c1
        have x2 := HO2.out.c2
        clear hk1 hk2 ho HO1 HOr HU1 HR1 HUR HO HRR hwl
        go_wp2_with fail
        go_region_law (first
          | ((try go_simp); go_at_call 59; refine (uLong_any g _ _ _ (takeOf 8 bs.1 bs.2).2.1 (takeOf 8 bs.1 bs.2).2.2 _ (by exact HU2.out.keepX (fun _ _ => rfl))).mono ?_; rintro e y2 ⟨rfl, ⟨a8, n8, c8, hu8⟩, hg8⟩; have hg8 : World.grownBy V y2 (some g) := ⟨hg8.os, hg8.tape, hg8.output, hg8.size, hg8.block⟩; have HO3 := mkHid (HO2.out.turn hg8 (Nat.le_of_lt hwg) hgX); have HOs := mkHid HO3.out.rebase; have x12 := HO3.out.c2; have xa2 := (HO3.out.next (below_al (Below.refl _ _) (.cells #[.int .i64 (takeOf 8 (takeOf 8 bs.1 bs.2).2.1 (takeOf 8 bs.1 bs.2).2.2).1] 3))).c2; have HR3 := mkHid ((hg8.block _ hvl (fun e => by injection e with e; omega)).trans HR2.out); have HU3 := mkHid hu8; clear hg8 hu8)
          | (refine step_val 37 40 rfl rfl HOs.out (by first | exact below_al (Below.refl _ _).drew _ | exact (below_al (Below.refl _ _) _).drew | exact below_al (Below.refl _ _) _) (by omega) (heap_alloc_new _ _) (by omega) rfl rfl ?_; intro A4 C4 w4 hp c1 c2 f1 f2))
        all_goals
          obtain ⟨U, hU⟩ : ∃ U, w4.setCell ⟨X, 2, none⟩ (.slice A4 (q + 1) C4) = U := ⟨_, rfl⟩
          rw [hU] at hp ⊢
          clear hU c1 c2 f1 f2 xa2 x12 x1 x2
          obtain ⟨hk1, hk2⟩ := HO3.out.back hp.out
          have HO4 := mkHid hk1
          have HU4 := mkHid (HU3.out.keepX fun b hb => hk2 b (by omega))
          have HR4 := mkHid ((hk2 _ (by omega)).trans HR3.out)
          clear hk1 hk2 hp HO3 HOs HU3 HR3 HU2 HO2 HR2 hvl
          go_wp2_with fail
          go_roundw
          case measure => simp [intOf]; omega
          case rel =>
            refine ⟨q + 1, A3, C3, A4, C4, by omega, by go_num, mkHid ⟨?_, ?_, HR4.out⟩⟩
            · rw [HSTEP.out]
              exact ⟨_, _, _, HU4.out⟩
            · rw [HSTEP.out]
              have h := HO4.out
              have e1 : keysOf (xs ++ [(rd8 bs).1]) = keysOf xs ++ [(takeOf 8 bs.1 bs.2).1] := by simp [keysOf, rd8]
              have e2 : valsOf (xs ++ [(rd8 bs).1]) = valsOf xs ++ [(takeOf 8 (takeOf 8 bs.1 bs.2).2.1 (takeOf 8 bs.1 bs.2).2.2).1] := by simp [valsOf, rd8]
              rw [e1, e2]
              exact h
    · obtain rfl : q = M := by omega
      have HO := mkHid HNP.out.out
      have HRR := mkHid HNP.out.res
      have x0 := HO.out.c0
      have x1 := HO.out.c1
      have x2 := HO.out.c2
      have HRAW := mkHid (show rawN p = (lv, (rd8N q s2).1) from by
        unfold rawN
        rw [HLV.out]
        have e1 := HS1.out
        have e2 := HS2.out
        have e3 := HNN.out
        have e4 := HMM.out
        rw [← e1] at e2 e3
        rw [e2, e3, e4])
      have hxok := (rd8N_ok q s2 HL5.out.2.2).1
      have HIK := mkHid (HO.out.isk fun x hx => by
        obtain ⟨y, hy, rfl⟩ := List.mem_map.1 hx
        exact (hxok y hy).1)
      have HIV := mkHid (HO.out.isv fun x hx => by
        obtain ⟨y, hy, rfl⟩ := List.mem_map.1 hx
        exact (hxok y hy).2)
      have hcapk := own_cap HO.out.kr
      have hcapv := own_cap HO.out.vr
      have HCK := mkHid (show CapOk q C from ⟨hcapk.1, hcapk.2, by omega⟩)
      have HCV := mkHid (show CapOk q C' from ⟨hcapv.1, hcapv.2, by omega⟩)
      have HXL := mkHid (rd8N_len q s2)
      obtain ⟨xs, hxs⟩ : ∃ t, (rd8N q s2).1 = t := ⟨_, rfl⟩
      rw [hxs] at HRAW HIK HIV HO HXL
      have HBE := mkHid HO.out.be
      clear hxok hcapk hcapv hxs HNP
      have HROW := mkHid (And.intro (show ∀ ad : Addr, A = some ad → w.heap.size + 1 ≤ ad.block from fun ad had => by have := own_from HO.out.kr ad had; omega) (show ∀ ad : Addr, A' = some ad → w.heap.size + 1 ≤ ad.block from fun ad had => by have := own_from HO.out.vr ad had; omega))
      have HXX := mkHid (show wr.heap[X]? = some (.cells #[.int .i64 lv, .slice A q C, .slice A' q C'] 32 (0, 0)) from HO.out.bl)
      have HPN := mkHid (show ∀ c ys, (okD p = false ∧ c = 70 ∧ ys = (0, []) ∨ okD p = true ∧ c = 0 ∧ ys = rawD p) → parsN l = (c, ys) from fun c ys h => by
        unfold parsN
        rw [HGP.out]
        rcases h with ⟨h1, rfl, rfl⟩ | ⟨h1, rfl, rfl⟩
        · rw [if_neg (by rw [h1]; simp)]
        · rw [if_pos ⟨rfl, h1⟩])
      have HBAD := mkHid (show ∀ (v : Value) (W : World), parsN l = (70, 0, []) → Below w.heap.size w W → v = .agg #[.int .i64 0, .slice none 0 0, .slice none 0 0] → ∃ v', Ending.returned (.tuple #[v, codeV 70]) = .returned (.tuple #[v', errV (parsN l).1]) ∧ NdIn W v' (parsN l).2.1 (keysOf (parsN l).2.2) (valsOf (parsN l).2.2) ∧ Below w.heap.size w W from fun v W hp hb hv => by
        rw [hp]
        exact ⟨v, by rw [errV_of (by omega)], by rw [hv]; exact ⟨none, 0, 0, none, 0, 0, rfl, IS.nil, IS.nil, ⟨by omega, by unfold maxLen; omega, by omega⟩, ⟨by omega, by unfold maxLen; omega, by omega⟩⟩, hb⟩)
      obtain ⟨hsame1, hsame2⟩ := parse_same HPOK.out
      have HEQ := mkHid (show okP p = (rightN lv (keysOf xs) (valsOf xs) && decide (nodeB lv xs = p)) from by
        unfold okP rightX
        rw [HRAW.out])
      have HS1' := mkHid hsame1
      have HS2' := mkHid hsame2
      clear hsame1 hsame2 HO
      cases hr : rightN lv (keysOf xs) (valsOf xs) with
      | false =>
        have HPA := mkHid (HPN.out 70 (0, []) (.inl ⟨by rw [← HS1'.out, HEQ.out, hr]; rfl, rfl, rfl⟩))
        have HNB := mkHid (nbytes_no lv A A' q q C C' (keysOf xs) (valsOf xs) wr HIK.out HIV.out hr)
        clear hr
        go_wp2_with fail
        refine HNB.out.mono ?_
        rintro e w6 ⟨rfl, hb6⟩
        have hr6 := (hb6.block _ (Array.getElem?_eq_some_iff.1 HRR.out).1).trans HRR.out
        obtain ⟨⟨c0, c1, c2⟩, f0, f1, f2⟩ := HCR.out w6 hr6
        have HB6 := mkHid (HBE.out.trans (hb6.mono HBE.out.size))
        clear hb6 hr6 x0 x1 x2
        go_wp2_with fail
        refine bodyPost_ret (v := .tuple #[.agg #[.int .i64 0, .slice none 0 0, .slice none 0 0], codeV 70]) (by simp [results, Try.results34, go_sem, c0, c1, c2]) rfl ?_
        exact HBAD.out _ _ HPA.out (by first | exact HB6.out | exact ((HB6.out.setCell (p := ⟨w.heap.size, 0, none⟩) (Nat.le_refl _) _).setCell (p := ⟨w.heap.size, 1, none⟩) (Nat.le_refl _) _).setCell (p := ⟨w.heap.size, 2, none⟩) (Nat.le_refl _) _) rfl
      | true =>
        have hnb := nbytes_yes lv A A' q q C C' (keysOf xs) (valsOf xs) wr HIK.out HIV.out hr
        rw [pairs_of_maps] at hnb
        have HNB := mkHid hnb
        have HRT := mkHid hr
        have hxl7 : xs.length ≤ 7 := by rw [HXL.out]; omega
        clear hr hnb
        go_wp2_with fail
        refine HNB.out.mono ?_
        rintro e w6 ⟨A6, C6, rfl, ho6, hb6⟩
        have HR6 := mkHid ((hb6.block _ (Array.getElem?_eq_some_iff.1 HRR.out).1).trans HRR.out)
        have HX6 := mkHid ((hb6.block _ (Array.getElem?_eq_some_iff.1 HXX.out).1).trans HXX.out)
        have HB6 := mkHid (HBE.out.trans (hb6.mono HBE.out.size))
        have HIK6 := mkHid ((HIK.out.below hb6).more hb6.size)
        have HIV6 := mkHid ((HIV.out.below hb6).more hb6.size)
        have hfo : okBytes (frameOf 2 (nodeB lv xs)) := frameOf_ok ⟨by omega, by omega⟩ (nodeB_ok lv xs) (by rw [nodeB_len]; omega)
        have HBS6 := mkHid (show BS w6 w6.heap.size A6 128 (frameOf 2 (nodeB lv xs)) from ⟨SL.of_own ho6, hfo⟩)
        have HX7 := mkHid (HX0.out.below HB6.out)
        have HED := mkHid (show decide (frameOf 2 (nodeB lv xs) = l) = decide (nodeB lv xs = p) from by
          rw [decide_eq_decide]
          constructor
          · intro h
            rw [HLF.out] at h
            exact frame_inj (by rw [nodeB_len]; omega) HPL.out h
          · intro h
            rw [h]
            exact HLF.out.symm)
        clear ho6 hb6 hfo x0 x1 x2
        go_wp2_with fail
        refine (equal_any A6 a 128 n C6 c _ _ _ _ w6 HBS6.out HX7.out).mono ?_
        rintro e w7 ⟨rfl, rfl⟩
        rw [HED.out]
        by_cases hb : nodeB lv xs = p
        · have hok : okD p = true := by rw [← HS1'.out, HEQ.out, HRT.out, decide_eq_true hb]; rfl
          have HPA := mkHid (HPN.out 0 (lv, xs) (.inr ⟨hok, rfl, by rw [← HS2'.out hok]; exact HRAW.out.symm⟩))
          obtain ⟨⟨c0, c1, c2⟩, f0, f1, f2⟩ := HCR.out w6 HR6.out
          have x0 := cell_of_row w6 X 0 _ _ _ HX6.out
          have x1 := cell_of_row w6 X 1 _ _ _ HX6.out
          have x2 := cell_of_row w6 X 2 _ _ _ HX6.out
          simp at x0 x1 x2
          rw [decide_eq_true hb]
          clear hb hok
          go_wp2_with fail
          refine bodyPost_ret (v := .tuple #[.agg #[.int .i64 lv, .slice A q C, .slice A' q C'], .nilIface]) (by simp [results, Try.results34, go_sem, c0, c1, c2]) rfl ?_
          rw [HPA.out]
          have hk : ∀ ad : Addr, A = some ad → ∀ j : Nat, ad.block ≠ (⟨w.heap.size, j, none⟩ : Addr).block := fun ad had j e => by have := HROW.out.1 ad had; rw [e] at this; simp only at this; omega
          have hv : ∀ ad : Addr, A' = some ad → ∀ j : Nat, ad.block ≠ (⟨w.heap.size, j, none⟩ : Addr).block := fun ad had j e => by have := HROW.out.2 ad had; rw [e] at this; simp only at this; omega
          refine ⟨_, rfl, ⟨A, q, C, A', q, C', rfl, ?_, ?_, HCK.out, HCV.out⟩, ((HB6.out.setCell (p := ⟨w.heap.size, 0, none⟩) (Nat.le_refl _) _).setCell (p := ⟨w.heap.size, 1, none⟩) (Nat.le_refl _) _).setCell (p := ⟨w.heap.size, 2, none⟩) (Nat.le_refl _) _⟩
          · simp only [setCell_size]
            exact ((HIK6.out.set_other fun ad had => hk ad had 0).set_other fun ad had => hk ad had 1).set_other fun ad had => hk ad had 2
          · simp only [setCell_size]
            exact ((HIV6.out.set_other fun ad had => hv ad had 0).set_other fun ad had => hv ad had 1).set_other fun ad had => hv ad had 2
        · have HPA := mkHid (HPN.out 70 (0, []) (.inl ⟨by rw [← HS1'.out, HEQ.out, decide_eq_false hb, Bool.and_false], rfl, rfl⟩))
          obtain ⟨⟨c0, c1, c2⟩, f0, f1, f2⟩ := HCR.out w6 HR6.out
          rw [decide_eq_false hb]
          clear hb
          go_wp2_with fail
          refine bodyPost_ret (v := .tuple #[.agg #[.int .i64 0, .slice none 0 0, .slice none 0 0], codeV 70]) (by simp [results, Try.results34, go_sem, c0, c1, c2]) rfl ?_
          exact HBAD.out _ _ HPA.out (by first | exact HB6.out | exact ((HB6.out.setCell (p := ⟨w.heap.size, 0, none⟩) (Nat.le_refl _) _).setCell (p := ⟨w.heap.size, 1, none⟩) (Nat.le_refl _) _).setCell (p := ⟨w.heap.size, 2, none⟩) (Nat.le_refl _) _) rfl

end Go.Proofs.Ytilepjkdfbhgcaa
