/- FrameOwn: the walk of the law. -/
import Derived.Test.YtncbckbcdopipaaFramePacks
import Derived.Test.YtncbckbcdopipaaFrameLaw
import Derived.Laws.Bits128
namespace Go.Proofs.Ytncbckbcdopipaa
open Go.RowKit

theorem i64_and255 (n : Int) : bits .and .i64 n 255 = n % 256 := by
  have h255 : (BitVec.ofInt 64 255).toNat = 2 ^ 8 - 1 := by decide
  have key : (BitVec.ofInt 64 n &&& BitVec.ofInt 64 255).toNat = (n % ((2 ^ 64 : Nat) : Int)).toNat % 2 ^ 8 := by
    rw [BitVec.toNat_and, BitVec.toNat_ofInt, h255, Nat.and_two_pow_sub_one_eq_mod]
  show IntKind.i64.wrap ((BitVec.ofInt 64 n &&& BitVec.ofInt 64 255).toNat : Nat) = n % 256
  rw [key, IntKind.wrap_i64]
  omega

/-- A row of bytes of one's own that is being written over, since world w0. -/
def OW (w0 wr : World) (base : Nat) (A : Option Addr) (n C : Nat) : Prop :=
  ∃ lv : List Int, wr.ownsRow base 5 1 (.slice A n C) n (lv.map u8) ∧ okBytes lv ∧ w0.grownBy wr (Value.slice A n C).ownBlock
theorem OW.start {w0 : World} {base : Nat} {A : Option Addr} {n C : Nat} {l : List Int} (h : w0.ownsRow base 5 1 (.slice A n C) n (l.map u8)) (ok : okBytes l) : OW w0 w0 base A n C := ⟨l, h, ok, grownBy_refl _ _⟩
theorem OW.set {w0 wr : World} {base g n C k : Nat} {y : Int} (h : OW w0 wr base (some ⟨g, 0, none⟩) n C) (hk : k < n) (h0 : 0 ≤ y) (h1 : y < 256) : OW w0 (wr.setCell ⟨g, k, none⟩ (.int .u8 y)) base (some ⟨g, 0, none⟩) n C := by
  obtain ⟨lv, ho, ok, hg⟩ := h
  refine ⟨lv.set k y, ?_, fun x hx => ?_, ?_⟩
  · have := own_set (v := u8 y) ho hk
    rw [List.map_set]
    exact this
  · rcases List.mem_or_eq_of_mem_set hx with hx | rfl
    · exact ok x hx
    · exact ⟨h0, h1⟩
  · have g1 := grown_set wr g k (.int .u8 y)
    exact ⟨g1.os.trans hg.os, g1.tape.trans hg.tape, g1.output.trans hg.output, by have := hg.size; have := g1.size; omega, fun q hq hne => (g1.block q (by have := hg.size; omega) hne).trans (hg.block q hq hne)⟩
theorem OW.cells {w0 wr : World} {base : Nat} {A : Option Addr} {n C k : Nat} (h : OW w0 wr base A n C) (hk : k < n) : ∃ g x, A = some ⟨g, 0, none⟩ ∧ wr.cell? ⟨g, k, none⟩ = some (.int .u8 x) ∧ wr.frozen? ⟨g, k, none⟩ = false ∧ 0 ≤ x ∧ x < 256 := by
  obtain ⟨lv, ho, ok, hg⟩ := h
  obtain ⟨g, rfl, _, _, hc⟩ := own_cells ho (by omega)
  exact ⟨g, _, rfl, hc k hk, frozen_of_own ho k, (ok.get k).1, (ok.get k).2⟩
theorem OW.below {w0 wr : World} {base B : Nat} {A : Option Addr} {n C : Nat} (h : OW w0 wr base A n C) (hb : Below B w0 w0) (hB : B ≤ base) (hs : B ≤ w0.heap.size) : Below B w0 wr := by
  obtain ⟨lv, ho, ok, hg⟩ := h
  exact hb.grown hg hs fun q hq => Nat.le_trans hB (ho.lt q hq).1

/-- NewUnpacker: what it holds lies in new memory. -/
theorem UK.newer {w w' W : World} {g n c : Nat} {a : Option Addr} {bs : List Int} {bad : Bool} (h : UK w' g a n c bs bad) (hg : w.heap.size ≤ g) (ho : ∀ b o, a = some ⟨b, o, none⟩ → w.heap.size ≤ b)
    (hk : ∀ q, w.heap.size ≤ q → q < w'.heap.size → W.heap[q]? = w'.heap[q]?) (hs : w'.heap.size ≤ W.heap.size) : UK W g a n c bs bad :=
  ⟨(hk g hg h.lt).trans h.blk, ⟨h.bytes.1, h.bytes.2.1, fun j hj => by
    obtain ⟨b, o, ha, h1, h2, h3⟩ := h.bytes.2.2 j hj
    exact ⟨b, o, ha, h1, by omega, (World.cell?_of_block (w := w') (hk b (ho b o ha) h2)).trans h3⟩⟩, h.cap⟩
set_option maxRecDepth 20000 in
set_option maxHeartbeats 400000 in
theorem newUnpacker_new (a : Option Addr) (n c : Nat) (l : List Int) (w : World) (hx : BS w w.heap.size a n l) (hn : n ≤ 140737488355328) :
    Calls Try.prog 15 #[.slice a n c] w fun e w' => ∃ g, e = .returned (.pointer (some ⟨g, 0, none⟩)) ∧ w.heap.size ≤ g ∧ (∃ a' n' c', UK w' g a' n' c' l false ∧ ∀ b o, a' = some ⟨b, o, none⟩ → w.heap.size ≤ b) ∧ Below w.heap.size w w' := by
  have HL := mkHid hx.len
  go_enter Try.func15, Try.ntmps15
  go_wp2_with fail
  refine (clone_any a n c l w hx hn).mono ?_
  rintro e w1 ⟨A, n', c', rfl, hown, hb⟩
  have hn' : n' = n := by have h1 := hown.1; have h2 := HL.out; simp at h1; omega
  have hsz := hb.size
  have hbs : BS w1 w1.heap.size A n' l := ⟨SL.of_own hown, hx.2⟩
  have hcap := own_cap hown
  have HA := mkHid (show ∀ b o, A = some ⟨b, o, none⟩ → w.heap.size ≤ b from fun b o e => by
    rcases hown.2 with ⟨h1, _⟩ | ⟨g', cap, cur, h1, h2, _⟩
    · injection h1 with h1; rw [h1] at e; cases e
    · injection h1 with h1; rw [h1] at e; injection e with e; injection e with e; omega)
  have HU := mkHid (show UK (w1.alloc (.cells #[.slice A n' c', .bool false] 74)) w1.heap.size A n' c' l false from
    ⟨heap_alloc_new w1 _, BO.of (hbs.below ((Below.refl _ _).alloc (Nat.le_refl _) _)) (by simp) (Nat.le_refl _), hcap.1, hcap.2, by omega⟩)
  clear hbs hown hn' hcap
  go_wp2_with fail
  go_ret
  exact ⟨_, rfl, hsz, ⟨A, n', c', HU.out, HA.out⟩, hb.alloc hsz _⟩

theorem UK.of_heap {w W : World} {g n c : Nat} {a : Option Addr} {bs : List Int} {bad : Bool} (h : UK w g a n c bs bad) (hW : W.heap = w.heap) : UK W g a n c bs bad :=
  ⟨by rw [hW]; exact h.blk, ⟨h.bytes.1, h.bytes.2.1, fun j hj => by
    obtain ⟨b, o, ha, h1, h2, h3⟩ := h.bytes.2.2 j hj
    exact ⟨b, o, ha, h1, by rw [hW]; exact h2, (World.cell?_of_block (w := w) (by rw [hW])).trans h3⟩⟩, h.cap⟩

set_option maxRecDepth 20000 in
set_option maxHeartbeats 4000000 in
theorem frameOwn_any (kd : Int) (a : Option Addr) (n c : Nat) (pl : List Int) (al : Option Addr) (nl cl : Nat) (l : List (Int × Int)) (w : World) (hkd : 0 ≤ kd ∧ kd < 256) (hp : BS w w.heap.size a n pl) (hn : n ≤ c ∧ c ≤ 140737488351232) (hx : RS R2i 2 w w.heap.size al nl l) (hnl : nl ≤ cl ∧ cl ≤ 140737488351232) :
    Calls Try.prog 8 #[.int .u8 kd, .slice a n c, .slice al nl cl] w fun e w' => e = .returned (.bool true) ∧ Below w.heap.size w w' := by
  obtain ⟨hn1, hn2⟩ := hn
  obtain ⟨hnl1, hnl2⟩ := hnl
  by_cases hbig : 122 < n
  · go_enter Try.func8, Try.ntmps8
    go_wp2_with fail
    refine (awake_any _).mono ?_
    rintro e w1 ⟨rfl, hb1⟩
    go_wp2_with fail
    go_ret
    exact ⟨rfl, hb1⟩
  by_cases hbig2 : 100 < nl
  · go_enter Try.func8, Try.ntmps8
    go_wp2_with fail
    refine (awake_any _).mono ?_
    rintro e w1 ⟨rfl, hb1⟩
    go_wp2_with fail
    go_ret
    exact ⟨rfl, hb1⟩
  have HLP := mkHid hp.len
  have HLL := mkHid hx.1
  have HOK := mkHid hp.2
  have HPP := mkHid hp
  have hpl : pl.length ≤ 122 := by rw [HLP.out]; omega
  have HGF := mkHid (get_frame (k := kd) (l := pl) hpl)
  have HFO := mkHid (frameOf_ok (k := kd) hkd hp.2 hpl)
  clear hpl
  go_enter Try.func8, Try.ntmps8
  go_wp2_with fail
  refine (copy_any a n c pl w hp (by omega)).mono ?_
  rintro e u ⟨Ai, ni, Ci, rfl, hoi, hbu⟩
  have hni : ni = n := by have h1 := hoi.1; have h2 := HLP.out; simp at h1; omega
  subst hni
  have HOI := mkHid hoi
  have HBU := mkHid hbu
  have hiu : BS u u.heap.size Ai ni pl := ⟨SL.of_own hoi, hp.2⟩
  clear hoi hbu hp
  go_wp2_with fail
  refine (put_ok kd Ai ni Ci pl u hiu (by omega) hkd).mono ?_
  rintro e w1 ⟨Aa, Ca, rfl, hoa, hb1⟩
  have HOA := mkHid hoa
  have HOI1 := mkHid (own_below HOI.out hb1)
  have HB1 := mkHid (HBU.out.trans (hb1.mono HBU.out.size))
  clear hoa hb1 hiu
  go_wp2_with fail
  go_loopw [49] (fun i wr => ∃ k : Nat, k ≤ ni ∧ i = .int .i64 k ∧ OW w1 wr w.heap.size Ai ni Ci) (fun i _ => ni - (intOf i).toNat)
  case atStart => exact ⟨0, Nat.zero_le _, rfl, OW.start HOI1.out HOK.out⟩
  case round =>
    obtain ⟨k, hk, rfl, how⟩ := hrel
    by_cases hlt : k < ni
    · obtain ⟨g, x, rfl, hcell, hfrz, hx0, hx1⟩ := how.cells hlt
      have HOW := mkHid how
      clear how
      go_wp2_with fail
      go_roundw
      case rel => exact ⟨k + 1, by omega, by go_num, HOW.out.set hlt (by omega) (by omega)⟩
      case measure => simp [intOf]; omega
    · obtain rfl : k = ni := by omega
      have hbr : Below w.heap.size w wr := HB1.out.trans (how.below (Below.refl _ _) (Nat.le_refl _) HB1.out.size)
      have HBR := mkHid hbr
      have hkp : ∀ q, (Value.slice Aa 128 Ca).ownBlock = some q → wr.heap[q]? = w1.heap[q]? := fun q hq => by
        obtain ⟨lv, ho, ok, hg⟩ := how
        refine hg.block q (HOA.out.lt q hq).2 fun e => ?_
        have h1 := (HOA.out.lt q hq).1
        have h2 := (HOI.out.lt q e.symm).2
        omega
      have HFA := mkHid (show BS wr wr.heap.size Aa 128 (frameOf kd pl) from ⟨SL.of_own (own_keep1 HOA.out hkp), HFO.out⟩)
      have hcapa := own_cap HOA.out
      have HCA := mkHid (show CapOk 128 Ca from ⟨hcapa.1, hcapa.2, by omega⟩)
      have hpp := (HPP.out.below hbr).more hbr.size
      have hsr := hbr.size
      have HPR := mkHid hpp
      clear how hbr hkp hcapa HOA HOI HOI1 HB1 HBU
      go_wp2_with fail
      refine (put_ok kd a k c pl wr hpp (by omega) hkd).mono ?_
      rintro e w2 ⟨Ab, Cb, rfl, hob, hb2⟩
      have HFA2 := mkHid ((HFA.out.below hb2).more hb2.size)
      have HFB2 := mkHid (show BS w2 w2.heap.size Ab 128 (frameOf kd pl) from ⟨SL.of_own hob, HFO.out⟩)
      have HP2 := mkHid ((HPR.out.below hb2).more hb2.size)
      have HB2 := mkHid (HBR.out.trans (hb2.mono hsr))
      clear hob hb2 hpp HFA HPR HBR hsr
      go_wp2_with fail
      refine (get_ok kd Aa 128 Ca (frameOf kd pl) w2 HFA2.out HCA.out (by rw [HGF.out])).mono ?_
      rintro e w3 ⟨Ax, nx, Cx, rfl, hox, hb3⟩
      rw [HGF.out] at hox
      have hnx : nx = k := by have h1 := hox.1; have h2 := HLP.out; simp at h1; omega
      subst hnx
      have HOX := mkHid hox
      have HFA3 := mkHid (HFA2.out.below hb3)
      have HFB3 := mkHid (HFB2.out.below hb3)
      have HP3 := mkHid (HP2.out.below hb3)
      have HB3 := mkHid (HB2.out.trans (hb3.mono HB2.out.size))
      have hs23 : w2.heap.size ≤ w3.heap.size := hb3.size
      have hsw2 : w.heap.size ≤ w2.heap.size := HB2.out.size
      clear hox hb3 HFA2 HFB2 HP2 HB2
      go_wp2_with fail
      go_loopw [73] (fun i wr => ∃ q : Nat, q ≤ nx ∧ i = .int .i64 q ∧ OW w3 wr w2.heap.size Ax nx Cx) (fun i _ => nx - (intOf i).toNat)
      case atStart => exact ⟨0, Nat.zero_le _, rfl, OW.start HOX.out HOK.out⟩
      case round =>
        obtain ⟨q, hq, rfl, how⟩ := hrel
        by_cases hlt2 : q < nx
        · obtain ⟨g, x, rfl, hcell, hfrz, hx0, hx1⟩ := how.cells hlt2
          have HOW := mkHid how
          clear how
          go_wp2_with fail
          go_roundw
          case rel => exact ⟨q + 1, by omega, by go_num, HOW.out.set hlt2 (by omega) (by omega)⟩
          case measure => simp [intOf]; omega
        · obtain rfl : q = nx := by omega
          have hbr := how.below (B := w2.heap.size) (Below.refl _ _) (Nat.le_refl _) hs23
          have hsr := hbr.size
          have HFA4 := mkHid ((HFA3.out.below hbr).more (show w2.heap.size ≤ wr.heap.size by omega))
          have HFB4 := mkHid ((HFB3.out.below hbr).more (show w2.heap.size ≤ wr.heap.size by omega))
          have HP4 := mkHid ((HP3.out.below hbr).more (show w2.heap.size ≤ wr.heap.size by omega))
          have HB4 := mkHid (HB3.out.trans (hbr.mono hsw2))
          clear how hbr HFA3 HFB3 HP3 HB3 HOX
          go_wp2_with fail
          refine (get_ok kd Aa 128 Ca (frameOf kd pl) wr HFA4.out HCA.out (by rw [HGF.out])).mono ?_
          rintro e w5 ⟨Ay, ny, Cy, rfl, hoy, hb5⟩
          rw [HGF.out] at hoy
          have HY5 := mkHid (show BS w5 w5.heap.size Ay ny pl from ⟨SL.of_own hoy, HOK.out⟩)
          have HFA5 := mkHid ((HFA4.out.below hb5).more hb5.size)
          have HFB5 := mkHid ((HFB4.out.below hb5).more hb5.size)
          have HP5 := mkHid ((HP4.out.below hb5).more hb5.size)
          have HB5 := mkHid (HB4.out.trans (hb5.mono HB4.out.size))
          clear hoy hb5 HFA4 HFB4 HP4 HB4 hsr
          go_wp2_with fail
          refine (same_any Aa Ab 128 128 Ca Cb _ _ _ _ _ HFA5.out HFB5.out).mono ?_
          rintro e w' ⟨rfl, rfl⟩
          rw [decide_eq_true rfl]
          go_wp2_with fail
          refine (same_any Ay a ny q Cy c _ _ _ _ _ HY5.out HP5.out).mono ?_
          rintro e w' ⟨rfl, rfl⟩
          rw [decide_eq_true rfl]
          clear HFA5 HFB5 HP5 HY5 HGF HFO HCA hs23 hsw2
          go_wp2_with fail
          refine (newPacker_any w5).mono ?_
          rintro e w6 ⟨rfl, hp6, hb6⟩
          have HK6 := mkHid hp6
          have HD6 := mkHid hb6
          clear hp6 hb6
          go_wp2_with fail
          go_loopw [106] (fun i wr => ∃ (k : Nat) (A : Option Addr) (C : Nat), k ≤ nl ∧ i = .int .i64 k ∧ PK wr w5.heap.size w5.heap.size A k C ((l.take k).map fun p => p.2 % 256) false ∧ Below w5.heap.size w5 wr) (fun i _ => nl - (intOf i).toNat)
          case atStart => exact ⟨0, none, 0, Nat.zero_le _, rfl, HK6.out, HD6.out⟩
          case round =>
            obtain ⟨k, A, C, hk, rfl, hp, hb⟩ := hrel
            have HP := mkHid hp
            have HB := mkHid hb
            have hszr := hb.size
            have hbw : Below w.heap.size w wr := HB5.out.trans (hb.mono HB5.out.size)
            have HBW := mkHid hbw
            clear hp hb
            by_cases hlt3 : k < nl
            · obtain ⟨b, o, S, X, rfl, hbl, hget, hc0, hc1, hIS, hIX⟩ := (hx.below hbw).pair hlt3
              have hand := i64_and255 X
              have hfit : fits 1 (X % 256) = true := decide_eq_true (by rw [show (256 : Int) ^ 1 = 256 from rfl]; omega)
              have hnb : nb 1 (X % 256) = [X % 256] := by simp [nb]
              have hI2 : I64 (X % 256) := ⟨by omega, by omega⟩
              have HG := mkHid hget
              have HFT := mkHid hfit
              have HNB := mkHid hnb
              have HI2 := mkHid hI2
              clear hbw hget hfit hnb hI2
              go_wp2_with fail
              refine (pByte_own w5.heap.size w5.heap.size A k C _ false (wr.heap.size + 1) 1 (X % 256) (0, 0) _ ((HP.out.alloc _).alloc _) (new2 _ _ _) HI2.out (by omega)).mono ?_
              rintro e w7 ⟨rfl, A7, C7, hp7, pb7⟩
              rw [HFT.out, HNB.out, show (false || !true) = false from rfl] at hp7
              have HP7 := mkHid hp7
              have HB7 := mkHid (((HB.out.alloc hszr _).alloc (by simp; omega) _).trans pb7.below)
              clear hp7 pb7 HP HB
              go_wp2_with fail
              go_roundw
              case rel =>
                have e1 : (l.take (k + 1)).map (fun p => p.2 % 256) = (l.take k).map (fun p => p.2 % 256) ++ [X % 256] := by
                  obtain ⟨h, he⟩ := List.getElem?_eq_some_iff.1 HG.out
                  rw [List.take_succ_eq_append_getElem h, List.map_append, he]
                  rfl
                exact ⟨k + 1, A7, C7, by omega, by go_num, by rw [e1]; exact HP7.out, HB7.out⟩
              case measure => simp [intOf]; omega
            · obtain rfl : k = nl := by omega
              rw [List.take_of_length_le (by rw [HLL.out]; exact Nat.le_refl _)] at HP
              generalize hbs : l.map (fun p => p.2 % 256) = bs at *
              have HBS := mkHid hbs
              have hbl : bs.length = k := HP.out.len
              have HBL := mkHid hbl
              clear hbs hbl hbw HK6 HD6
              go_wp2_with fail
              refine (bytes_ok_any _ _ _ _ _ _ _ HP.out (by omega)).mono ?_
              rintro e w7 ⟨Au, nu, Cu, rfl, hou, hb7⟩
              have hnu : nu = k := by have h1 := hou.1; have h2 := HBL.out; simp at h1; omega
              subst hnu
              have HOU := mkHid hou
              have HB7 := mkHid hb7
              have hs7 : wr.heap.size ≤ w7.heap.size := hb7.size
              obtain ⟨wP, rfl⟩ : ∃ x, x = wr := ⟨wr, rfl⟩
              clear hou hb7
              go_wp2_with fail
              go_loopw [124] (fun i wv => ∃ q : Nat, q ≤ nu ∧ i = .int .i64 q ∧ OW w7 wv wP.heap.size Au nu Cu) (fun i _ => nu - (intOf i).toNat)
              case atStart => exact ⟨0, Nat.zero_le _, rfl, OW.start HOU.out HP.out.ok⟩
              case round =>
                obtain ⟨q, hq, rfl, how⟩ := hrel
                by_cases hlt4 : q < nu
                · obtain ⟨g, x, rfl, hcell, hfrz, hx0, hx1⟩ := how.cells hlt4
                  have HOW := mkHid how
                  clear how
                  go_wp2_with fail
                  go_roundw
                  case rel => exact ⟨q + 1, by omega, by go_num, HOW.out.set hlt4 (by omega) (by omega)⟩
                  case measure => simp [intOf]; omega
                · obtain rfl : q = nu := by omega
                  have hbr := HB7.out.trans (how.below (B := wP.heap.size) (Below.refl _ _) (Nat.le_refl _) hs7)
                  have HP8 := mkHid (HP.out.below hbr (Nat.le_refl _))
                  have hbw8 : Below w.heap.size w wr := HBW.out.trans (hbr.mono HBW.out.size)
                  have HBW8 := mkHid hbw8
                  clear how hbr hbw8 HOU HB7 hs7 HP HB HBW
                  go_wp2_with fail
                  refine (bytes_ok_any _ _ _ _ _ _ _ HP8.out (by omega)).mono ?_
                  rintro e w9 ⟨Av, nv, Cv, rfl, hov, hb9⟩
                  have hnv : nv = q := by have h1 := hov.1; have h2 := HBL.out; simp at h1; omega
                  subst hnv
                  have HOV := mkHid hov
                  have HV := mkHid (show BS w9 w9.heap.size Av nv bs from ⟨SL.of_own hov, HP8.out.ok⟩)
                  have HBW9 := mkHid (HBW8.out.trans (hb9.mono HBW8.out.size))
                  have hs9 : wr.heap.size ≤ w9.heap.size := hb9.size
                  obtain ⟨wQ, rfl⟩ : ∃ x, x = wr := ⟨wr, rfl⟩
                  have hswQ : w.heap.size ≤ wQ.heap.size := HBW8.out.size
                  clear hov hb9 HBW8
                  go_wp2_with fail
                  refine (newUnpacker_new Av nv Cv bs w9 HV.out (by omega)).mono ?_
                  rintro e w10 ⟨g, rfl, hg, ⟨a1, n1, c1, hu1, ha1⟩, hb10⟩
                  have HU10 := mkHid hu1
                  have HA10 := mkHid ha1
                  have HBW10 := mkHid (HBW9.out.trans (hb10.mono HBW9.out.size))
                  have HOV10 := mkHid (own_below HOV.out hb10)
                  have HOVL := mkHid HOV.out.lt
                  have hs10 : w9.heap.size ≤ w10.heap.size := hb10.size
                  clear hu1 ha1 hb10 HBW9 HV HOV
                  go_wp2_with fail
                  go_loopw [152] (fun i wv => ∃ q : Nat, q ≤ nv ∧ i = .int .i64 q ∧ OW w10 wv wQ.heap.size Av nv Cv) (fun i _ => nv - (intOf i).toNat)
                  case atStart => exact ⟨0, Nat.zero_le _, rfl, OW.start HOV10.out HP8.out.ok⟩
                  case round =>
                    obtain ⟨q, hq, rfl, how⟩ := hrel
                    by_cases hlt5 : q < nv
                    · obtain ⟨g', x, rfl, hcell, hfrz, hx0, hx1⟩ := how.cells hlt5
                      have HOW := mkHid how
                      clear how
                      go_wp2_with fail
                      go_roundw
                      case rel => exact ⟨q + 1, by omega, by go_num, HOW.out.set hlt5 (by omega) (by omega)⟩
                      case measure => simp [intOf]; omega
                    · obtain rfl : q = nv := by omega
                      have hbz := how.below (B := wQ.heap.size) (Below.refl _ _) (Nat.le_refl _) (by omega)
                      have hku : ∀ p, w9.heap.size ≤ p → p < w10.heap.size → wr.heap[p]? = w10.heap[p]? := fun p hp1 hp2 => by
                        obtain ⟨lv, ho, ok, hgr⟩ := how
                        refine hgr.block p hp2 fun e => ?_
                        have := (HOVL.out p e.symm).2
                        omega
                      have HU11 := mkHid (HU10.out.newer hg HA10.out hku hbz.size)
                      have HBW11 := mkHid (HBW10.out.trans (hbz.mono (by omega)))
                      have hgw : w.heap.size ≤ g := by omega
                      clear how hbz hku HU10 HA10 HBW10 HOV10 HOVL hs9 hs10 HP8
                      obtain ⟨nl, rfl⟩ : ∃ x, x = q := ⟨q, rfl⟩
                      go_wp2_with fail
                      go_loopw [161] (fun i wv => ∃ (q : Nat) (a' : Option Addr) (n' c' : Nat), q ≤ nl ∧ i = .int .i64 q ∧ UK wv g a' n' c' (bs.drop q) false ∧ Below w.heap.size w wv) (fun i _ => nl - (intOf i).toNat)
                      case atStart => exact ⟨0, a1, n1, c1, Nat.zero_le _, rfl, HU11.out, HBW11.out⟩
                      case round =>
                        obtain ⟨q, a', n', c', hq, rfl, hu, hb⟩ := hrel
                        by_cases hlt6 : q < nl
                        · obtain ⟨b, o, S, X, rfl, hbl, hget, hc0, hc1, hIS, hIX⟩ := (hx.below hb).pair hlt6
                          have hI2 : fits 1 (X % 256) = true := decide_eq_true (by rw [show (256 : Int) ^ 1 = 256 from rfl]; omega)
                          have hdr : bs.drop q = nb 1 (X % 256) ++ bs.drop (q + 1) := by
                            obtain ⟨h, he⟩ := List.getElem?_eq_some_iff.1 hget
                            have hnb : nb 1 (X % 256) = [X % 256] := by simp [nb]
                            rw [hnb, ← HBS.out, ← List.map_drop, List.drop_eq_getElem_cons h, he, List.map_cons, List.map_drop]
                            rfl
                          have htk : takeOf 1 (bs.drop q) false = (X % 256, bs.drop (q + 1), false) := by rw [hdr]; exact take_nb (by omega) hI2 _
                          have HTK := mkHid htk
                          have hand := i64_and255 X
                          have hUW : ∀ W, W.heap = (wr.alloc (.cells #[.int .i64 S, .int .i64 X] 63)).heap → UK W g a' n' c' (bs.drop q) false := by
                            intro W hW
                            exact (hu.below ((Below.refl _ _).alloc (Nat.le_refl _) (.cells #[.int .i64 S, .int .i64 X] 63)) (Nat.le_refl _)).of_heap hW
                          have HPC := mkHid (show ∀ W w2 : World, W.heap = (wr.alloc (.cells #[.int .i64 S, .int .i64 X] 63)).heap → W.grownBy w2 (some g) → w2.cell? ⟨wr.heap.size, 1, none⟩ = some (.int .i64 X) from fun W w2 hW hg => by
                            have hlt := hu.lt
                            have h1 : w2.heap[wr.heap.size]? = some (.cells #[.int .i64 S, .int .i64 X] 63 (0, 0)) := (hg.block wr.heap.size (by rw [hW]; simp) (by intro e; injection e with e; omega)).trans (by rw [hW]; exact heap_alloc_new wr _)
                            exact (facts2 h1).2.1)
                          have HUW := mkHid hUW
                          have HC0 := mkHid (show (wr.alloc (.cells #[.int .i64 S, .int .i64 X] 63)).cell? ⟨wr.heap.size, 1, none⟩ = some (.int .i64 X) from (facts2 (heap_alloc_new wr (.cells #[.int .i64 S, .int .i64 X] 63))).2.1)
                          have HB := mkHid hb
                          clear hI2 hdr htk hUW hu hget hb
                          go_wp2_with fail
                          go_region_held3 (fun s => s.cell? ⟨wr.heap.size, 1, none⟩ = some (.int .i64 X)) (first | exact HC0.out | assumption) (first | (go_at_call 30; refine (uByte_any g a' n' c' _ _ _ (HUW.out _ (by rfl))).mono ?_; rintro e w2 ⟨rfl, hu2, hg2⟩; rw [HTK.out] at hu2 ⊢; have hpc := HPC.out _ w2 (by rfl) hg2; have HU2 := mkHid hu2; have HG2 := mkHid hg2; clear hu2 hg2))
                          have HBN := mkHid ((HB.out.alloc HB.out.size (.cells #[.int .i64 S, .int .i64 X] 63)).drew.grown HG2.out (by have := HB.out.size; have := HG2.out.size; simp [World.drew]; omega) (fun q hq => by injection hq with hq; omega))
                          obtain ⟨a7, n7, c7, hu7⟩ := HU2.out
                          have HU7 := mkHid hu7
                          clear hu7 HU2 HG2
                          go_wp2_with fail
                          go_roundw
                          case rel => exact ⟨q + 1, a7, n7, c7, by omega, by go_num, HU7.out, HBN.out⟩
                          case measure => simp [intOf]; omega
                        · obtain rfl : q = nl := by omega
                          rw [List.drop_of_length_le (by rw [HBL.out]; exact Nat.le_refl _)] at hu
                          have HUZ := mkHid hu
                          have HBZ := mkHid hb
                          clear hu hb
                          go_wp2_with fail
                          refine (done_any g a' n' c' _ _ _ HUZ.out).mono ?_
                          rintro e w' ⟨rfl, rfl⟩
                          rw [show (if doneOf ([] : List Int) false = true then Value.nilIface else codeV 14) = .nilIface from rfl]
                          go_wp2_with fail
                          refine (awake_any _).mono ?_
                          rintro e w9 ⟨rfl, hb9⟩
                          go_wp2_with fail
                          go_ret
                          exact ⟨rfl, HBZ.out.trans (hb9.mono HBZ.out.size)⟩

end Go.Proofs.Ytncbckbcdopipaa
