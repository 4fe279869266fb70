/- portagelaw15.LocksEnds answers true. -/
import Derived.Test.YtgabjgmimebelaaLkQ
namespace Go.Proofs.Ytgabjgmimebelaa
open Go.RowKit Go.Shelf

set_option maxRecDepth 20000 in
set_option maxHeartbeats 4000000 in
theorem locksEnds_any (a : Option Addr) (n c : Nat) (ls : List (List Sp)) (ap : Option Addr) (np cp : Nat) (lp : List Int) (w : World) (hx : LS w w.heap.size a n ls) (hn : n ≤ c ∧ c * 24 ≤ 140737488351232) (hp : IS w w.heap.size ap np lp) (hnp : np ≤ cp ∧ cp * 8 ≤ 140737488351232) :
    Calls Try.prog 6 #[.slice a n c, .slice ap np cp] w fun e w' => e = .returned (.bool true) ∧ Below w.heap.size w w' := by
  obtain ⟨hn1, hn2⟩ := hn
  obtain ⟨hp1, hp2⟩ := hnp
  go_enter Try.func6, Try.ntmps6
  go_wp2_with fail
  refine (new_any w).mono ?_
  rintro e w1 ⟨rfl, ht1, hb1⟩
  have HR := mkHid (show AT w w1 (fun b => b = w.heap.size) w.heap.size none 0 0 [] [] [] 0 from ⟨⟨World.ownsRow_nil _ _ _ _, rfl, fun j e he => by simp at he, fun r hr => by cases hr⟩, ht1, fun b hb => by omega, hb1⟩)
  clear ht1 hb1
  by_cases hbig : 40 < n
  · go_wp2_with fail
    refine (awake_any _).mono ?_
    rintro e w2 ⟨rfl, hb2⟩
    go_wp2_with fail
    go_ret
    exact ⟨rfl, HR.out.bel.trans (hb2.mono HR.out.bel.size)⟩
  have HX := mkHid hx
  have HP := mkHid hp
  clear hx hp
  go_wp2_with fail
  go_loopw [34, 6] (fun i all wr => ∃ (q : Nat) (F : Nat → Prop) (A : Option Addr) (m C : Nat) (cells : List Value) (es : List En), q ≤ n ∧ i = .int .i64 q ∧ all = .slice A m C ∧ m ≤ q ∧ Hid (∀ (j : Nat) (e : En), es[j]? = some e → e.num = (j : Int) + 1) ∧ Hid (AT w wr F w.heap.size A m C cells es es m)) (fun i _ _ => n - (intOf i).toNat)
  case atStart => exact ⟨0, _, none, 0, 0, [], [], Nat.zero_le _, rfl, rfl, Nat.le_refl _, mkHid (fun j e he => by simp at he), HR⟩
  case round =>
    clear HR
    obtain ⟨q, F, A, m, C, cells, es, hq, rfl, rfl, hm, HN, HAT⟩ := hrel
    by_cases hlt : q < n
    · obtain ⟨b, o, p, s, k, xs, rfl, hb, hxq, hc0, hk, hss⟩ := HX.out.2 q hlt
      have c0 := (HAT.out.bel.cell (p := ⟨b, o + q, none⟩) hb).trans hc0
      have hsl := hss.1
      have HK := mkHid hk
      have HSS := mkHid hss
      have HXX := mkHid hss.ok
      clear hc0 hxq hk hss
      by_cases hten : 10 < s
      · go_wp2_with fail
        refine (awake_any _).mono ?_
        rintro e w2 ⟨rfl, hb2⟩
        go_wp2_with fail
        go_ret
        exact ⟨rfl, HAT.out.bel.trans (hb2.mono HAT.out.bel.size)⟩
      go_wp2_with fail
      refine (spans_any p s k xs _ (HSS.out.keep (fun b hb => HAT.out.bel.block b hb) fun b hb => Nat.lt_of_lt_of_le hb HAT.out.bel.size) (by omega)).mono ?_
      rintro e w2 ⟨SA, sc, rfl, ho2, hb2⟩
      have HA2 := mkHid (HAT.out.below hb2)
      have HO2 := mkHid ho2
      have HLO := mkHid (show ∀ b, F b → b < wr.heap.size from HAT.out.t.lt)
      rw [hsl]
      have ho2' := ho2
      rw [hsl] at ho2'
      clear ho2 hb2 HAT c0
      go_wp2_with fail
      cases hr : xs.all rightOf with
      | false =>
        refine (HA2.out.no ho2' HXX.out (by omega) hr).mono ?_
        rintro e w3 ⟨rfl, hA3⟩
        have HA3 := mkHid hA3
        clear hA3 ho2' hr HA2
        go_wp2_with fail
        go_roundw
        case rel => exact ⟨q + 1, F, A, m, C, cells, es, by omega, by go_num, rfl, by omega, HN, HA3⟩
        case measure => simp [intOf]; omega
      | true =>
        refine (HA2.out.add ho2' HLO.out HXX.out (by omega) (by omega) hr).mono ?_
        rintro e w3 ⟨rfl, F3, hA3⟩
        have HA3 := mkHid hA3
        clear hA3 ho2' hr HA2
        have HBA := mkHid ((Below.refl w3.heap.size w3).alloc (Nat.le_refl _) (.cells #[.int .i64 ((m : Int) + 1), .slice p s k] 42))
        have HRW := mkHid (own_below HA3.out.al.row HBA.out)
        go_wp2_with (at_builtin; refine wpList_app _ rfl (.tmp 51) (.tmp 55) _ rfl w.heap.size el_rent A m C cells rfl HRW.out (w3.heap.size + 1) (some ⟨w3.heap.size, 0, none⟩) 1 1 [.int .i64 ((m : Int) + 1), .slice p s k] rfl (SL.of_block (heap_alloc_new w3 _) rfl (by omega)) (fun u hu => by simp at hu; rcases hu with rfl | rfl <;> rfl) (by unfold maxLen; omega) (by omega) (by have := HA3.out.bel.size; simp; omega) ?_; intro A4 C4 w4 ho4 hg4 hat4; have HA4 := mkHid (HA3.out.snoc HBA.out HSS.out HK.out (by omega) ho4 hg4 hat4); clear ho4 hg4 hat4)
        go_roundw
        case rel => exact ⟨q + 1, F3, A4, m + 1, C4, _, _, by omega, by go_num, rfl, by omega, mkHid (fun j e he => by
          have hl := HA3.out.al.len
          by_cases hj : j < es.length
          · rw [List.getElem?_append_left hj] at he
            exact HN.out j e he
          · have hjl := (List.getElem?_eq_some_iff.1 he).1
            rw [List.length_append, List.length_singleton] at hjl
            obtain rfl : j = m := by omega
            rw [List.getElem?_append_right (by omega), hl, Nat.sub_self] at he
            obtain rfl : (⟨(j : Int) + 1, xs⟩ : En) = e := by simpa using he
            rfl), HA4⟩
        case measure => simp [intOf]; omega
    · obtain rfl : q = n := by omega
      have hup : Up es := List.pairwise_iff_getElem.2 fun i j hi hj hij => by
        rw [HN.out i _ (List.getElem?_eq_getElem hi), HN.out j _ (List.getElem?_eq_getElem hj)]
        omega
      have HE0 := mkHid (EN.start hup)
      obtain ⟨WS, rfl⟩ : ∃ WS, WS = wr := ⟨_, rfl⟩
      have hes40 : m ≤ 40 := by omega
      have HL0 := mkHid (show LT WS WS F w.heap.size es m none 0 [] from ⟨HAT.out.t, Turn.of_below (Below.refl _ _), HAT.out.t.lt, World.ownsRow_nil _ _ _ _⟩)
      have HLEN := mkHid HAT.out.al.len
      go_wp2_with fail
      go_loopw [12, 11] (fun i done w2 => ∃ (D : Option Addr) (C2 : Nat) (dl : List Int) (ts : List En), i = .int .i64 dl.length ∧ done = .slice D dl.length C2 ∧ Hid (EN es ts dl) ∧ Hid (LT WS w2 F w.heap.size ts m D C2 dl)) (fun i _ _ => m - (intOf i).toNat)
      case atStart => exact ⟨none, 0, [], es, rfl, rfl, HE0, HL0⟩
      case round =>
        clear HE0 HL0
        obtain ⟨D, C2, dl, ts, rfl, rfl, HE, HL⟩ := hrel
        have hcnt := HE.out.cnt
        have HCNT := mkHid hcnt
        go_wp2_with fail
        refine (waiting_any F _ ts m wr HL.out.t).mono ?_
        rintro e w3 ⟨A3, c3, rfl, _, hb3⟩
        rw [List.length_map]
        have HL3 := mkHid (HL.out.below hb3)
        clear hb3 HL hcnt
        rcases ts with _ | ⟨x, ts⟩
        · have hdl : dl.length = m := by have := HCNT.out; have := HLEN.out; simp at *; omega
          have HB3 := mkHid (HAT.out.bel.trans (HL3.out.turn.below (fun b hb => HAT.out.lo b hb) HAT.out.bel.size))
          have HAL := mkHid (HAT.out.al.turn HL3.out.turn fun _ hb => .inl hb)
          have HI := mkHid (show ∀ (j : Nat) (d : Int), dl[j]? = some d → I64 d from fun j d hj => by
            obtain ⟨e, he, rfl⟩ := HE.out.mem d (List.mem_of_getElem? hj)
            obtain ⟨k, hk⟩ := List.getElem?_of_mem he
            have := HN.out k e hk
            have := (List.getElem?_eq_some_iff.1 hk).1
            have := HLEN.out
            exact ⟨by omega, by omega⟩)
          have HRW := mkHid HL3.out.row
          have hcapd := own_cap HL3.out.row
          have hdlm : ((dl.length : Int) == (m : Int)) = true := by rw [hdl]; simp
          clear HL3 HCNT
          go_wp2_with fail
          go_loopw [118] (fun i wr => ∃ q : Nat, q ≤ dl.length ∧ i = .int .i64 q ∧ Hid (Below w3.heap.size w3 wr)) (fun i _ => dl.length - (intOf i).toNat)
          case atStart => exact ⟨0, Nat.zero_le _, rfl, mkHid (Below.refl _ _)⟩
          case round =>
            obtain ⟨p, hp, rfl, HB⟩ := hrel
            by_cases hlp : p < dl.length
            · obtain ⟨gD, rfl, hgD, hgD', hcD⟩ := own_ints HRW.out (by omega)
              obtain ⟨d, hd⟩ : ∃ d, dl[p]? = some d := ⟨_, List.getElem?_eq_getElem hlp⟩
              have cd := (HB.out.cell (p := ⟨gD, p, none⟩) hgD').trans (hcD p hlp)
              rw [hd] at cd
              simp only [Option.getD_some] at cd
              have HD := mkHid hd
              have HCD := mkHid hcD
              have hpC : p ≤ C2 := by omega
              have HLP := mkHid hlp
              clear hd hcD
              go_wp2_with fail
              clear hlp
              go_loopw [127] (fun i wr => ∃ l : Nat, l ≤ p ∧ i = .int .i64 l ∧ Hid (Below w3.heap.size w3 wr)) (fun i _ => p - (intOf i).toNat)
              case atStart => exact ⟨0, Nat.zero_le _, rfl, HB⟩
              case round =>
                clear cd HB
                obtain ⟨l, hl, rfl, HB⟩ := hrel
                by_cases hll : l < p
                · obtain ⟨d', hd'⟩ : ∃ d, dl[l]? = some d := ⟨_, List.getElem?_eq_getElem (Nat.lt_trans hll HLP.out)⟩
                  have cd' := (HB.out.cell (p := ⟨gD, l, none⟩) hgD').trans (HCD.out l (Nat.lt_trans hll HLP.out))
                  rw [hd'] at cd'
                  simp only [Option.getD_some] at cd'
                  have HD' := mkHid hd'
                  clear hd'
                  by_cases hdd : d < d'
                  · go_wp2_with fail
                    have HBw := mkHid (HB3.out.trans (HB.out.mono HB3.out.size))
                    refine (entry_any A m C es d wr ((HAL.out.below HB.out).list HBw.out) (by omega) (HI.out p d HD.out)).mono ?_
                    rintro e w5 ⟨p1, m1, k1, rfl, hk1, hs1, hb5⟩
                    have HB5 := mkHid (HB.out.trans (hb5.mono HB.out.size))
                    have HBw5 := mkHid (HBw.out.trans (hb5.mono HBw.out.size))
                    have HS1 := mkHid ((hs1.below hb5).more (Ok := (· < wr.heap.size)) (B := w5.heap.size) fun b hb => Nat.lt_of_lt_of_le hb hb5.size)
                    clear hs1 hb5 HB HBw cd'
                    go_wp2_with fail
                    refine (entry_any A m C es d' w5 ((HAL.out.below HB5.out).list HBw5.out) (by omega) (HI.out l d' HD'.out)).mono ?_
                    rintro e w6 ⟨p2, m2, k2, rfl, hk2, hs2, hb6⟩
                    have HB6 := mkHid (HB5.out.trans (hb6.mono HB5.out.size))
                    have HS2 := mkHid ((hs2.below hb6).more (Ok := (· < w5.heap.size)) (B := w6.heap.size) fun b hb => Nat.lt_of_lt_of_le hb hb6.size)
                    have HS3 := mkHid ((HS1.out.below hb6).more (Ok := (· < w5.heap.size)) (B := w6.heap.size) fun b hb => Nat.lt_of_lt_of_le hb hb6.size)
                    clear hs2 hb6 HB5 HS1 HBw5
                    go_wp2_with fail
                    refine (apart_any _ _ p1 p2 m1 k1 m2 k2 _ _ w6 HS3.out hk1 HS2.out hk2).mono ?_
                    rintro e w7 ⟨rfl, hb7⟩
                    have hap : (!((entOf es d).spans.any fun x => (entOf es d').spans.any fun y => clashOf x y)) = true := by
                      have := HE.out.was p l d d' hll HD.out HD'.out hdd
                      unfold enClash at this
                      rw [this]
                      rfl
                    rw [hap]
                    have HB7 := mkHid (HB6.out.trans (hb7.mono HB6.out.size))
                    clear hap hb7 HB6 HS2 HS3 hk1 hk2
                    go_wp2_with fail
                    go_roundw
                    case rel =>
                      have hpm : p < m := hdl ▸ HLP.out
                      simp only [hpm, decide_true]
                      repeat apply Exists.intro
                      refine ⟨?_, rfl⟩
                      exact ⟨l + 1, by omega, by go_num, HB7⟩
                    case measure => simp [intOf]; omega
                  · go_wp2_with fail
                    go_roundw
                    case rel => exact ⟨l + 1, by omega, by go_num, HB⟩
                    case measure => simp [intOf]; omega
                · obtain rfl : l = p := by omega
                  go_wp2_with fail
                  go_roundw
                  case rel => exact ⟨l + 1, HLP.out, by go_num, HB⟩
                  case measure => have := HLP.out; simp [intOf]; omega
            · obtain rfl : p = dl.length := by omega
              go_wp2_with fail
              refine (awake_any _).mono ?_
              rintro e w5 ⟨rfl, hb5⟩
              have HB5 := mkHid (HB3.out.trans ((HB.out.trans (hb5.mono HB.out.size)).mono HB3.out.size))
              clear hb5
              go_wp2_with fail
              go_ret
              exact ⟨rfl, HB5.out⟩
        · obtain ⟨l, hl⟩ := ready_cons HE.out.upes
          have hpos : (0 : Int) < ((x :: ts).length : Int) := by rw [List.length_cons]; omega
          have hlt2 : dl.length < m := by have := HCNT.out; have := HLEN.out; simp at *; omega
          generalize (x :: ts).length = tn at hpos
          have hg : tn > 0 := by omega
          go_wp2_with fail
          refine (ready_any F _ (x :: ts) m w3 HL3.out.t).mono ?_
          rintro e w4 ⟨A4, c4, rfl, ho4, hb4⟩
          obtain ⟨R, hR⟩ : ∃ R, readyOf (x :: ts) = R := ⟨_, rfl⟩
          have HRG := mkHid (show ∀ (k : Nat) (y : Int), R[k]? = some y → ∃ (i : Nat) (e : En), (x :: ts)[i]? = some e ∧ e.num = y ∧ placeOf (x :: ts) y = i ∧ mayOf (x :: ts) y = true from fun k y hk => ready_get HE.out.upes (hR ▸ hk))
          rw [hR] at ho4 hl ⊢
          obtain ⟨rn, hrn⟩ : ∃ rn, R.length = rn := ⟨_, rfl⟩
          have hrp : 0 < rn := by rw [← hrn, hl]; simp
          have hr0 : R[0]? = some x.num := by rw [hl]; rfl
          have hrm : rn ≤ 40 := by
            have h1 : rn ≤ (x :: ts).length := by
              rw [← hrn, ← hR]
              unfold readyOf
              exact Nat.le_trans (List.length_filter_le _ _) (by rw [List.length_map]; omega)
            have := HCNT.out
            have := HLEN.out
            omega
          rw [hrn] at ho4 ⊢
          obtain ⟨g4, rfl, hg4, hg4', hc4⟩ := own_ints ho4 hrp
          have HR4 := mkHid hc4
          have z4 := hc4 0 hrp
          rw [hr0] at z4
          simp only [Option.getD_some] at z4
          have HLR := mkHid hr0
          have HRN := mkHid hrn
          have HL3s := mkHid HL3.out.turn.size
          have HL4 := mkHid (HL3.out.below hb4)
          have hI : I64 x.num := (HL4.out.t.nums.1 _ (List.mem_map.2 ⟨x, by simp, rfl⟩))
          have HI := mkHid hI
          have HC0 := mkHid z4
          have hrz : ((rn : Int) == 0) = false := beq_eq_false_iff_ne.2 (by omega)
          have hdlz : ¬ (m : Int) < (dl.length : Int) := by omega
          have hxx : (x.num != x.num) = false := by simp
          clear ho4 hb4 hl hR hc4 hr0 hrn HL3 hI
          have HT4 := mkHid (show ∀ W : World, W.heap = w4.heap → T W F w.heap.size (x :: ts) m from fun W hW => HL4.out.t.keep (by rw [hW]; exact Nat.le_refl _) fun b _ => by rw [hW])
          go_wp2_with fail
          refine wp_region_held_drew (S := (fun s => s.cell? ⟨g4, 0, none⟩ = some (.int .i64 x.num))) (by kernel_rfl) HC0.out (fun hHeld => ?_)
          refine wpAnyH_take (i := 0) (oi := { dst := some 66, op := Op.move (Operand.tmp 13), type := 30, pos := "law.go:169", after := #[], guard := none }) (v := ?_) rfl (by kernel_rfl) (by kernel_rfl) (by kernel_rfl) (fun _ _ _ h => h) (Or.inl ⟨by rfl, ?hy0⟩) (by assumption) ?rest0
          case hy0 =>
            intro w hSw
            try dsimp only at hSw
            go_simp
            try with_reducible rfl
          try simp only [List.getElem_toArray, List.getElem_cons_zero, List.getElem_cons_succ, Act.put, List.setIfInBounds_toArray, List.set_cons_zero, List.set_cons_succ]
          refine wpAnyH_take (i := 1) (oi := { dst := some 67, op := Op.call { callee := Callee.builtin Builtin.len, args := #[Operand.tmp 66], argTypes := #[30] }, type := 3, pos := "law.go:169", after := #[{ on := 0, ground := Ground.data }], guard := none }) (v := ?_) rfl (by kernel_rfl) (by kernel_rfl) (by kernel_rfl) (fun _ _ _ h => h) (Or.inl ⟨by rfl, ?hy1⟩) (by assumption) ?rest1
          case hy1 =>
            intro w hSw
            try dsimp only at hSw
            go_simp
            try with_reducible rfl
          try simp only [List.getElem_toArray, List.getElem_cons_zero, List.getElem_cons_succ, Act.put, List.setIfInBounds_toArray, List.set_cons_zero, List.set_cons_succ]
          refine wpAnyH_take (i := 2) (oi := { dst := some 68, op := Op.binOp BinOp.eql 3 (Operand.tmp 67) (Operand.const (Value.int IntKind.i64 0)) 3, type := 4, pos := "law.go:169", after := #[{ on := 1, ground := Ground.data }], guard := none }) (v := ?_) rfl (by kernel_rfl) (by kernel_rfl) (by kernel_rfl) (fun _ _ _ h => h) (Or.inl ⟨by rfl, ?hy2⟩) (by assumption) ?rest2
          case hy2 =>
            intro w hSw
            try dsimp only at hSw
            go_simp
            try with_reducible rfl
          try simp only [List.getElem_toArray, List.getElem_cons_zero, List.getElem_cons_succ, Act.put, List.setIfInBounds_toArray, List.set_cons_zero, List.set_cons_succ]
          refine wpAnyH_take (i := 3) (oi := { dst := some 69, op := Op.move (Operand.tmp 68), type := 4, pos := "law.go:169", after := #[{ on := 2, ground := Ground.data }], guard := none }) (v := ?_) rfl (by kernel_rfl) (by kernel_rfl) (by kernel_rfl) (fun _ _ _ h => h) (Or.inl ⟨by rfl, ?hy3⟩) (by assumption) ?rest3
          case hy3 =>
            intro w hSw
            try dsimp only at hSw
            go_simp
            try with_reducible rfl
          try simp only [List.getElem_toArray, List.getElem_cons_zero, List.getElem_cons_succ, Act.put, List.setIfInBounds_toArray, List.set_cons_zero, List.set_cons_succ]
          refine wpAnyH_take (i := 4) (oi := { dst := some 70, op := Op.move (Operand.tmp 13), type := 30, pos := "law.go:169", after := #[{ on := 3, ground := Ground.guard }], guard := some (3, false) }) (v := ?_) rfl (by kernel_rfl) (by kernel_rfl) (by kernel_rfl) (fun _ _ _ h => h) (Or.inl ⟨by rfl, ?hy4⟩) (by assumption) ?rest4
          case hy4 =>
            intro w hSw
            try dsimp only at hSw
            go_simp
            try with_reducible rfl
          try simp only [List.getElem_toArray, List.getElem_cons_zero, List.getElem_cons_succ, Act.put, List.setIfInBounds_toArray, List.set_cons_zero, List.set_cons_succ]
          refine wpAnyH_take (i := 5) (oi := { dst := some 71, op := Op.indexAddr 30 (Operand.tmp 70) (Operand.const (Value.int IntKind.i64 0)), type := 0, pos := "law.go:169", after := #[{ on := 4, ground := Ground.data }, { on := 3, ground := Ground.guard }], guard := some (3, false) }) (v := ?_) rfl (by kernel_rfl) (by kernel_rfl) (by kernel_rfl) (fun _ _ _ h => h) (Or.inl ⟨by rfl, ?hy5⟩) (by assumption) ?rest5
          case hy5 =>
            intro w hSw
            try dsimp only at hSw
            go_simp
            try with_reducible rfl
          try simp only [List.getElem_toArray, List.getElem_cons_zero, List.getElem_cons_succ, Act.put, List.setIfInBounds_toArray, List.set_cons_zero, List.set_cons_succ]
          refine wpAnyH_take (i := 6) (oi := { dst := some 72, op := Op.load 3 (Operand.tmp 71), type := 3, pos := "law.go:169", after := #[{ on := 5, ground := Ground.data }, { on := 3, ground := Ground.guard }], guard := some (3, false) }) (v := ?_) rfl (by kernel_rfl) (by kernel_rfl) (by kernel_rfl) (fun _ _ _ h => h) (Or.inl ⟨by rfl, ?hy6⟩) (by assumption) ?rest6
          case hy6 =>
            intro w hSw
            try dsimp only at hSw
            go_simp
            try with_reducible rfl
          try simp only [List.getElem_toArray, List.getElem_cons_zero, List.getElem_cons_succ, Act.put, List.setIfInBounds_toArray, List.set_cons_zero, List.set_cons_succ]
          refine wpAnyH_take (i := 7) (oi := { dst := some 73, op := Op.move (Operand.tmp 5), type := 31, pos := "law.go:169", after := #[{ on := 3, ground := Ground.guard }], guard := some (3, false) }) (v := ?_) rfl (by kernel_rfl) (by kernel_rfl) (by kernel_rfl) (fun _ _ _ h => h) (Or.inl ⟨by rfl, ?hy7⟩) (by assumption) ?rest7
          case hy7 =>
            intro w hSw
            try dsimp only at hSw
            go_simp
            try with_reducible rfl
          try simp only [List.getElem_toArray, List.getElem_cons_zero, List.getElem_cons_succ, Act.put, List.setIfInBounds_toArray, List.set_cons_zero, List.set_cons_succ]
          refine wpAnyH_ready (rs := [8]) (by kernel_rfl) (by simp) ?_
          refine AllReadyH.cons (o := { dst := some 74, op := Op.call { callee := Callee.value (Operand.func 16), args := #[Operand.tmp 73], argTypes := #[31] }, type := 30, pos := "law.go:169", after := #[{ on := 7, ground := Ground.data }, { on := 3, ground := Ground.chain }, { on := 3, ground := Ground.guard }], guard := some (3, false) }) rfl (fun K hK => ?_) AllReadyH.nil
          (go_simp; go_at_call 16; refine (waiting_any F _ (x :: ts) m _ (HT4.out _ (by rfl))).mono ?_; rintro e w5 ⟨A5, c5, rfl, ho5, hb5⟩; have hwp : 0 < ((x :: ts).map En.num).length := (by simp); have hw0 : ((x :: ts).map En.num)[0]? = some x.num := rfl; generalize hwl : ((x :: ts).map En.num) = WL at ho5 hwp hw0 ⊢; generalize hwn : WL.length = wn at ho5 hwp ⊢; obtain ⟨g5, rfl, hg5, hg5', hc5⟩ := own_ints ho5 hwp; have z5 := hc5 0 hwp; rw [hw0] at z5; simp only [Option.getD_some] at z5; have hpc : w5.cell? ⟨g4, 0, none⟩ = some (.int .i64 x.num) := (World.cell?_of_block (w := w4) (a := ⟨g4, 0, none⟩) (hb5.block g4 hg4')).trans HC0.out; have HB5 := mkHid (show Below w4.heap.size w4 w5 from Below.mk hb5.os hb5.tape hb5.output hb5.size hb5.block); clear ho5 hc5 hb5 hw0 hwl hwn; go_wp2_with fail)
          clear hHeld
          refine hK.out _ _ (hpc) (fun hHeld => ?_)
          clear hK K
          try simp only [List.getElem_toArray, List.getElem_cons_zero, List.getElem_cons_succ, Act.put, List.setIfInBounds_toArray, List.set_cons_zero, List.set_cons_succ]
          refine wpAnyH_take (i := 9) (oi := { dst := some 75, op := Op.indexAddr 30 (Operand.tmp 74) (Operand.const (Value.int IntKind.i64 0)), type := 0, pos := "law.go:169", after := #[{ on := 8, ground := Ground.data }, { on := 3, ground := Ground.guard }], guard := some (3, false) }) (v := ?_) rfl (by kernel_rfl) (by kernel_rfl) (by kernel_rfl) (fun _ _ _ h => h) (Or.inl ⟨by rfl, ?hy9⟩) (by assumption) ?rest9
          case hy9 =>
            intro w hSw
            try dsimp only at hSw
            go_simp
            try with_reducible rfl
          try simp only [List.getElem_toArray, List.getElem_cons_zero, List.getElem_cons_succ, Act.put, List.setIfInBounds_toArray, List.set_cons_zero, List.set_cons_succ]
          refine wpAnyH_ready (rs := [10]) (by kernel_rfl) (by simp) ?_
          refine AllReadyH.cons (o := { dst := some 76, op := Op.load 3 (Operand.tmp 75), type := 3, pos := "law.go:169", after := #[{ on := 9, ground := Ground.data }, { on := 3, ground := Ground.guard }], guard := some (3, false) }) rfl (fun K hK => ?_) AllReadyH.nil
          go_simp
          clear hHeld
          refine hK.out _ _ (hpc) (fun hHeld => ?_)
          clear hK K
          try simp only [List.getElem_toArray, List.getElem_cons_zero, List.getElem_cons_succ, Act.put, List.setIfInBounds_toArray, List.set_cons_zero, List.set_cons_succ]
          refine wpAnyH_take (i := 11) (oi := { dst := some 77, op := Op.binOp BinOp.neq 3 (Operand.tmp 72) (Operand.tmp 76) 3, type := 4, pos := "law.go:169", after := #[{ on := 6, ground := Ground.data }, { on := 10, ground := Ground.data }, { on := 3, ground := Ground.guard }], guard := some (3, false) }) (v := ?_) rfl (by kernel_rfl) (by kernel_rfl) (by kernel_rfl) (fun _ _ _ h => h) (Or.inl ⟨by rfl, ?hy11⟩) (by assumption) ?rest11
          case hy11 =>
            intro w hSw
            try dsimp only at hSw
            go_simp
            try with_reducible rfl
          try simp only [List.getElem_toArray, List.getElem_cons_zero, List.getElem_cons_succ, Act.put, List.setIfInBounds_toArray, List.set_cons_zero, List.set_cons_succ]
          refine wpAnyH_take (i := 12) (oi := { dst := some 78, op := Op.pick (Operand.tmp 69) (Operand.const (Value.bool true)) (Operand.tmp 77), type := 4, pos := "law.go:169", after := #[{ on := 3, ground := Ground.data }, { on := 11, ground := Ground.data }], guard := none }) (v := ?_) rfl (by kernel_rfl) (by kernel_rfl) (by kernel_rfl) (fun _ _ _ h => h) (Or.inl ⟨by rfl, ?hy12⟩) (by assumption) ?rest12
          case hy12 =>
            intro w hSw
            try dsimp only at hSw
            go_simp
            try with_reducible rfl
          try simp only [List.getElem_toArray, List.getElem_cons_zero, List.getElem_cons_succ, Act.put, List.setIfInBounds_toArray, List.set_cons_zero, List.set_cons_succ]
          refine wpAnyH_take (i := 13) (oi := { dst := some 79, op := Op.move (Operand.tmp 78), type := 4, pos := "law.go:169", after := #[{ on := 12, ground := Ground.data }, { on := 8, ground := Ground.chain }], guard := none }) (v := ?_) rfl (by kernel_rfl) (by kernel_rfl) (by kernel_rfl) (fun _ _ _ h => h) (Or.inl ⟨by rfl, ?hy13⟩) (by assumption) ?rest13
          case hy13 =>
            intro w hSw
            try dsimp only at hSw
            go_simp
            try with_reducible rfl
          try simp only [List.getElem_toArray, List.getElem_cons_zero, List.getElem_cons_succ, Act.put, List.setIfInBounds_toArray, List.set_cons_zero, List.set_cons_succ]
          refine wpAnyH_take (i := 14) (oi := { dst := some 80, op := Op.move (Operand.tmp 12), type := 3, pos := "law.go:169", after := #[{ on := 13, ground := Ground.guard }], guard := some (13, false) }) (v := ?_) rfl (by kernel_rfl) (by kernel_rfl) (by kernel_rfl) (fun _ _ _ h => h) (Or.inl ⟨by rfl, ?hy14⟩) (by assumption) ?rest14
          case hy14 =>
            intro w hSw
            try dsimp only at hSw
            go_simp
            try with_reducible rfl
          try simp only [List.getElem_toArray, List.getElem_cons_zero, List.getElem_cons_succ, Act.put, List.setIfInBounds_toArray, List.set_cons_zero, List.set_cons_succ]
          refine wpAnyH_take (i := 15) (oi := { dst := some 81, op := Op.move (Operand.tmp 6), type := 33, pos := "law.go:169", after := #[{ on := 13, ground := Ground.guard }], guard := some (13, false) }) (v := ?_) rfl (by kernel_rfl) (by kernel_rfl) (by kernel_rfl) (fun _ _ _ h => h) (Or.inl ⟨by rfl, ?hy15⟩) (by assumption) ?rest15
          case hy15 =>
            intro w hSw
            try dsimp only at hSw
            go_simp
            try with_reducible rfl
          try simp only [List.getElem_toArray, List.getElem_cons_zero, List.getElem_cons_succ, Act.put, List.setIfInBounds_toArray, List.set_cons_zero, List.set_cons_succ]
          refine wpAnyH_take (i := 16) (oi := { dst := some 82, op := Op.call { callee := Callee.builtin Builtin.len, args := #[Operand.tmp 81], argTypes := #[33] }, type := 3, pos := "law.go:169", after := #[{ on := 15, ground := Ground.data }, { on := 13, ground := Ground.guard }], guard := some (13, false) }) (v := ?_) rfl (by kernel_rfl) (by kernel_rfl) (by kernel_rfl) (fun _ _ _ h => h) (Or.inl ⟨by rfl, ?hy16⟩) (by assumption) ?rest16
          case hy16 =>
            intro w hSw
            try dsimp only at hSw
            go_simp
            try with_reducible rfl
          try simp only [List.getElem_toArray, List.getElem_cons_zero, List.getElem_cons_succ, Act.put, List.setIfInBounds_toArray, List.set_cons_zero, List.set_cons_succ]
          refine wpAnyH_take (i := 17) (oi := { dst := some 83, op := Op.binOp BinOp.gtr 3 (Operand.tmp 80) (Operand.tmp 82) 3, type := 4, pos := "law.go:169", after := #[{ on := 14, ground := Ground.data }, { on := 16, ground := Ground.data }, { on := 13, ground := Ground.guard }], guard := some (13, false) }) (v := ?_) rfl (by kernel_rfl) (by kernel_rfl) (by kernel_rfl) (fun _ _ _ h => h) (Or.inl ⟨by rfl, ?hy17⟩) (by assumption) ?rest17
          case hy17 =>
            intro w hSw
            try dsimp only at hSw
            go_simp
            try with_reducible rfl
          try simp only [List.getElem_toArray, List.getElem_cons_zero, List.getElem_cons_succ, Act.put, List.setIfInBounds_toArray, List.set_cons_zero, List.set_cons_succ]
          refine wpAnyH_take (i := 18) (oi := { dst := some 84, op := Op.pick (Operand.tmp 79) (Operand.const (Value.bool true)) (Operand.tmp 83), type := 4, pos := "law.go:169", after := #[{ on := 13, ground := Ground.data }, { on := 17, ground := Ground.data }], guard := none }) (v := ?_) rfl (by kernel_rfl) (by kernel_rfl) (by kernel_rfl) (fun _ _ _ h => h) (Or.inl ⟨by rfl, ?hy18⟩) (by assumption) ?rest18
          case hy18 =>
            intro w hSw
            try dsimp only at hSw
            go_simp
            try with_reducible rfl
          try simp only [List.getElem_toArray, List.getElem_cons_zero, List.getElem_cons_succ, Act.put, List.setIfInBounds_toArray, List.set_cons_zero, List.set_cons_succ]
          refine wpAnyH_done (by kernel_rfl) ?_ _
          have HL5 := mkHid (HL4.out.below HB5.out)
          have HBW := mkHid (HAT.out.bel.trans (HL5.out.turn.below (fun b hb => HAT.out.lo b hb) HAT.out.bel.size))
          have HR5 := mkHid (show ∀ j, j < rn → w5.cell? ⟨g4, j, none⟩ = some (.int .i64 (R[j]?.getD 0)) from fun j hj => (World.cell?_of_block (w := w4) (a := ⟨g4, j, none⟩) (HB5.out.block g4 hg4')).trans (HR4.out j hj))
          clear hHeld z5 hpc z4 HR4 HC0 HT4 HL4 hxx hrz
          have hrn0 : ¬ (rn : Int) = 0 := by omega
          have hrz0 : (0 : Int) < (rn : Int) := by omega
          have hg45 : g4 < w5.heap.size := Nat.lt_of_lt_of_le hg4' HB5.out.size
          have HW3 := mkHid (show WS.heap.size ≤ g4 from Nat.le_trans HL3s.out hg4)
          by_cases hlp : dl.length < np
          · obtain ⟨bp, op, rfl, hbp, hcp, hIp⟩ := HP.out.at_ hlp
            have cp0 := (HBW.out.cell (p := ⟨bp, op + dl.length, none⟩) hbp).trans hcp
            generalize lp[dl.length]?.getD 0 = pk at hIp cp0
            obtain ⟨kk, hkk, hkl⟩ : ∃ kk : Nat, (wrap64 (pk.tmod (rn : Int) + (rn : Int))).tmod (rn : Int) = (kk : Int) ∧ kk < rn := by
              have h1 := Int.tmod_lt_of_pos pk hrz0
              have h2 := Int.lt_tmod_of_pos pk hrz0
              have h3 : wrap64 (pk.tmod (rn : Int) + (rn : Int)) = pk.tmod (rn : Int) + (rn : Int) := by unfold wrap64; omega
              rw [h3]
              have h4 := Int.tmod_lt_of_pos (pk.tmod (rn : Int) + (rn : Int)) hrz0
              have h5 := Int.tmod_nonneg (rn : Int) (show 0 ≤ pk.tmod (rn : Int) + (rn : Int) by omega)
              exact ⟨((pk.tmod (rn : Int) + (rn : Int)).tmod (rn : Int)).toNat, by omega, by omega⟩
            have hkl' : (kk : Int) < (rn : Int) := by omega
            obtain ⟨y, hy⟩ : ∃ y, R[kk]? = some y := ⟨_, List.getElem?_eq_getElem (by rw [HRN.out]; exact hkl)⟩
            have HY := mkHid hy
            have cy := HR5.out kk hkl
            rw [hy] at cy
            simp only [Option.getD_some] at cy
            clear hcp hy
            go_wp2_with fail
            obtain ⟨i, e, hi, rfl, hpl, hmy⟩ := HRG.out kk y HY.out
            have HI' := mkHid hi
            have HM := mkHid hmy
            refine (HL5.out.done e.num (HL5.out.t.nums.1 _ (List.mem_map.2 ⟨e, List.mem_of_getElem? hi, rfl⟩)) (List.getElem?_eq_some_iff.1 hi).1 hpl hmy).mono ?_
            rintro _ w6 ⟨rfl, ht6, hL6⟩
            have hws := HL5.out.turn.size
            have c6 : w6.cell? ⟨g4, kk, none⟩ = some (.int .i64 e.num) := (World.cell?_of_block (w := w5) (a := ⟨g4, kk, none⟩) (ht6.block g4 hg45 fun hf => by have := HL5.out.lo g4 hf; have := HW3.out; omega)).trans cy
            have HL6 := mkHid hL6
            have hs6 := hL6.turn.size
            have HB6 := mkHid ((Below.refl w6.heap.size w6).alloc (Nat.le_refl _) (.cells #[.int .i64 e.num] 3))
            have HRW := mkHid (own_below hL6.row HB6.out)
            clear hi hpl hmy ht6 hL6 cy
            go_wp2_with (at_builtin; refine wpList_app _ rfl (.tmp 109) (.tmp 114) _ rfl WS.heap.size el_int D dl.length C2 (dl.map i64v) rfl HRW.out (w6.heap.size + 1) (some ⟨w6.heap.size, 0, none⟩) 1 1 [i64v e.num] rfl (SL.of_block (heap_alloc_new w6 _) rfl (by omega)) (fun u hu => by obtain rfl := List.mem_singleton.1 hu; rfl) (by unfold maxLen; omega) (by omega) (by simp; omega) ?_; intro D7 C7 w7 ho7 hg7 hat7; have HL7 := mkHid (HL6.out.snoc HB6.out ho7 hg7); clear ho7 hg7 hat7)
            go_roundw
            case rel => exact ⟨D7, C7, dl ++ [e.num], (x :: ts).eraseIdx i, by simp, by simp, mkHid (HE.out.step HI'.out HM.out), HL7⟩
            case measure => simp [intOf]; omega
          · obtain ⟨y, HY, cy⟩ : ∃ y, Hid (R[0]? = some y) ∧ w5.cell? ⟨g4, 0, none⟩ = some (.int .i64 y) := ⟨x.num, HLR, by have := HR5.out 0 hrp; rw [HLR.out] at this; exact this⟩
            go_wp2_with fail
            obtain ⟨i, e, hi, rfl, hpl, hmy⟩ := HRG.out 0 y HY.out
            have HI' := mkHid hi
            have HM := mkHid hmy
            refine (HL5.out.done e.num (HL5.out.t.nums.1 _ (List.mem_map.2 ⟨e, List.mem_of_getElem? hi, rfl⟩)) (List.getElem?_eq_some_iff.1 hi).1 hpl hmy).mono ?_
            rintro _ w6 ⟨rfl, ht6, hL6⟩
            have hws := HL5.out.turn.size
            have c6 : w6.cell? ⟨g4, 0, none⟩ = some (.int .i64 e.num) := (World.cell?_of_block (w := w5) (a := ⟨g4, 0, none⟩) (ht6.block g4 hg45 fun hf => by have := HL5.out.lo g4 hf; have := HW3.out; omega)).trans cy
            have HL6 := mkHid hL6
            have hs6 := hL6.turn.size
            have HB6 := mkHid ((Below.refl w6.heap.size w6).alloc (Nat.le_refl _) (.cells #[.int .i64 e.num] 3))
            have HRW := mkHid (own_below hL6.row HB6.out)
            clear hi hpl hmy ht6 hL6 cy
            go_wp2_with (at_builtin; refine wpList_app _ rfl (.tmp 109) (.tmp 114) _ rfl WS.heap.size el_int D dl.length C2 (dl.map i64v) rfl HRW.out (w6.heap.size + 1) (some ⟨w6.heap.size, 0, none⟩) 1 1 [i64v e.num] rfl (SL.of_block (heap_alloc_new w6 _) rfl (by omega)) (fun u hu => by obtain rfl := List.mem_singleton.1 hu; rfl) (by unfold maxLen; omega) (by omega) (by simp; omega) ?_; intro D7 C7 w7 ho7 hg7 hat7; have HL7 := mkHid (HL6.out.snoc HB6.out ho7 hg7); clear ho7 hg7 hat7)
            go_roundw
            case rel => exact ⟨D7, C7, dl ++ [e.num], (x :: ts).eraseIdx i, by simp, by simp, mkHid (HE.out.step HI'.out HM.out), HL7⟩
            case measure => simp [intOf]; omega
end Go.Proofs.Ytgabjgmimebelaa
