/- FramePuts: the walk of the law. -/
import Derived.Test.YtncbckbcdopipaaRefGet
import Derived.Test.YtncbckbcdopipaaAwake02
import Derived.Test.YtncbckbcdopipaaErrIs
namespace Go.Proofs.Ytncbckbcdopipaa
open Go.RowKit

/-- An error by its number (0: none). -/
def errV (g : Int) : Value := if g = 0 then .nilIface else codeV g
theorem errV_0 : errV 0 = .nilIface := rfl
theorem errV_code {g : Int} (h : g ≠ 0) : errV g = codeV g := if_neg h

theorem is_same (g : Int) (w : World) : Calls Try.prog 21 #[errV g, .int .i64 g] w fun e w' => e = .returned (.bool true) ∧ w = w' := by
  by_cases h : g = 0
  · subst h
    exact is_nil 0 w
  · rw [errV_code h]
    refine (is_code g g w).mono ?_
    rintro e w' ⟨rfl, rfl⟩
    exact ⟨by simp [h], rfl⟩

theorem get_any (k : Int) (a : Option Addr) (n c : Nat) (l : List Int) (w : World) (hx : BS w w.heap.size a n l) (hn : CapOk n c) :
    Calls Try.prog 24 #[.int .u8 k, .slice a n c] w fun e w' => ∃ A n' c', e = .returned (.tuple #[.slice A n' c', errV (getOf k l).1]) ∧ w'.ownsRow w.heap.size 5 1 (.slice A n' c') n' ((getOf k l).2.map u8) ∧ Below w.heap.size w w' := by
  by_cases h : (getOf k l).1 = 0
  · refine (get_ok k a n c l w hx hn h).mono ?_
    rintro e w' ⟨A, n', c', rfl, h1, h2⟩
    exact ⟨A, n', c', by rw [h]; rfl, h1, h2⟩
  · refine (get_err k a n c l w hx hn h).mono ?_
    rintro e w' ⟨rfl, h2⟩
    refine ⟨none, 0, 0, by rw [errV_code h], ?_, h2⟩
    have h3 : (getOf k l).2 = [] := by
      have h0 := h
      unfold getOf at h0 ⊢
      split
      · rfl
      · rename_i g1
        rw [if_neg g1] at h0
        split
        · rfl
        · rename_i g2
          rw [if_neg g2] at h0
          split
          · rfl
          · rename_i g3
            rw [if_neg g3] at h0
            cases hb : bodyOf l with
            | none => rfl
            | some p => rw [hb] at h0; exact absurd rfl h0
    rw [h3]
    exact World.ownsRow_nil _ _ _ _

set_option maxRecDepth 20000 in
set_option maxHeartbeats 400000 in
theorem put_long (k : Int) (a : Option Addr) (n c : Nat) (w : World) (hn : 122 < n) (hn2 : n ≤ 140737488355328) :
    Calls Try.prog 22 #[.int .u8 k, .slice a n c] w fun e w' => e = .returned (.tuple #[.slice none 0 0, codeV 10]) ∧ w = w' := by
  go_enter Try.func22, Try.ntmps22
  go_wp2_with fail
  go_ret2
  exact ⟨rfl, rfl⟩

theorem getOf_ok (k : Int) {l : List Int} (h : okBytes l) : okBytes (getOf k l).2 := by
  unfold getOf
  split
  · exact fun x hx => by cases hx
  · split
    · exact fun x hx => by cases hx
    · split
      · exact fun x hx => by cases hx
      · cases hb : bodyOf l with
        | none => exact fun x hx => by cases hx
        | some p =>
          unfold bodyOf at hb
          split at hb
          · cases hb
          · injection hb with hb
            subst hb
            exact (h.take _).drop _

set_option maxRecDepth 20000 in
set_option maxHeartbeats 2000000 in
theorem puts_any (k kw : Int) (a : Option Addr) (n c : Nat) (l : List Int) (as_ : Option Addr) (ns cs : Nat) (s : List Int) (w : World) (hk : 0 ≤ k ∧ k < 256) (hkw : 0 ≤ kw ∧ kw < 256) (hx : BS w w.heap.size a n l) (hn : n ≤ c ∧ c ≤ 140737488351232)
    (hy : BS w w.heap.size as_ ns s) (hns : ns ≤ cs ∧ cs ≤ 140737488351232) :
    Calls Try.prog 6 #[.agg #[.int .u8 k, .slice a n c, .slice as_ ns cs, .int .u8 kw]] w fun e w' => e = .returned (.bool true) ∧ Below w.heap.size w w' := by
  obtain ⟨hn1, hn2⟩ := hn
  obtain ⟨hns1, hns2⟩ := hns
  by_cases hbig : 10000 < n
  · go_enter Try.func6, Try.ntmps6
    go_wp2_with fail
    go_quiet (fail)
    go_wp2_with (go_at_call 11; refine (awake_any _).mono ?_; rintro e w1 ⟨rfl, hb1⟩)
    go_ret
    exact ⟨rfl, (below_drewN ((Below.refl _ _).alloc (Nat.le_refl _) _) _).trans (hb1.mono (by simp))⟩
  by_cases hbig2 : 10000 < ns
  · go_enter Try.func6, Try.ntmps6
    go_wp2_with fail
    go_quiet (fail)
    go_wp2_with (go_at_call 11; refine (awake_any _).mono ?_; rintro e w1 ⟨rfl, hb1⟩)
    go_ret
    exact ⟨rfl, (below_drewN ((Below.refl _ _).alloc (Nat.le_refl _) _) _).trans (hb1.mono (by simp))⟩
  have hcaps : CapOk ns cs := ⟨hns1, by unfold maxLen; omega, by omega⟩
  have HLL := mkHid hx.len
  have HLS := mkHid hy.len
  go_enter Try.func6, Try.ntmps6
  go_wp2_with fail
  go_quiet (fail)
  generalize hW0 : World.drewN _ _ = W0
  have hb0 : Below w.heap.size w W0 := by rw [← hW0]; exact below_drewN ((Below.refl _ _).alloc (Nat.le_refl _) _) _
  clear hW0
  have hs0 := hb0.size
  have hx0 := (hx.below hb0).more hs0
  go_wp2_with fail
  refine (copy_any a n c l W0 hx0 (by omega)).mono ?_
  rintro e u ⟨Ab, nb_, cb, rfl, hob, hbu⟩
  have hnb : nb_ = n := by have h1 := hob.1; have h2 := HLL.out; simp at h1; omega
  subst hnb
  have hsu := hbu.size
  have hlu : BS u u.heap.size Ab nb_ l := ⟨SL.of_own hob, hx.2⟩
  have hxu := (hx0.below hbu).more hsu
  have hbU := hb0.trans (hbu.mono hs0)
  clear hob hx0 hb0 hbu hs0 hsu
  go_wp2_with fail
  by_cases hlong : 122 < nb_
  · refine (put_long k Ab nb_ cb u hlong (by omega)).mono ?_
    rintro e w' ⟨rfl, rfl⟩
    go_upto_region 10 with (go_at_call 21; refine (is_code 10 10 _).mono ?_; rintro e w' ⟨rfl, rfl⟩; rw [show ((10 : Int) != 0 && (10 : Int) == 10) = true from rfl])
    obtain ⟨wt, hwt⟩ : ∃ wt, u = wt := ⟨_, rfl⟩
    rw [hwt] at hbU ⊢
    have hbT := hbU
    clear hwt hbU hlu hxu
    have hsT := hbT.size
    have hyT := (hy.below hbT).more hsT
    go_wp2_with fail
    refine (copy_any as_ ns cs s wt hyT (by omega)).mono ?_
    rintro e w1 ⟨Ai, ni, ci, rfl, hoi, hb1⟩
    have hni : ni = ns := by have h1 := hoi.1; have h2 := HLS.out; simp at h1; omega
    subst hni
    have hs1 := hb1.size
    have hi1 : BS w1 w1.heap.size Ai ni s := ⟨SL.of_own hoi, hy.2⟩
    have hcapi : CapOk ni ci := ⟨(own_cap hoi).1, (own_cap hoi).2, by omega⟩
    have hy1 := (hyT.below hb1).more hs1
    have hbW1 := hbT.trans (hb1.mono hsT)
    clear hoi hyT hb1 hbT hsT
    go_wp2_with fail
    refine (get_any kw Ai ni ci s w1 hi1 hcapi).mono ?_
    rintro e w2 ⟨Ap, np, cp, rfl, hop, hb2⟩
    have hs2 := hb2.size
    have hp2 : BS w2 w2.heap.size Ap np (getOf kw s).2 := ⟨SL.of_own hop, getOf_ok kw hy.2⟩
    have hy2 := (hy1.below hb2).more hs2
    have hi2 := (hi1.below hb2).more hs2
    have hbW2 := hbW1.trans (hb2.mono hbW1.size)
    clear hop hy1 hi1 hb2 hbW1 hs1 hs2
    go_wp2_with fail
    refine (rget_any kw as_ ni cs s w2 hy2 hcaps).mono ?_
    rintro e w3 ⟨Aq, nq, cq, rfl, hoq, hb3⟩
    have hs3 := hb3.size
    have hq3 : BS w3 w3.heap.size Aq nq (getOf kw s).2 := ⟨SL.of_own hoq, getOf_ok kw hy.2⟩
    have hy3 := (hy2.below hb3).more hs3
    have hi3 := (hi2.below hb3).more hs3
    have hp3 := (hp2.below hb3).more hs3
    have hbW3 := hbW2.trans (hb3.mono hbW2.size)
    clear hoq hy2 hi2 hp2 hb3 hbW2 hs3
    go_wp2_with fail
    have HKN := mkHid (kind_any Ai ni ci s w3 hi3 hcapi)
    by_cases h128 : ni = 128
    · have hls : s.length = 128 := by rw [HLS.out]; exact h128
      have hne : ((ni : Int) == 128) = true := by simp [h128]
      obtain ⟨b, o, rfl, hbl, hc0, hy0', hy1'⟩ := hy.at_ (j := 0) (by omega)
      rw [Nat.add_zero] at hc0
      have HLS2 := mkHid hls
      have hni0 : 0 < ni := by omega
      clear h128
      by_cases hz : (getOf (s[0]?.getD 0) s).1 = 0
      · have hk : kindOf s = (s[0]?.getD 0, true) := by unfold kindOf; rw [if_pos hz]
        rw [hk] at HKN
        have HZ := mkHid hz
        clear hk hz hls
        refine HKN.out.mono ?_
        rintro e w4 ⟨rfl, hb4⟩
        have hs4 := hb4.size
        have hp4 := (hp3.below hb4).more hs4
        have hq4 := (hq3.below hb4).more hs4
        have hi4 := (hi3.below hb4).more hs4
        have hy4 := (hy3.below hb4).more hs4
        have hbW4 := hbW3.trans (hb4.mono hbW3.size)
        have hc4 : w4.cell? ⟨b, o, none⟩ = some (.int .u8 (s[0]?.getD 0)) := (hbW4.cell (p := ⟨b, o, none⟩) hbl).trans hc0
        clear hp3 hq3 hi3 hy3 hbW3 hb4 HKN hc0
        go_wp2_with fail
        refine (rget_any (s[0]?.getD 0) _ ni cs s w4 hy4 hcaps).mono ?_
        rintro e w5 ⟨Ah, nh, ch, rfl, hoh, hb5⟩
        have hbW5 := hbW4.trans (hb5.mono hbW4.size)
        have hc5 : w5.cell? ⟨b, o, none⟩ = some (.int .u8 (s[0]?.getD 0)) := (hb5.cell (p := ⟨b, o, none⟩) (by show b < _; have := hbW4.size; omega)).trans hc4
        have HP := mkHid (hp4.below hb5)
        have HQ := mkHid (hq4.below hb5)
        have HI := mkHid (hi4.below hb5)
        have HY := mkHid (hy4.below hb5)
        have HB := mkHid hbW5
        clear hp4 hq4 hi4 hy4 hbW4 hbW5 hb5 hoh hc4 hs4
        rw [HZ.out]
        go_wp2_with fail
        refine (is_same (getOf kw s).1 _).mono ?_
        rintro e w' ⟨rfl, rfl⟩
        go_wp2_with fail
        refine (same_any Ap Aq np nq cp cq _ _ _ _ _ HP.out HQ.out).mono ?_
        rintro e w' ⟨rfl, rfl⟩
        rw [decide_eq_true rfl]
        go_wp2_with fail
        refine (same_any Ai _ ni ni ci cs _ _ _ _ _ HI.out HY.out).mono ?_
        rintro e w' ⟨rfl, rfl⟩
        rw [decide_eq_true rfl]
        go_wp2_with (go_at_call 11; refine (awake_any _).mono ?_; rintro e w9 ⟨rfl, hb9⟩)
        go_ret
        exact ⟨rfl, HB.out.trans (hb9.mono HB.out.size)⟩
      · have hk : kindOf s = (0, false) := by unfold kindOf; rw [if_neg hz]
        rw [hk] at HKN
        have hzb : ((getOf (s[0]?.getD 0) s).1 == 0) = false := by simp [hz]
        clear hk hz hls
        refine HKN.out.mono ?_
        rintro e w4 ⟨rfl, hb4⟩
        have hs4 := hb4.size
        have hp4 := (hp3.below hb4).more hs4
        have hq4 := (hq3.below hb4).more hs4
        have hi4 := (hi3.below hb4).more hs4
        have hy4 := (hy3.below hb4).more hs4
        have hbW4 := hbW3.trans (hb4.mono hbW3.size)
        have hc4 : w4.cell? ⟨b, o, none⟩ = some (.int .u8 (s[0]?.getD 0)) := (hbW4.cell (p := ⟨b, o, none⟩) hbl).trans hc0
        clear hp3 hq3 hi3 hy3 hbW3 hb4 HKN hc0
        go_wp2_with fail
        refine (rget_any (s[0]?.getD 0) _ ni cs s w4 hy4 hcaps).mono ?_
        rintro e w5 ⟨Ah, nh, ch, rfl, hoh, hb5⟩
        have hbW5 := hbW4.trans (hb5.mono hbW4.size)
        have hc5 : w5.cell? ⟨b, o, none⟩ = some (.int .u8 (s[0]?.getD 0)) := (hb5.cell (p := ⟨b, o, none⟩) (by show b < _; have := hbW4.size; omega)).trans hc4
        have HP := mkHid (hp4.below hb5)
        have HQ := mkHid (hq4.below hb5)
        have HI := mkHid (hi4.below hb5)
        have HY := mkHid (hy4.below hb5)
        have HB := mkHid hbW5
        clear hp4 hq4 hi4 hy4 hbW4 hbW5 hb5 hoh hc4 hs4
        go_wp2_with fail
        refine (is_same (getOf kw s).1 _).mono ?_
        rintro e w' ⟨rfl, rfl⟩
        go_wp2_with fail
        refine (same_any Ap Aq np nq cp cq _ _ _ _ _ HP.out HQ.out).mono ?_
        rintro e w' ⟨rfl, rfl⟩
        rw [decide_eq_true rfl]
        go_wp2_with fail
        refine (same_any Ai _ ni ni ci cs _ _ _ _ _ HI.out HY.out).mono ?_
        rintro e w' ⟨rfl, rfl⟩
        rw [decide_eq_true rfl]
        go_wp2_with (go_at_call 11; refine (awake_any _).mono ?_; rintro e w9 ⟨rfl, hb9⟩)
        go_ret
        exact ⟨rfl, HB.out.trans (hb9.mono HB.out.size)⟩
    · have hk : kindOf s = (0, false) := by unfold kindOf; rw [getOf_size (by rw [HLS.out]; exact h128)]; rfl
      rw [hk] at HKN
      have hne : ((ni : Int) == 128) = false := by simp [h128]; omega
      clear hk h128
      refine HKN.out.mono ?_
      rintro e w4 ⟨rfl, hb4⟩
      have hs4 := hb4.size
      have HP := mkHid (hp3.below hb4)
      have HQ := mkHid (hq3.below hb4)
      have HI := mkHid (hi3.below hb4)
      have HY := mkHid (hy3.below hb4)
      have HB := mkHid (hbW3.trans (hb4.mono hbW3.size))
      clear hp3 hq3 hi3 hy3 hbW3 hb4 HKN
      go_wp2_with fail
      refine (is_same (getOf kw s).1 _).mono ?_
      rintro e w' ⟨rfl, rfl⟩
      go_wp2_with fail
      refine (same_any Ap Aq np nq cp cq _ _ _ _ _ HP.out HQ.out).mono ?_
      rintro e w' ⟨rfl, rfl⟩
      rw [decide_eq_true rfl]
      go_wp2_with fail
      refine (same_any Ai as_ ni ni ci cs _ _ _ _ _ HI.out HY.out).mono ?_
      rintro e w' ⟨rfl, rfl⟩
      rw [decide_eq_true rfl]
      go_wp2_with (go_at_call 11; refine (awake_any _).mono ?_; rintro e w9 ⟨rfl, hb9⟩)
      go_ret
      exact ⟨rfl, HB.out.trans (hb9.mono HB.out.size)⟩
  · refine (put_ok k Ab nb_ cb l u hlu (by omega) hk).mono ?_
    rintro e u1 ⟨A1, c1, rfl, ho1, hb1⟩
    have hs1 := hb1.size
    have hF : BS u1 u1.heap.size A1 128 (frameOf k l) := ⟨SL.of_own ho1, frameOf_ok hk hx.2 (by rw [HLL.out]; omega)⟩
    have hx1 := (hxu.below hb1).more hs1
    have hbU1 := hbU.trans (hb1.mono hbU.size)
    clear ho1 hb1 hbU hlu hxu hs1
    go_wp2_with fail
    refine (rput_any k a nb_ c l u1 hk hx1 (by omega)).mono ?_
    rintro e wt ⟨A2, n2, c2, rfl, ho2, hb2⟩
    have hF2 : BS wt wt.heap.size A2 n2 (frameOf k l) := ⟨SL.of_own ho2, hF.2⟩
    have hbT := hbU1.trans (hb2.mono hbU1.size)
    go_wp2_with fail
    refine (same_any A1 A2 128 n2 c1 c2 _ _ _ _ wt (hF.below hb2) hF2).mono ?_
    rintro e w' ⟨rfl, rfl⟩
    rw [decide_eq_true rfl]
    clear hF hF2 ho2 hb2 hbU1 hx1
    go_upto_region 10 with (fail)
    have hsT := hbT.size
    have hyT := (hy.below hbT).more hsT
    go_wp2_with fail
    refine (copy_any as_ ns cs s wt hyT (by omega)).mono ?_
    rintro e w1 ⟨Ai, ni, ci, rfl, hoi, hb1⟩
    have hni : ni = ns := by have h1 := hoi.1; have h2 := HLS.out; simp at h1; omega
    subst hni
    have hs1 := hb1.size
    have hi1 : BS w1 w1.heap.size Ai ni s := ⟨SL.of_own hoi, hy.2⟩
    have hcapi : CapOk ni ci := ⟨(own_cap hoi).1, (own_cap hoi).2, by omega⟩
    have hy1 := (hyT.below hb1).more hs1
    have hbW1 := hbT.trans (hb1.mono hsT)
    clear hoi hyT hb1 hbT hsT
    go_wp2_with fail
    refine (get_any kw Ai ni ci s w1 hi1 hcapi).mono ?_
    rintro e w2 ⟨Ap, np, cp, rfl, hop, hb2⟩
    have hs2 := hb2.size
    have hp2 : BS w2 w2.heap.size Ap np (getOf kw s).2 := ⟨SL.of_own hop, getOf_ok kw hy.2⟩
    have hy2 := (hy1.below hb2).more hs2
    have hi2 := (hi1.below hb2).more hs2
    have hbW2 := hbW1.trans (hb2.mono hbW1.size)
    clear hop hy1 hi1 hb2 hbW1 hs1 hs2
    go_wp2_with fail
    refine (rget_any kw as_ ni cs s w2 hy2 hcaps).mono ?_
    rintro e w3 ⟨Aq, nq, cq, rfl, hoq, hb3⟩
    have hs3 := hb3.size
    have hq3 : BS w3 w3.heap.size Aq nq (getOf kw s).2 := ⟨SL.of_own hoq, getOf_ok kw hy.2⟩
    have hy3 := (hy2.below hb3).more hs3
    have hi3 := (hi2.below hb3).more hs3
    have hp3 := (hp2.below hb3).more hs3
    have hbW3 := hbW2.trans (hb3.mono hbW2.size)
    clear hoq hy2 hi2 hp2 hb3 hbW2 hs3
    go_wp2_with fail
    have HKN := mkHid (kind_any Ai ni ci s w3 hi3 hcapi)
    by_cases h128 : ni = 128
    · have hls : s.length = 128 := by rw [HLS.out]; exact h128
      have hne : ((ni : Int) == 128) = true := by simp [h128]
      obtain ⟨b, o, rfl, hbl, hc0, hy0', hy1'⟩ := hy.at_ (j := 0) (by omega)
      rw [Nat.add_zero] at hc0
      have HLS2 := mkHid hls
      have hni0 : 0 < ni := by omega
      clear h128
      by_cases hz : (getOf (s[0]?.getD 0) s).1 = 0
      · have hk : kindOf s = (s[0]?.getD 0, true) := by unfold kindOf; rw [if_pos hz]
        rw [hk] at HKN
        have HZ := mkHid hz
        clear hk hz hls
        refine HKN.out.mono ?_
        rintro e w4 ⟨rfl, hb4⟩
        have hs4 := hb4.size
        have hp4 := (hp3.below hb4).more hs4
        have hq4 := (hq3.below hb4).more hs4
        have hi4 := (hi3.below hb4).more hs4
        have hy4 := (hy3.below hb4).more hs4
        have hbW4 := hbW3.trans (hb4.mono hbW3.size)
        have hc4 : w4.cell? ⟨b, o, none⟩ = some (.int .u8 (s[0]?.getD 0)) := (hbW4.cell (p := ⟨b, o, none⟩) hbl).trans hc0
        clear hp3 hq3 hi3 hy3 hbW3 hb4 HKN hc0
        go_wp2_with fail
        refine (rget_any (s[0]?.getD 0) _ ni cs s w4 hy4 hcaps).mono ?_
        rintro e w5 ⟨Ah, nh, ch, rfl, hoh, hb5⟩
        have hbW5 := hbW4.trans (hb5.mono hbW4.size)
        have hc5 : w5.cell? ⟨b, o, none⟩ = some (.int .u8 (s[0]?.getD 0)) := (hb5.cell (p := ⟨b, o, none⟩) (by show b < _; have := hbW4.size; omega)).trans hc4
        have HP := mkHid (hp4.below hb5)
        have HQ := mkHid (hq4.below hb5)
        have HI := mkHid (hi4.below hb5)
        have HY := mkHid (hy4.below hb5)
        have HB := mkHid hbW5
        clear hp4 hq4 hi4 hy4 hbW4 hbW5 hb5 hoh hc4 hs4
        rw [HZ.out]
        go_wp2_with fail
        refine (is_same (getOf kw s).1 _).mono ?_
        rintro e w' ⟨rfl, rfl⟩
        go_wp2_with fail
        refine (same_any Ap Aq np nq cp cq _ _ _ _ _ HP.out HQ.out).mono ?_
        rintro e w' ⟨rfl, rfl⟩
        rw [decide_eq_true rfl]
        go_wp2_with fail
        refine (same_any Ai _ ni ni ci cs _ _ _ _ _ HI.out HY.out).mono ?_
        rintro e w' ⟨rfl, rfl⟩
        rw [decide_eq_true rfl]
        go_wp2_with (go_at_call 11; refine (awake_any _).mono ?_; rintro e w9 ⟨rfl, hb9⟩)
        go_ret
        exact ⟨rfl, HB.out.trans (hb9.mono HB.out.size)⟩
      · have hk : kindOf s = (0, false) := by unfold kindOf; rw [if_neg hz]
        rw [hk] at HKN
        have hzb : ((getOf (s[0]?.getD 0) s).1 == 0) = false := by simp [hz]
        clear hk hz hls
        refine HKN.out.mono ?_
        rintro e w4 ⟨rfl, hb4⟩
        have hs4 := hb4.size
        have hp4 := (hp3.below hb4).more hs4
        have hq4 := (hq3.below hb4).more hs4
        have hi4 := (hi3.below hb4).more hs4
        have hy4 := (hy3.below hb4).more hs4
        have hbW4 := hbW3.trans (hb4.mono hbW3.size)
        have hc4 : w4.cell? ⟨b, o, none⟩ = some (.int .u8 (s[0]?.getD 0)) := (hbW4.cell (p := ⟨b, o, none⟩) hbl).trans hc0
        clear hp3 hq3 hi3 hy3 hbW3 hb4 HKN hc0
        go_wp2_with fail
        refine (rget_any (s[0]?.getD 0) _ ni cs s w4 hy4 hcaps).mono ?_
        rintro e w5 ⟨Ah, nh, ch, rfl, hoh, hb5⟩
        have hbW5 := hbW4.trans (hb5.mono hbW4.size)
        have hc5 : w5.cell? ⟨b, o, none⟩ = some (.int .u8 (s[0]?.getD 0)) := (hb5.cell (p := ⟨b, o, none⟩) (by show b < _; have := hbW4.size; omega)).trans hc4
        have HP := mkHid (hp4.below hb5)
        have HQ := mkHid (hq4.below hb5)
        have HI := mkHid (hi4.below hb5)
        have HY := mkHid (hy4.below hb5)
        have HB := mkHid hbW5
        clear hp4 hq4 hi4 hy4 hbW4 hbW5 hb5 hoh hc4 hs4
        go_wp2_with fail
        refine (is_same (getOf kw s).1 _).mono ?_
        rintro e w' ⟨rfl, rfl⟩
        go_wp2_with fail
        refine (same_any Ap Aq np nq cp cq _ _ _ _ _ HP.out HQ.out).mono ?_
        rintro e w' ⟨rfl, rfl⟩
        rw [decide_eq_true rfl]
        go_wp2_with fail
        refine (same_any Ai _ ni ni ci cs _ _ _ _ _ HI.out HY.out).mono ?_
        rintro e w' ⟨rfl, rfl⟩
        rw [decide_eq_true rfl]
        go_wp2_with (go_at_call 11; refine (awake_any _).mono ?_; rintro e w9 ⟨rfl, hb9⟩)
        go_ret
        exact ⟨rfl, HB.out.trans (hb9.mono HB.out.size)⟩
    · have hk : kindOf s = (0, false) := by unfold kindOf; rw [getOf_size (by rw [HLS.out]; exact h128)]; rfl
      rw [hk] at HKN
      have hne : ((ni : Int) == 128) = false := by simp [h128]; omega
      clear hk h128
      refine HKN.out.mono ?_
      rintro e w4 ⟨rfl, hb4⟩
      have hs4 := hb4.size
      have HP := mkHid (hp3.below hb4)
      have HQ := mkHid (hq3.below hb4)
      have HI := mkHid (hi3.below hb4)
      have HY := mkHid (hy3.below hb4)
      have HB := mkHid (hbW3.trans (hb4.mono hbW3.size))
      clear hp3 hq3 hi3 hy3 hbW3 hb4 HKN
      go_wp2_with fail
      refine (is_same (getOf kw s).1 _).mono ?_
      rintro e w' ⟨rfl, rfl⟩
      go_wp2_with fail
      refine (same_any Ap Aq np nq cp cq _ _ _ _ _ HP.out HQ.out).mono ?_
      rintro e w' ⟨rfl, rfl⟩
      rw [decide_eq_true rfl]
      go_wp2_with fail
      refine (same_any Ai as_ ni ni ci cs _ _ _ _ _ HI.out HY.out).mono ?_
      rintro e w' ⟨rfl, rfl⟩
      rw [decide_eq_true rfl]
      go_wp2_with (go_at_call 11; refine (awake_any _).mono ?_; rintro e w9 ⟨rfl, hb9⟩)
      go_ret
      exact ⟨rfl, HB.out.trans (hb9.mono HB.out.size)⟩

end Go.Proofs.Ytncbckbcdopipaa
