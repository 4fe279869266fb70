/- portageref15.Ahead by contract: of a list whose numbers rise it is what the table tells. -/
import Derived.Test.YtgabjgmimebelaaLkC
namespace Go.Proofs.Ytgabjgmimebelaa
open Go.RowKit Go.Shelf

set_option maxRecDepth 20000 in
set_option maxHeartbeats 2000000 in
theorem rahead_any (a : Option Addr) (n c : Nat) (es : List En) (num : Int) (w : World) (hs : ES w (· < w.heap.size) a n es) (hn : n ≤ 1000) (hup : Up es) :
    Calls Try.prog 26 #[.slice a n c, .int .i64 num] w (RetI w (aheadOf es num)) := by
  obtain rfl := hs.1
  have HS := mkHid hs
  obtain ⟨i0, e0, hi0, hmt, he0, hres⟩ := ahead_idx hup num
  have HMT := mkHid hmt
  have HE0 := mkHid he0
  rw [hres]
  clear hs hmt he0 hres hup
  obtain ⟨L, hL⟩ : ∃ L : Nat → List Int, L = fun q => if i0 < q then aheadAt es i0 e0 else [] := ⟨_, rfl⟩
  have HL := mkHid hL
  have hLr : (if i0 < es.length then aheadAt es i0 e0 else []) = L es.length := by rw [hL]
  rw [hLr]
  clear hL hLr
  go_enter Try.func26, Try.ntmps26
  go_wp2_with fail
  go_loopw [5, 6] (fun out i wr => ∃ (q : Nat) (O : Option Addr) (C : Nat), q ≤ es.length ∧ i = .int .i64 q ∧ out = .slice O (L q).length C ∧ Hid (wr.ownsRow w.heap.size 3 1 (.slice O (L q).length C) (L q).length ((L q).map i64v)) ∧ Hid (Below w.heap.size w wr)) (fun _ i _ => es.length - (intOf i).toNat)
  case atStart =>
    have hL0 : L 0 = [] := by rw [HL.out]; rfl
    exact ⟨0, none, 0, Nat.zero_le _, rfl, by rw [hL0]; rfl, mkHid (by rw [hL0]; exact World.ownsRow_nil _ _ _ _), mkHid (Below.refl _ _)⟩
  case round =>
    obtain ⟨q, O, C, hq, rfl, rfl, HO, HB⟩ := hrel
    by_cases hlt : q < es.length
    · obtain ⟨b, o, e, p, m, k, rfl, hbs, hxq, hIe, h0, h1, hc, hss⟩ := HS.out.2 q hlt
      have c0 := (HB.out.cell (p := ⟨b, o + q * 2, none⟩) hbs).trans h0
      have HX := mkHid hxq
      have HSS := mkHid hss
      have HCC := mkHid hc
      have HH0 := mkHid h0
      have HH1 := mkHid h1
      have hmq := HMT.out q e hxq
      clear h0 h1 hxq hss hc hIe
      by_cases hqi : q = i0
      · have hnum : e.num = num := by
          have h := hmq
          rw [decide_eq_true hqi] at h
          simpa using h
        have hee : e = e0 := by
          have := HE0.out (hqi ▸ hlt)
          rw [← hqi, HX.out] at this
          exact Option.some.inj this
        have hLq : L q = [] := by rw [HL.out]; simp only; rw [if_neg (by omega)]
        have hLs : L (q + 1) = aheadAt es q e := by rw [HL.out]; simp only; rw [if_pos (by omega), hqi, hee]
        have HLS := mkHid hLs
        rw [hLq] at HO ⊢
        clear hmq hee hLq hLs hqi
        subst hnum
        have hqn : q ≤ 1000 := by omega
        go_wp2_with fail
        go_loopw [5, 7] (fun out i wr => ∃ (l : Nat) (O : Option Addr) (C : Nat), l ≤ q ∧ i = .int .i64 l ∧ out = .slice O (aheadAt es l e).length C ∧ Hid (wr.ownsRow w.heap.size 3 1 (.slice O (aheadAt es l e).length C) (aheadAt es l e).length ((aheadAt es l e).map i64v)) ∧ Hid (Below w.heap.size w wr)) (fun _ i _ => q - (intOf i).toNat)
        case atStart => exact ⟨0, O, C, Nat.zero_le _, rfl, rfl, HO, HB⟩
        case round =>
          clear c0 HO HB
          obtain ⟨l, O, C, hl, rfl, rfl, HO, HB⟩ := hrel
          have c0 := (HB.out.cell (p := ⟨b, o + q * 2, none⟩) hbs).trans HH0.out
          by_cases hlq : l < q
          · obtain ⟨b2, o2, x, p2, m2, k2, hab, _, hxl, _, g0, g1, hc2, hss2⟩ := HS.out.2 l (by omega)
            injection hab with hab
            injection hab with hb1 hb2
            subst hb1
            subst hb2
            have c1 := (HB.out.cell (p := ⟨b, o + q * 2 + 1, none⟩) hbs).trans HH1.out
            have d0 := (HB.out.cell (p := ⟨b, o + l * 2, none⟩) hbs).trans g0
            have d1 := (HB.out.cell (p := ⟨b, o + l * 2 + 1, none⟩) hbs).trans g1
            have HXL := mkHid hxl
            have hsucc := aheadAt_succ e hxl
            have HSU := mkHid hsucc
            have hbw := HB.out.size
            have HS1 := mkHid (show ∀ W : World, W.heap = wr.heap → SS W (· < W.heap.size) p m e.spans from fun W hW => HSS.out.keep (fun b hb => by rw [hW]; exact HB.out.block b hb) fun b hb => by rw [hW]; omega)
            have HS2 := mkHid (show ∀ W : World, W.heap = wr.heap → SS W (· < W.heap.size) p2 m2 x.spans from fun W hW => hss2.keep (fun b hb => by rw [hW]; exact HB.out.block b hb) fun b hb => by rw [hW]; omega)
            have HC2 := mkHid hc2
            have HPC := mkHid (show ∀ s : World, (∀ b, b < wr.heap.size → s.heap[b]? = wr.heap[b]?) → (s.cell? ⟨b, o + l * 2, none⟩ = some (.int .i64 x.num) ∧ s.cell? ⟨b, o + l * 2 + 1, none⟩ = some (.slice p2 m2 k2) ∧ s.cell? ⟨b, o + q * 2, none⟩ = some (.int .i64 e.num) ∧ s.cell? ⟨b, o + q * 2 + 1, none⟩ = some (.slice p m k)) from fun s hs =>
              ⟨(World.cell?_of_block (w := wr) (a := ⟨b, o + l * 2, none⟩) (hs b (by omega))).trans d0, (World.cell?_of_block (w := wr) (a := ⟨b, o + l * 2 + 1, none⟩) (hs b (by omega))).trans d1, (World.cell?_of_block (w := wr) (a := ⟨b, o + q * 2, none⟩) (hs b (by omega))).trans c0, (World.cell?_of_block (w := wr) (a := ⟨b, o + q * 2 + 1, none⟩) (hs b (by omega))).trans c1⟩)
            have HC0 := mkHid (HPC.out _ fun _ _ => rfl)
            have hll : (l : Int) < (es.length : Int) := by omega
            clear g0 g1 hxl hss2 hc2 hsucc
            go_wp2_with fail
            go_region_held3 (fun s => s.cell? ⟨b, o + l * 2, none⟩ = some (.int .i64 x.num) ∧ s.cell? ⟨b, o + l * 2 + 1, none⟩ = some (.slice p2 m2 k2) ∧ s.cell? ⟨b, o + q * 2, none⟩ = some (.int .i64 e.num) ∧ s.cell? ⟨b, o + q * 2 + 1, none⟩ = some (.slice p m k)) (first | exact HC0.out | assumption) (first
              | (go_at_call 19; refine (apart_any x.num e.num p2 p m2 k2 m k x.spans e.spans _ (HS2.out _ (by rfl)) HC2.out (HS1.out _ (by rfl)) HCC.out).mono ?_; rintro _ w5 ⟨rfl, hb5⟩; have hpc := HPC.out w5 (fun b hb => hb5.block b hb); have HB5 := mkHid (show Below wr.heap.size wr w5 from Below.mk hb5.os hb5.tape hb5.output hb5.size hb5.block); clear hb5))
            rename_i hheld
            clear hheld c0 c1 d0 d1
            obtain ⟨hp0, _, _, _⟩ := hpc
            rw [show (x.spans.any fun x => e.spans.any fun y => clashOf x y) = enClash x e from rfl]
            have hal := aheadAt_len es l e
            have HBW := mkHid (HB.out.trans (HB5.out.mono HB.out.size))
            have hbw5 := HBW.out.size
            have HO5 := mkHid (own_below HO.out HB5.out)
            cases hE : enClash x e with
            | false =>
              have hsu : aheadAt es (l + 1) e = aheadAt es l e := by rw [HSU.out, hE]; simp
              have HSV := mkHid hsu
              clear hsu hE
              go_wp2_with fail
              go_roundw
              case rel => exact ⟨l + 1, O, C, by omega, by go_num, by rw [HSV.out], mkHid (by rw [HSV.out]; exact HO5.out), HBW⟩
              case measure => simp [intOf]; omega
            | true =>
              have hsu : aheadAt es (l + 1) e = aheadAt es l e ++ [x.num] := by rw [HSU.out, hE]; simp
              have HSV := mkHid hsu
              clear hsu hE
              have HRW := mkHid (own_below HO5.out ((Below.refl w5.heap.size w5).alloc (Nat.le_refl _) (.cells #[.int .i64 x.num] 3)))
              go_wp2_with (at_builtin; refine wpList_app _ rfl (.tmp 38) (.tmp 44) _ rfl w.heap.size el_int O (aheadAt es l e).length C ((aheadAt es l e).map i64v) rfl HRW.out (w5.heap.size + 1) (some ⟨w5.heap.size, 0, none⟩) 1 1 [i64v x.num] rfl (SL.of_block (heap_alloc_new w5 _) rfl (by omega)) (fun u hu => by obtain rfl := List.mem_singleton.1 hu; rfl) (by unfold maxLen; omega) (by omega) (by simp; omega) ?_; intro O7 C7 w7 ho7 hg7 hat7; have HO7 := mkHid ho7; have HB7 := mkHid ((HBW.out.alloc hbw5 (.cells #[.int .i64 x.num] 3)).grown hg7 (by simp; omega) (own_base HO.out)); clear ho7 hg7 hat7)
              go_roundw
              case rel => exact ⟨l + 1, O7, C7, by omega, by go_num, by rw [HSV.out, List.length_append, List.length_singleton], mkHid (by rw [HSV.out, List.length_append, List.length_singleton, List.map_append]; exact HO7.out), HB7⟩
              case measure => simp [intOf]; omega
          · obtain rfl : l = q := by omega
            go_wp2_with fail
            go_roundw
            case rel => exact ⟨l + 1, O, C, by omega, by go_num, by rw [HLS.out], mkHid (by rw [HLS.out]; exact HO.out), HB⟩
            case measure => simp [intOf]; omega
      · have hnum : (e.num == num) = false := by rw [hmq, decide_eq_false hqi]
        have hLs : L (q + 1) = L q := by
          rw [HL.out]
          simp only
          by_cases h : i0 < q
          · rw [if_pos h, if_pos (by omega)]
          · rw [if_neg h, if_neg (by omega)]
        have HLS := mkHid hLs
        obtain ⟨ln, hln⟩ : ∃ ln, (L q).length = ln := ⟨_, rfl⟩
        have HLN := mkHid hln
        rw [hln] at HO ⊢
        clear hmq hLs hln hqi
        go_wp2_with fail
        go_loopw [5, 7] (fun out i wr => out = .slice O ln C ∧ i = .int .i64 0 ∧ Hid (Below w.heap.size w wr) ∧ Hid (wr.ownsRow w.heap.size 3 1 (.slice O ln C) ln ((L q).map i64v))) (fun _ _ _ => 0)
        case atStart => exact ⟨rfl, rfl, HB, HO⟩
        case round =>
          clear c0 HO HB
          obtain ⟨rfl, rfl, HB, HO⟩ := hrel
          have c0 := (HB.out.cell (p := ⟨b, o + q * 2, none⟩) hbs).trans HH0.out
          go_wp2_with fail
          go_roundw
          case rel => exact ⟨q + 1, O, C, by omega, by go_num, by rw [HLS.out, HLN.out], mkHid (by rw [HLS.out, HLN.out]; exact HO.out), HB⟩
          case measure => simp [intOf]; omega
    · obtain rfl : q = es.length := by omega
      go_wp2_with fail
      go_ret
      exact ⟨O, C, rfl, HO.out, HB.out⟩
end Go.Proofs.Ytgabjgmimebelaa
