/- slices.Replace of one pair that is not the last one by two; of the last one by none. -/
import Derived.Test.YtilepjkdfbhgcaaNdAC
namespace Go.Proofs.Ytilepjkdfbhgcaa
open Go.RowKit Go.Shelf

theorem append_none (w : World) (ty : TypeId) (a : Addr) (n c : Nat) (hle : n ≤ c) (av : Option Addr) (cv : Nat) : (Builtin.append_ #[49, 49] ty #[.slice (some a) n c, .slice av 0 cv]).run Try.prog w = .ok (.slice (some a) n c) w := by
  obtain ⟨ii, z, hi1, hi2, hi3, hi4, hi5⟩ := el_pair.hi
  have hl : ∀ (x : Addr), (loadCells x 0).run Try.prog w = .ok #[] w := fun x => by simpa using run_loadCells_list (P := Try.prog) w x [] (by simp)
  cases av <;> simp [Builtin.append_, run_underlying Try.underlying49, Builtin.lenOf, Builtin.firstCells, sizeOf, typeInfo, hi1, hle, storeCells, hl]

set_option maxRecDepth 20000 in
set_option maxHeartbeats 4000000 in
/-- The last pair, by none. -/
theorem rep_end0 (g i c : Nat) (X L : List Value) (av : Option Addr) (cv B : Nat) (w0 w : World) (hb : Below B w0 w) (hBg : B ≤ g) (hg : w.heap[g]? = some (.cells L.toArray 52 (0, 0))) (hL : L.length = c * 2) (hX : L.take ((i + 1) * 2) = X) (hcm : c ≤ maxLen)
    (hn : i + 1 ≤ 200) (hc : i + 1 ≤ c) :
    Calls Try.prog 45 #[.slice (some ⟨g, 0, none⟩) (i + 1) c, .int .i64 i, .int .i64 ((i : Int) + 1), .slice av 0 cv] w (RetR B w0 i (X.take (i * 2))) := by
  have hz1 : ((i : Int) == (i : Int) + 1) = false := by simp; omega
  have hc0 : (i : Int) ≤ (c : Int) := by omega
  have hc1 : (i : Int) + 1 ≤ (c : Int) := by omega
  have hc2 : (i : Int) ≤ (i : Int) + 1 := by omega
  have hc3 : (0 : Int) ≤ (i : Int) + 1 := by omega
  have hc4 : ¬ (c = i) := by omega
  have hc5 : i ≤ i + 1 := by omega
  have hc6 : i ≤ c := by omega
  have hc7 : (i : Int) < (i : Int) + 1 := by omega
  obtain ⟨w6, C6, hclr, hg6, hC6, hT6, hb6⟩ := clear_tail w g c i 1 L (some ⟨g, i * 2, none⟩) (c - i) B w0 hb hBg hg hL (by omega) (by omega) (fun _ => rfl)
  have HR := mkHid (own_of (e := 52) hBg hg6 hc6 hcm hC6 (hT6.trans (show L.take (i * 2) = X.take (i * 2) by rw [← hX, List.take_take, Nat.min_eq_left (by omega)])))
  have HB6 := mkHid hb6
  clear hg6 hC6 hT6 hb6 hb hg hL hX
  go_enter Try.func45, Try.ntmps45
  go_wp2_with (at_builtin; refine Lib.wpList_append_run _ rfl _ _ _ _ rfl _ _ rfl rfl _ _ (append_none _ _ _ _ _ hc6 _ _) ?_)
  go_ret
  exact ⟨_, _, rfl, HR.out, HB6.out⟩

theorem row_two (L V D : List Value) {i r : Nat} (hL : (i + 2 + r) * 2 ≤ L.length) (hV : V.length = 4) (hD : D.length = r * 2) :
    (splice (splice L (i * 2) V) ((i + 2) * 2) D).take ((i + 2 + r) * 2) = L.take (i * 2) ++ (V ++ D) := by
  have hs : (splice L (i * 2) V).length = L.length := length_splice _ _ _ (by omega)
  have hl : (L.take (i * 2)).length = i * 2 := by rw [List.length_take]; omega
  apply List.ext_getElem?
  intro j
  rw [List.getElem?_take, app3_get, hl, hV]
  split
  · rw [splice_get _ _ _ _ (by omega), splice_get _ _ _ _ (by omega), hD, hV]
    by_cases h1 : j < i * 2
    · rw [if_pos (by omega), if_pos h1, if_pos h1, List.getElem?_take, if_pos h1]
    · rw [if_neg h1]
      by_cases h2 : j < i * 2 + 4
      · rw [if_pos (by omega), if_pos h2, if_neg h1, if_pos h2]
      · rw [if_neg (by omega), if_pos (by omega), if_neg h1, if_neg h2]
        congr 1
        omega
  · rw [if_neg (by omega), if_neg (by omega), List.getElem?_eq_none]
    omega
theorem row_two' (L V D : List Value) {i r : Nat} (hL : (i + 2 + r) * 2 ≤ L.length) (hV : V.length = 4) (hD : D.length = r * 2) :
    (splice (splice L ((i + 2) * 2) D) (i * 2) V).take ((i + 2 + r) * 2) = L.take (i * 2) ++ (V ++ D) := by
  have hs : (splice L ((i + 2) * 2) D).length = L.length := length_splice _ _ _ (by omega)
  have hl : (L.take (i * 2)).length = i * 2 := by rw [List.length_take]; omega
  apply List.ext_getElem?
  intro j
  rw [List.getElem?_take, app3_get, hl, hV]
  split
  · rw [splice_get _ _ _ _ (by omega), splice_get _ _ _ _ (by omega), hD, hV]
    by_cases h1 : j < i * 2
    · rw [if_pos h1, if_pos (by omega), if_pos h1, List.getElem?_take, if_pos h1]
    · rw [if_neg h1, if_neg h1]
      by_cases h2 : j < i * 2 + 4
      · rw [if_pos h2, if_pos h2]
      · rw [if_neg h2, if_neg (by omega), if_pos (by omega), if_neg h2]
        congr 1
        omega
  · rw [if_neg (by omega), if_neg (by omega), List.getElem?_eq_none]
    omega


set_option maxRecDepth 20000 in
set_option maxHeartbeats 4000000 in
/-- One that is not the last by two, where there is room. -/
theorem rep_shift (g i r c q : Nat) (X V L : List Value) (cv B : Nat) (Vc : List Value) (tq : TypeId) (w0 w : World) (hb : Below B w0 w) (hBg : B ≤ g) (hg : w.heap[g]? = some (.cells L.toArray 52 (0, 0))) (hL : L.length = c * 2) (hX : L.take ((i + 1 + r) * 2) = X) (hcm : c ≤ maxLen)
    (hq : SL w (q + 1) 2 (some ⟨q, 0, none⟩) 2 V) (hqc : w.heap[q]? = some (.cells Vc.toArray tq (0, 0))) (hVc : Vc.length ≠ 0) (hne : q ≠ g) (h1v : ∀ u ∈ V, u.oneCell' = true) (h1x : ∀ u ∈ X, u.oneCell' = true) (hr : 1 ≤ r) (hn : i + 1 + r ≤ 200) (hc : i + 2 + r ≤ c) :
    Calls Try.prog 45 #[.slice (some ⟨g, 0, none⟩) (i + 1 + r) c, .int .i64 i, .int .i64 ((i : Int) + 1), .slice (some ⟨q, 0, none⟩) 2 cv] w (RetR B w0 (i + 2 + r) (X.take (i * 2) ++ (V ++ X.drop ((i + 1) * 2)))) := by
  have hz1 : ((i : Int) == (i : Int) + 1) = false := by simp; omega
  have hz2 : ((i : Int) + 1 == (i : Int) + 1 + (r : Int)) = false := by simp; omega
  have e1 : IntKind.i64.wrap ((i : Int) + 2) = (i : Int) + 2 := IntWalk.i64_in _ (by omega)
  have e2 : IntKind.i64.wrap ((i : Int) + 2 + (r : Int)) = (i : Int) + 2 + (r : Int) := IntWalk.i64_in _ (by omega)
  have e3 : IntKind.i64.wrap ((i : Int) + 2 + (r : Int) - (i : Int)) = (i : Int) + 2 + (r : Int) - (i : Int) := IntWalk.i64_in _ (by omega)
  have hc0 : (i : Int) ≤ (c : Int) := by omega
  have hc1 : (i : Int) + 1 ≤ (c : Int) := by omega
  have hc2 : (i : Int) ≤ (i : Int) + 1 := by omega
  have hc3 : (0 : Int) ≤ (i : Int) + 1 := by omega
  have hc4 : ¬ (c = i) := by omega
  have hc5 : i ≤ i + 1 := by omega
  have hc6 : i ≤ c := by omega
  have hc7 : ¬ (c = i + 1) := by omega
  have hc8 : (i : Int) + 1 ≤ (i : Int) + 1 + (r : Int) := by omega
  have hc10 : ¬ ((i : Int) + 2 ≤ (i : Int) + 1) := by omega
  have hc11 : (0 : Int) ≤ (i : Int) + 2 + (r : Int) := by omega
  have hc13 : (i : Int) ≤ (i : Int) + 2 + (r : Int) := by omega
  have hd2 : (i : Int) + 2 ≤ (i : Int) + 2 + (r : Int) := by omega
  have hd3 : i + 1 ≤ i + 1 + r := by omega
  have hd4 : (0 : Int) ≤ (i : Int) + 2 := by omega
  have hd5 : ((i : Int) + 2).toNat = i + 2 := by omega
  have hd6 : ((i : Int) + 2 + (r : Int)).toNat = i + 2 + r := by omega
  have hc9 : ¬ ((c : Int) < (i : Int) + 2 + (r : Int)) := by omega
  have hc12 : (i : Int) + 2 + (r : Int) ≤ (c : Int) := by omega
  have hd1 : ¬ (c = i + 2) := by omega
  go_enter Try.func45, Try.ntmps45
  go_wp2_with fail
  go_quiet (fail)
  rename_i nq
  obtain ⟨W, hW⟩ : ∃ W, w.drewN nq = W := ⟨_, rfl⟩
  rw [hW]
  replace hg : W.heap[g]? = some (.cells L.toArray 52 (0, 0)) := by rw [← hW]; exact hg
  replace hqc : W.heap[q]? = some (.cells Vc.toArray tq (0, 0)) := by rw [← hW]; exact hqc
  replace hq : SL W (q + 1) 2 (some ⟨q, 0, none⟩) 2 V := by rw [← hW]; exact hq
  replace hb : Below B w0 W := by rw [← hW]; exact below_drewN hb nq
  clear hW
  have hov : ∀ la ca lb cb, (callFunc 61 #[.slice (some ⟨g, (i + 2) * 2, none⟩) la ca, .slice (some ⟨q, 0, none⟩) lb cb]).run Try.prog W = .ok (.value (.bool false)) W := fun la ca lb cb => overlaps_no W g q la ca lb cb _ _ _ _ _ _ (Ne.symm hne) hg hqc (by rw [List.size_toArray]; exact hVc)
  have hXl : X.length = (i + 1 + r) * 2 := by rw [← hX, List.length_take]; omega
  have hVl : V.length = 4 := hq.1
  have hdl : (X.drop ((i + 1) * 2)).length = r * 2 := by rw [List.length_drop]; omega
  have hread : ∀ j v, (X.drop ((i + 1) * 2))[j]? = some v → W.cell? ((⟨g, (i + 1) * 2, none⟩ : Addr).add j) = some v := fun j v hv => by
    have e1 : (⟨g, (i + 1) * 2, none⟩ : Addr).add j = ⟨g, (i + 1) * 2 + j, none⟩ := by unfold Addr.add; split <;> simp_all
    rw [List.getElem?_drop, ← hX, List.getElem?_take] at hv
    rw [e1, cell_at hg]
    split at hv
    · exact hv
    · cases hv
  have hreadV : ∀ (w' : World), w'.heap[q]? = W.heap[q]? → ∀ j v, V[j]? = some v → w'.cell? ((⟨q, 0, none⟩ : Addr).add j) = some v := fun w' hw j v hv => by
    obtain ⟨ad, e, h⟩ := hq.news (by omega)
    injection e with e
    subst e
    have e1 : (⟨q, 0, none⟩ : Addr).add j = ⟨q, 0 + j, none⟩ := by unfold Addr.add; split <;> simp_all
    have h1 := h j v hv
    rw [e1] at h1 ⊢
    exact (World.cell?_of_block (w := W) (a := ⟨q, 0 + j, none⟩) hw).trans h1
  have HG := mkHid (show W.drew.heap[g]? = some (.cells L.toArray 52 (0, 0)) from hg)
  have HB := mkHid hb.drew
  have HR := mkHid (show ∀ j v, (X.drop ((i + 1) * 2))[j]? = some v → W.drew.cell? ((⟨g, (i + 1) * 2, none⟩ : Addr).add j) = some v from hread)
  have HV := mkHid hreadV
  have hLX : L.take (i * 2) = X.take (i * 2) := by rw [← hX, List.take_take, Nat.min_eq_left (by omega)]
  have HEND := mkHid ((row_two' L V (X.drop ((i + 1) * 2)) (i := i) (r := r) (by omega) hVl hdl).trans (by rw [hLX]))
  have HSL := mkHid (show (splice L ((i + 2) * 2) (X.drop ((i + 1) * 2))).length = L.length from length_splice _ _ _ (by omega))
  have HSL2 := mkHid (show (splice (splice L ((i + 2) * 2) (X.drop ((i + 1) * 2))) (i * 2) V).length = c * 2 by rw [length_splice _ _ _ (by rw [HSL.out]; omega), HSL.out, hL])
  have hx1 : ∀ u ∈ X.drop ((i + 1) * 2), u.oneCell' = true := fun u hu => h1x u (List.mem_of_mem_drop hu)
  have hmn : 2 ≤ i + 2 + r - i := by omega
  clear hg hqc hb hq hread hreadV hX hLX
  go_wp2_with (simp only [hov])
  go_region_law (refine step_copyS rfl (.tmp 126) (.tmp 129) _ _ rfl 52 2 Try.underlying49 sz_pair (some ⟨g, (i + 2) * 2, none⟩) (some ⟨g, (i + 1) * 2, none⟩) r (c - (i + 2)) r (c - (i + 1)) (by simp [Act.eval, Act.put]) (by simp [Act.eval, Act.put]) g ((i + 2) * 2) _ _ HG.out (X.drop ((i + 1) * 2)) (by rw [hdl]; congr 1; exact (Nat.min_eq_left (Nat.le_refl _)).symm) (fun _ => ⟨rfl, _, rfl, HR.out⟩) (by rw [hdl]; omega) hx1 B w0 HB.out hBg ?_; intro w4 HG4 HB4 hk4)
  have hk4q : w4.heap[q]? = W.heap[q]? := hk4 q hne
  have HV4 := mkHid (HV.out w4 hk4q)
  clear hk4 hk4q
  go_wp2_with (refine wpList_copyS rfl (.tmp 133) (.tmp 134) _ _ rfl 52 2 Try.underlying49 sz_pair (some ⟨g, i * 2, none⟩) (some ⟨q, 0, none⟩) (i + 2 + r - i) (c - i) 2 cv (by simp [Act.eval]) (by simp [Act.eval]) g (i * 2) _ _ HG4.out V (by rw [hVl, show Nat.min 2 (i + 2 + r - i) = 2 from Nat.min_eq_left hmn]) (fun _ => ⟨rfl, _, rfl, HV4.out⟩) (by rw [HSL.out]; omega) h1v B w0 HB4.out hBg ?_; intro w5 HG5 HB5 _)
  go_ret
  exact ⟨_, _, rfl, own_of hBg HG5.out hc hcm HSL2.out HEND.out, HB5.out⟩


set_option maxRecDepth 20000 in
set_option maxHeartbeats 4000000 in
/-- One that is not the last by two, where there is no room. -/
theorem rep_grow (g i r c q : Nat) (V L : List Value) (cv B : Nat) (w0 w : World) (hb : Below B w0 w) (hBw : B ≤ w.heap.size) (hg : w.heap[g]? = some (.cells L.toArray 52 (0, 0))) (hL : L.length = c * 2)
    (hq : SL w (q + 1) 2 (some ⟨q, 0, none⟩) 2 V) (hqw : q < w.heap.size) (h1v : ∀ u ∈ V, u.oneCell' = true) (h1x : ∀ u ∈ L, u.oneCell' = true) (hr : 1 ≤ r) (hn : i + 1 + r ≤ 200) (hcn : c = i + 1 + r) :
    Calls Try.prog 45 #[.slice (some ⟨g, 0, none⟩) (i + 1 + r) c, .int .i64 i, .int .i64 ((i : Int) + 1), .slice (some ⟨q, 0, none⟩) 2 cv] w (RetR B w0 (i + 2 + r) (L.take (i * 2) ++ (V ++ L.drop ((i + 1) * 2)))) := by
  obtain ⟨ii, z, hi1, hi2, hi3, hi4, hi5⟩ := el_pair.hi
  have hz : (.agg #[.int .i64 0, .int .i64 0] : Value) = z := by
    have h1 : (Try.prog.info? 52).bind (fun i => i.zero) = some (.agg #[.int .i64 0, .int .i64 0]) := by kernel_rfl
    rw [hi1] at h1
    simp only [Option.bind_some] at h1
    rw [hi2] at h1
    injection h1 with h1
    exact h1.symm
  subst hz
  have hz1 : ((i : Int) == (i : Int) + 1) = false := by simp; omega
  have hz2 : ((i : Int) + 1 == (i : Int) + 1 + (r : Int)) = false := by simp; omega
  have e1 : IntKind.i64.wrap ((i : Int) + 2) = (i : Int) + 2 := IntWalk.i64_in _ (by omega)
  have e2 : IntKind.i64.wrap ((i : Int) + 2 + (r : Int)) = (i : Int) + 2 + (r : Int) := IntWalk.i64_in _ (by omega)
  have e3 : IntKind.i64.wrap ((i : Int) + 2 + (r : Int) - (i : Int)) = (i : Int) + 2 + (r : Int) - (i : Int) := IntWalk.i64_in _ (by omega)
  have hc0 : (i : Int) ≤ (c : Int) := by omega
  have hc1 : (i : Int) + 1 ≤ (c : Int) := by omega
  have hc2 : (i : Int) ≤ (i : Int) + 1 := by omega
  have hc3 : (0 : Int) ≤ (i : Int) + 1 := by omega
  have hc4 : ¬ (c = i) := by omega
  have hc5 : i ≤ i + 1 := by omega
  have hc6 : i ≤ c := by omega
  have hc7 : ¬ (c = i + 1) := by omega
  have hc8 : (i : Int) + 1 ≤ (i : Int) + 1 + (r : Int) := by omega
  have hc10 : ¬ ((i : Int) + 2 ≤ (i : Int) + 1) := by omega
  have hc11 : (0 : Int) ≤ (i : Int) + 2 + (r : Int) := by omega
  have hc13 : (i : Int) ≤ (i : Int) + 2 + (r : Int) := by omega
  have hd2 : (i : Int) + 2 ≤ (i : Int) + 2 + (r : Int) := by omega
  have hd3 : i + 1 ≤ i + 1 + r := by omega
  have hd4 : (0 : Int) ≤ (i : Int) + 2 := by omega
  have hd5 : ((i : Int) + 2).toNat = i + 2 := by omega
  have hd6 : ((i : Int) + 2 + (r : Int)).toNat = i + 2 + r := by omega
  have hc9 : (c : Int) < (i : Int) + 2 + (r : Int) := by omega
  obtain ⟨hcn1, hcn2⟩ : i + 1 + r ≤ c ∧ c ≤ i + 1 + r := by omega
  clear hcn
  go_enter Try.func45, Try.ntmps45
  go_wp2_with fail
  go_quiet (fail)
  rename_i nq
  obtain ⟨W, hW⟩ : ∃ W, w.drewN nq = W := ⟨_, rfl⟩
  rw [hW]
  replace hg : W.heap[g]? = some (.cells L.toArray 52 (0, 0)) := by rw [← hW]; exact hg
  replace hq : SL W (q + 1) 2 (some ⟨q, 0, none⟩) 2 V := by rw [← hW]; exact hq
  replace hb : Below B w0 W := by rw [← hW]; exact below_drewN hb nq
  replace hBw : B ≤ W.heap.size := by rw [← hW]; exact hBw
  replace hqw : q < W.heap.size := by rw [← hW]; exact hqw
  clear hW
  have hrz : ∀ ty, (Builtin.append_ #[49, 3] ty #[.slice (some ⟨g, 0, none⟩) i c, .int .i64 ((i : Int) + 2 + (r : Int) - (i : Int))]).run Try.prog W =
      .ok (.slice (some ⟨W.heap.size, 0, none⟩) (i + 2 + r) (grownCap W (i + 2 + r) c 52)) (W.drew.alloc (.cells ((L.take (i * 2)).toArray ++ Builtin.zeroCells (Value.agg #[.int .i64 0, .int .i64 0]).cells (2 + r) ++ Builtin.zeroCells (Value.agg #[.int .i64 0, .int .i64 0]).cells (grownCap W (i + 2 + r) c 52 - (i + 2 + r))) 52)) := fun ty => by
    have h := Lib.run_append_grow_zeros (P := Try.prog) W 49 3 ty 52 ii _ .i64 .i64 Try.underlying49 Try.underlying3 hi1 hi2 (some ⟨g, 0, none⟩) i c (L.take (i * 2)) (by
      rw [hi3]
      exact run_firstCells_some W.drew 2 i ⟨g, 0, none⟩ i c (L.take (i * 2)) (by rw [List.length_take]; omega) (fun j v hv => by
        have e1 : (⟨g, 0, none⟩ : Addr).add j = ⟨g, 0 + j, none⟩ := by unfold Addr.add; split <;> simp_all
        rw [e1, Nat.zero_add]
        show W.cell? _ = _
        rw [cell_at hg]
        rw [List.getElem?_take] at hv
        split at hv
        · exact hv
        · cases hv)) (2 + r) (by omega) (by omega) (by omega) (by omega) (by rw [hi4]; omega) (by rw [hi4]; unfold Builtin.nextslicecap; rw [if_neg (by omega), if_pos (by omega)]; omega)
    rw [show i + (2 + r) = i + 2 + r by omega, show ((2 + r : Nat) : Int) = (i : Int) + 2 + (r : Int) - (i : Int) by omega] at h
    exact h
  have hG1 := grownCap_ge W (i + 2 + r) c 52
  have hG2 := grownCap_le_maxLen W (i + 2 + r) c 52 (by unfold maxLen; omega)
  obtain ⟨G, hGe⟩ : ∃ G, grownCap W (i + 2 + r) c 52 = G := ⟨_, rfl⟩
  rw [hGe] at hrz hG1 hG2
  clear hGe
  obtain ⟨Z, hZ, hrow⟩ : ∃ Z : List Value, Z.length = (G - i) * 2 ∧ (L.take (i * 2)).toArray ++ Builtin.zeroCells (Value.agg #[.int .i64 0, .int .i64 0]).cells (2 + r) ++ Builtin.zeroCells (Value.agg #[.int .i64 0, .int .i64 0]).cells (G - (i + 2 + r)) = (L.take (i * 2) ++ Z).toArray :=
    ⟨(Builtin.zeroCells (Value.agg #[.int .i64 0, .int .i64 0]).cells (2 + r)).toList ++ (Builtin.zeroCells (Value.agg #[.int .i64 0, .int .i64 0]).cells (G - (i + 2 + r))).toList, by simp [Builtin.zeroCells, Value.cells]; omega, by simp⟩
  rw [hrow] at hrz
  have hgl : g < W.heap.size := (Array.getElem?_eq_some_iff.1 hg).1
  obtain ⟨W1, hW1⟩ : ∃ W1, W.drew.alloc (.cells (L.take (i * 2) ++ Z).toArray 52) = W1 := ⟨_, rfl⟩
  rw [hW1] at hrz
  have hG : W1.heap[W.heap.size]? = some (.cells (L.take (i * 2) ++ Z).toArray 52 (0, 0)) := by rw [← hW1]; exact heap_alloc_new W.drew _
  have hB1 : Below B w0 W1 := by rw [← hW1]; exact hb.drew.alloc hBw _
  have hg1 : W1.heap[g]? = some (.cells L.toArray 52 (0, 0)) := by rw [← hW1]; exact (Below.heap_alloc W.drew _ _ hgl).trans hg
  have hq1 : SL W1 (q + 1) 2 (some ⟨q, 0, none⟩) 2 V := hq.keep fun b hb' => by rw [← hW1]; exact Below.heap_alloc W.drew _ _ (show b < W.drew.heap.size from Nat.lt_of_le_of_lt (Nat.le_of_lt_succ hb') hqw)
  have HG := mkHid hG
  have HB := mkHid hB1
  have HG1 := mkHid hg1
  have hVl : V.length = 4 := hq.1
  have HV := mkHid (show ∀ j v, V[j]? = some v → W1.cell? ((⟨q, 0, none⟩ : Addr).add j) = some v from fun j v hv => by
    obtain ⟨ad, e, h⟩ := hq1.news (by omega)
    injection e with e
    subst e
    exact h j v hv)
  have hdl : (L.drop ((i + 1) * 2)).length = r * 2 := by rw [List.length_drop]; omega
  have hLZ : (L.take (i * 2) ++ Z).length = G * 2 := by rw [List.length_append, List.length_take]; omega
  have hLX : (L.take (i * 2) ++ Z).take (i * 2) = L.take (i * 2) := by rw [List.take_append_of_le_length (by rw [List.length_take]; omega), List.take_take, Nat.min_self]
  have HEND := mkHid ((row_two (L.take (i * 2) ++ Z) V (L.drop ((i + 1) * 2)) (i := i) (r := r) (by omega) hVl hdl).trans (by rw [hLX]))
  have HSL := mkHid (show (splice (L.take (i * 2) ++ Z) (i * 2) V).length = G * 2 by rw [length_splice _ _ _ (by rw [hLZ]; omega), hLZ])
  have HSL2 := mkHid (show (splice (splice (L.take (i * 2) ++ Z) (i * 2) V) ((i + 2) * 2) (L.drop ((i + 1) * 2))).length = G * 2 by rw [length_splice _ _ _ (by rw [HSL.out]; omega), HSL.out])
  have hx1 : ∀ u ∈ L.drop ((i + 1) * 2), u.oneCell' = true := fun u hu => h1x u (List.mem_of_mem_drop hu)
  have hmn : 2 ≤ i + 2 + r - i := by omega
  have hk1 : ¬ (G = i + 2) := by omega
  have hk2 : ¬ (G = i) := by omega
  have hk3 : i ≤ G := by omega
  have hk4 : i ≤ i + 2 + r := by omega
  have hgw : g ≠ W.heap.size := by omega
  clear hg hb hq hG hB1 hg1 hq1 hrow hW1 hLX
  go_wp2_with (first
    | (at_builtin; refine Lib.wpList_append_run _ rfl _ _ _ _ rfl _ _ rfl rfl _ _ (hrz _) ?_)
    | (refine wpList_copyS rfl (.tmp 70) (.tmp 71) _ _ rfl 52 2 Try.underlying49 sz_pair (some ⟨W.heap.size, i * 2, none⟩) (some ⟨q, 0, none⟩) (i + 2 + r - i) (G - i) 2 cv (by simp [Act.eval]) (by simp [Act.eval]) W.heap.size (i * 2) _ _ HG.out V (by rw [hVl, show Nat.min 2 (i + 2 + r - i) = 2 from Nat.min_eq_left hmn]) (fun _ => ⟨rfl, _, rfl, HV.out⟩) (by rw [hLZ]; omega) h1v B w0 HB.out hBw ?_; intro w4 HG4 HB4 hk4; have HK4 := mkHid (show w4.heap[g]? = some (.cells L.toArray 52 (0, 0)) from (hk4 g hgw).trans HG1.out); clear hk4))
  have HG4' := mkHid (show w4.drew.heap[W.heap.size]? = some (.cells (splice (L.take (i * 2) ++ Z) (i * 2) V).toArray 52 (0, 0)) from HG4.out)
  have HB4' := mkHid HB4.out.drew
  have HR4 := mkHid (show ∀ j v, (L.drop ((i + 1) * 2))[j]? = some v → w4.drew.cell? ((⟨g, (i + 1) * 2, none⟩ : Addr).add j) = some v from fun j v hv => by
    have e1 : (⟨g, (i + 1) * 2, none⟩ : Addr).add j = ⟨g, (i + 1) * 2 + j, none⟩ := by unfold Addr.add; split <;> simp_all
    rw [List.getElem?_drop] at hv
    rw [e1]
    show w4.cell? _ = _
    rw [cell_at HK4.out]
    exact hv)
  go_region_law (refine step_copyS rfl (.tmp 78) (.tmp 81) _ _ rfl 52 2 Try.underlying49 sz_pair (some ⟨W.heap.size, (i + 2) * 2, none⟩) (some ⟨g, (i + 1) * 2, none⟩) r (G - (i + 2)) r (c - (i + 1)) (by simp [Act.eval, Act.put]) (by simp [Act.eval, Act.put]) W.heap.size ((i + 2) * 2) _ _ HG4'.out (L.drop ((i + 1) * 2)) (by rw [hdl]; congr 1; exact (Nat.min_eq_left (Nat.le_refl _)).symm) (fun _ => ⟨rfl, _, rfl, HR4.out⟩) (by rw [HSL.out, hdl]; omega) hx1 B w0 HB4'.out hBw ?_; intro w5 HG5 HB5 _)
  go_wp2_with fail
  go_ret
  exact ⟨_, _, rfl, own_of hBw HG5.out hG1 hG2 HSL2.out HEND.out, HB5.out⟩

end Go.Proofs.Ytilepjkdfbhgcaa
