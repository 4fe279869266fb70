/- slices.Insert of one pair by contract. -/
import Derived.Test.YtilepjkdfbhgcaaNdH
namespace Go.Proofs.Ytilepjkdfbhgcaa
open Go.RowKit Go.Shelf

theorem sz_pair : (Try.prog.info? 52).map (·.size) = some 2 := by kernel_rfl
theorem ends_pair (X : List Value) (V : List Value) {n i : Nat} (L : List Value) (hL : (n + 1) * 2 ≤ L.length) (hX : L.take (n * 2) = X) (hi : i ≤ n) (hV : V.length = 2) :
    (splice (splice L ((i + 1) * 2) (X.drop (i * 2))) (i * 2) V).take ((n + 1) * 2) = X.take (i * 2) ++ (V ++ X.drop (i * 2)) := by
  have hXl : X.length = n * 2 := by rw [← hX, List.length_take]; omega
  have hs : (splice L ((i + 1) * 2) (X.drop (i * 2))).length = L.length := length_splice _ _ _ (by rw [List.length_drop]; omega)
  apply List.ext_getElem?
  intro j
  rw [List.getElem?_take]
  split
  · rw [splice_get _ _ _ _ (by omega), splice_get _ _ _ _ (by omega), List.length_drop, hV]
    by_cases h1 : j < i * 2
    · rw [if_pos h1, if_pos (by omega), List.getElem?_append_left (by rw [List.length_take]; omega), List.getElem?_take, if_pos h1, ← hX, List.getElem?_take, if_pos (by omega)]
    · rw [if_neg h1, List.getElem?_append_right (by rw [List.length_take]; omega), List.length_take, Nat.min_eq_left (by omega)]
      by_cases h2 : j < i * 2 + 2
      · rw [if_pos h2, List.getElem?_append_left (by omega)]
      · rw [if_neg h2, if_neg (by omega), if_pos (by omega), List.getElem?_append_right (by omega), hV]
        congr 1
        omega
  · rw [List.getElem?_eq_none]
    rw [List.length_append, List.length_append, List.length_take, List.length_drop, hV]
    omega

set_option maxRecDepth 20000 in
set_option maxHeartbeats 4000000 in
theorem insert_end (A : Option Addr) (n c : Nat) (X V : List Value) (q B : Nat) (w0 w : World) (hb : Below B w0 w) (ho : w.ownsRow B 52 2 (.slice A n c) n X)
    (hq : SL w (q + 1) 2 (some ⟨q, 0, none⟩) 1 V) (h1v : ∀ u ∈ V, u.oneCell' = true) (hn : n ≤ 1000) (hBs : B ≤ w.heap.size) :
    Calls Try.prog 38 #[.slice A n c, .int .i64 n, .slice (some ⟨q, 0, none⟩) 1 1] w fun e w' => ∃ A' C', e = .returned (.slice A' (n + 1) C') ∧ w'.ownsRow B 52 2 (.slice A' (n + 1) C') (n + 1) (X ++ V) ∧ Below B w0 w' := by
  have HO := mkHid ho
  have HQ := mkHid hq
  have HB := mkHid hb
  have hcap := own_cap ho
  have HC := mkHid hcap
  have hc0 : (n : Int) ≤ (c : Int) := by omega
  have hc1 : n ≤ c := hcap.1
  clear ho hq hb hcap
  by_cases hcn : c = n
  · subst hcn
    go_enter Try.func38, Try.ntmps38
    go_wp2_with (at_builtin; refine wpList_app _ rfl (.tmp 23) (.tmp 24) _ rfl B el_pair A c c _ rfl HO.out (q + 1) (some ⟨q, 0, none⟩) 1 1 V rfl HQ.out h1v (by unfold maxLen; omega) (by omega) hBs ?_; intro A' C' w3 ho3 hg3 _; have HO3 := mkHid ho3; have HB3 := mkHid (HB.out.grown hg3 hBs (fun k hk => own_base HO.out k hk)); clear ho3 hg3)
    go_ret
    exact ⟨A', C', rfl, HO3.out, HB3.out⟩
  · go_enter Try.func38, Try.ntmps38
    go_wp2_with (at_builtin; refine wpList_app _ rfl (.tmp 23) (.tmp 24) _ rfl B el_pair A n c _ rfl HO.out (q + 1) (some ⟨q, 0, none⟩) 1 1 V rfl HQ.out h1v (by unfold maxLen; omega) (by omega) hBs ?_; intro A' C' w3 ho3 hg3 _; have HO3 := mkHid ho3; have HB3 := mkHid (HB.out.grown hg3 hBs (fun k hk => own_base HO.out k hk)); clear ho3 hg3)
    go_ret
    exact ⟨A', C', rfl, HO3.out, HB3.out⟩

theorem overlaps_no (w : World) (a b la ca lb cb oa ob : Nat) (ca' cb' : Array Value) (tA tB : TypeId) (hne : a ≠ b) (ha : w.heap[a]? = some (.cells ca' tA (0, 0))) (hb : w.heap[b]? = some (.cells cb' tB (0, 0))) (hk : cb'.size ≠ 0) :
    (callFunc 61 #[.slice (some ⟨a, oa, none⟩) la ca, .slice (some ⟨b, ob, none⟩) lb cb]).run Try.prog w = .ok (.value (.bool false)) w := by
  rw [run_callFunc_extern Try.func61 (by kernel_rfl) (by kernel_rfl) (by kernel_rfl) (e := Extern.SlicesOverlaps.overlaps #[49, 49] #[4]) (by kernel_rfl),
    Lib.run_overlaps_apart w 49 4 52 Try.underlying49 2 (fun w => by kernel_rfl) ⟨a, oa, none⟩ ⟨b, ob, none⟩ la ca lb cb hne tA tB ca'.size cb'.size (by simp [World.shape?, ha]) (by simp [World.shape?, hb]) hk (frozen_of_row _ _ _ _ _ ha) (frozen_of_row _ _ _ _ _ ha)]
  rfl

set_option maxRecDepth 20000 in
set_option maxHeartbeats 400000 in
theorem insert_shift (g i n c : Nat) (X V L : List Value) (q B : Nat) (w0 w : World) (hb : Below B w0 w) (hBg : B ≤ g) (hg : w.heap[g]? = some (.cells L.toArray 52 (0, 0))) (hL : L.length = c * 2) (hX : L.take (n * 2) = X) (hcm : c ≤ maxLen)
    (hq : w.heap[q]? = some (.cells V.toArray 52 (0, 0))) (hV : V.length = 2) (hne : q ≠ g) (h1v : ∀ u ∈ V, u.oneCell' = true) (h1x : ∀ u ∈ X, u.oneCell' = true) (hn : n ≤ 1000) (hi : i < n) (hr : n + 1 ≤ c) :
    Calls Try.prog 38 #[.slice (some ⟨g, 0, none⟩) n c, .int .i64 i, .slice (some ⟨q, 0, none⟩) 1 1] w fun e w' => ∃ A' C', e = .returned (.slice A' (n + 1) C') ∧ w'.ownsRow B 52 2 (.slice A' (n + 1) C') (n + 1) (X.take (i * 2) ++ (V ++ X.drop (i * 2))) ∧ Below B w0 w' := by
  have hov : ∀ lb cb, (callFunc 61 #[.slice (some ⟨q, 0, none⟩) 1 1, .slice (some ⟨g, (i + 1) * 2, none⟩) lb cb]).run Try.prog w = .ok (.value (.bool false)) w := fun lb cb => overlaps_no w q g 1 1 lb cb _ _ _ _ _ _ hne hq hg (by rw [List.size_toArray, hL]; omega)
  have hXl : X.length = n * 2 := by rw [← hX, List.length_take]; omega
  have hdl : (X.drop (i * 2)).length = (n - i) * 2 := by rw [List.length_drop]; omega
  have hread : ∀ j v, (X.drop (i * 2))[j]? = some v → w.cell? ((⟨g, i * 2, none⟩ : Addr).add j) = some v := fun j v hv => by
    have e1 : (⟨g, i * 2, none⟩ : Addr).add j = ⟨g, i * 2 + j, none⟩ := by unfold Addr.add; split <;> simp_all
    rw [List.getElem?_drop, ← hX, List.getElem?_take] at hv
    rw [e1, cell_at hg]
    split at hv
    · exact hv
    · cases hv
  have hreadV : ∀ (w' : World), w'.heap[q]? = w.heap[q]? → ∀ j v, V[j]? = some v → w'.cell? ((⟨q, 0, none⟩ : Addr).add j) = some v := fun w' hw j v hv => by
    have e1 : (⟨q, 0, none⟩ : Addr).add j = ⟨q, 0 + j, none⟩ := by unfold Addr.add; split <;> simp_all
    rw [e1, Nat.zero_add, cell_at (hw.trans hq)]
    exact hv
  have HG := mkHid (show w.drew.heap[g]? = some (.cells L.toArray 52 (0, 0)) from hg)
  have HB := mkHid hb.drew
  have HR := mkHid (show ∀ j v, (X.drop (i * 2))[j]? = some v → w.drew.cell? ((⟨g, i * 2, none⟩ : Addr).add j) = some v from hread)
  have HV := mkHid hreadV
  have HEND := mkHid (ends_pair X V (n := n) (i := i) L (by omega) hX (by omega) hV)
  have HSL := mkHid (show (splice L ((i + 1) * 2) (X.drop (i * 2))).length = L.length from length_splice _ _ _ (by omega))
  have HSL2 := mkHid (show (splice (splice L ((i + 1) * 2) (X.drop (i * 2))) (i * 2) V).length = c * 2 by rw [length_splice _ _ _ (by rw [HSL.out]; omega), HSL.out, hL])
  have hx1 : ∀ u ∈ X.drop (i * 2), u.oneCell' = true := fun u hu => h1x u (List.mem_of_mem_drop hu)
  have hz1 : ((i : Int) == (n : Int)) = false := by simp; omega
  have e1 : IntKind.i64.wrap ((n : Int) + 1) = (n : Int) + 1 := IntWalk.i64_in _ (by omega)
  have e2 : IntKind.i64.wrap ((i : Int) + 1) = (i : Int) + 1 := IntWalk.i64_in _ (by omega)
  have e3 : ¬ (c : Int) < (n : Int) + 1 := by omega
  have hc1 : ¬ (c = i) := by omega
  have hc2 : ¬ (c = i + 1) := by omega
  have hc3 : i ≤ n := by omega
  have hc4 : n ≤ c := by omega
  have hc5 : (i : Int) ≤ (n : Int) := by omega
  have hc6 : (n : Int) + 1 ≤ (c : Int) := by omega
  have hc7 : (i : Int) ≤ (n : Int) + 1 := by omega
  have hc8 : (0 : Int) ≤ (n : Int) + 1 := by omega
  have hc9 : (0 : Int) ≤ (i : Int) + 1 := by omega
  have hc10 : (i : Int) + 1 ≤ (n : Int) + 1 := by omega
  clear hg hb hread hreadV hX
  go_enter Try.func38, Try.ntmps38
  go_wp2_with (simp only [hov])
  go_region_law (refine step_copyS rfl (.tmp 73) (.tmp 76) _ _ rfl 52 2 Try.underlying49 sz_pair (some ⟨g, (i + 1) * 2, none⟩) (some ⟨g, i * 2, none⟩) (n - i) (c - (i + 1)) (n + 1 - i) (c - i) (by simp [Act.eval, Act.put]) (by simp [Act.eval, Act.put]) g ((i + 1) * 2) L _ HG.out (X.drop (i * 2)) (by rw [hdl]; congr 1; simp only [Nat.min_def]; split <;> omega) (fun _ => ⟨rfl, _, rfl, HR.out⟩) (by omega) hx1 B w0 HB.out hBg ?_; intro w4 HG4 HB4 hk4)
  have hk4q : w4.heap[q]? = w.heap[q]? := hk4 q hne
  have HV4 := mkHid (HV.out w4 hk4q)
  clear hk4 hk4q
  go_wp2_with (refine wpList_copyS rfl (.tmp 80) (.tmp 81) _ _ rfl 52 2 Try.underlying49 sz_pair (some ⟨g, i * 2, none⟩) (some ⟨q, 0, none⟩) (n + 1 - i) (c - i) 1 1 (by simp [Act.eval]) (by simp [Act.eval]) g (i * 2) _ _ HG4.out V (by rw [hV, show Nat.min 1 (n + 1 - i) = 1 from Nat.min_eq_left (by omega)]) (fun _ => ⟨rfl, _, rfl, HV4.out⟩) (by rw [HSL.out]; omega) h1v B w0 HB4.out hBg ?_; intro w5 HG5 HB5 _)

  go_ret
  exact ⟨_, _, rfl, own_of hBg HG5.out hr hcm HSL2.out HEND.out, HB5.out⟩

theorem app3_get (X V D : List Value) (j : Nat) : (X ++ (V ++ D))[j]? = if j < X.length then X[j]? else if j < X.length + V.length then V[j - X.length]? else D[j - X.length - V.length]? := by
  by_cases h1 : j < X.length
  · rw [if_pos h1, List.getElem?_append_left h1]
  · rw [if_neg h1, List.getElem?_append_right (by omega)]
    by_cases h2 : j < X.length + V.length
    · rw [if_pos h2, List.getElem?_append_left (by omega)]
    · rw [if_neg h2, List.getElem?_append_right (by omega)]
theorem ends_grow (X V Z : List Value) {n i : Nat} (hX : X.length = n * 2) (hi : i ≤ n) (hV : V.length = 2) (hZ : (n + 1 - i) * 2 ≤ Z.length) :
    (splice (splice (X.take (i * 2) ++ Z) (i * 2) V) ((i + 1) * 2) (X.drop (i * 2))).take ((n + 1) * 2) = X.take (i * 2) ++ (V ++ X.drop (i * 2)) := by
  have hl : (X.take (i * 2)).length = i * 2 := by rw [List.length_take]; omega
  have hs : (splice (X.take (i * 2) ++ Z) (i * 2) V).length = i * 2 + Z.length := by rw [length_splice _ _ _ (by rw [List.length_append, hl]; omega), List.length_append, hl]
  apply List.ext_getElem?
  intro j
  rw [List.getElem?_take]
  split
  · rw [splice_get _ _ _ _ (by omega), splice_get _ _ _ _ (by rw [List.length_append]; omega), List.length_drop, hV]
    rw [app3_get, hl, hV]
    by_cases h1 : j < i * 2
    · rw [if_pos (by omega), if_pos h1, if_pos h1, List.getElem?_append_left (by omega)]
    · rw [if_neg h1]
      by_cases h2 : j < i * 2 + 2
      · rw [if_pos (by omega), if_pos h2, if_neg h1, if_pos h2]
      · rw [if_neg (by omega), if_pos (by omega), if_neg h1, if_neg h2]
        congr 1
        omega
  · rw [List.getElem?_eq_none]
    rw [List.length_append, List.length_append, List.length_take, List.length_drop, hV]
    omega

set_option maxRecDepth 20000 in
set_option maxHeartbeats 1000000 in
theorem insert_grow (g i n : Nat) (V L : List Value) (q B : Nat) (w0 w : World) (hb : Below B w0 w) (hBw : B ≤ w.heap.size) (hg : w.heap[g]? = some (.cells L.toArray 52 (0, 0))) (hL : L.length = n * 2)
    (hq : w.heap[q]? = some (.cells V.toArray 52 (0, 0))) (hV : V.length = 2) (h1v : ∀ u ∈ V, u.oneCell' = true) (h1x : ∀ u ∈ L, u.oneCell' = true) (hn : n ≤ 200) (hi : i < n) :
    Calls Try.prog 38 #[.slice (some ⟨g, 0, none⟩) n n, .int .i64 i, .slice (some ⟨q, 0, none⟩) 1 1] w fun e w' => ∃ A' C', e = .returned (.slice A' (n + 1) C') ∧ w'.ownsRow B 52 2 (.slice A' (n + 1) C') (n + 1) (L.take (i * 2) ++ (V ++ L.drop (i * 2))) ∧ Below B w0 w' := by
  obtain ⟨ii, z, hi1, hi2, hi3, hi4, hi5⟩ := el_pair.hi
  have hz : (.agg #[.int .i64 0, .int .i64 0] : Value) = z := by
    have h1 : (Try.prog.info? 52).bind (fun i => i.zero) = some (.agg #[.int .i64 0, .int .i64 0]) := by kernel_rfl
    rw [hi1] at h1
    simp only [Option.bind_some] at h1
    rw [hi2] at h1
    injection h1 with h1
    exact h1.symm
  subst hz
  have hrz : ∀ ty, (Builtin.append_ #[49, 3] ty #[.slice (some ⟨g, 0, none⟩) i n, .int .i64 ((n : Int) + 1 - i)]).run Try.prog w =
      .ok (.slice (some ⟨w.heap.size, 0, none⟩) (n + 1) (grownCap w (n + 1) n 52)) (w.drew.alloc (.cells ((L.take (i * 2)).toArray ++ Builtin.zeroCells (Value.agg #[.int .i64 0, .int .i64 0]).cells (n + 1 - i) ++ Builtin.zeroCells (Value.agg #[.int .i64 0, .int .i64 0]).cells (grownCap w (n + 1) n 52 - (n + 1))) 52)) := fun ty => by
    have h := Lib.run_append_grow_zeros (P := Try.prog) w 49 3 ty 52 ii _ .i64 .i64 Try.underlying49 Try.underlying3 hi1 hi2 (some ⟨g, 0, none⟩) i n (L.take (i * 2)) (by
      rw [hi3]
      exact run_firstCells_some w.drew 2 i ⟨g, 0, none⟩ i n (L.take (i * 2)) (by rw [List.length_take]; omega) (fun j v hv => by
        have e1 : (⟨g, 0, none⟩ : Addr).add j = ⟨g, 0 + j, none⟩ := by unfold Addr.add; split <;> simp_all
        rw [e1, Nat.zero_add]
        show w.cell? _ = _
        rw [cell_at hg]
        rw [List.getElem?_take] at hv
        split at hv
        · exact hv
        · cases hv)) (n + 1 - i) (by omega) (by omega) (by omega) (by omega) (by rw [hi4]; omega) (by rw [hi4]; unfold Builtin.nextslicecap; rw [if_neg (by omega), if_pos (by omega)]; omega)
    rw [show i + (n + 1 - i) = n + 1 by omega, show ((n + 1 - i : Nat) : Int) = (n : Int) + 1 - i by omega] at h
    exact h
  have hG1 := grownCap_ge w (n + 1) n 52
  have hG2 := grownCap_le_maxLen w (n + 1) n 52 (by unfold maxLen; omega)
  generalize grownCap w (n + 1) n 52 = G at *
  obtain ⟨Z, hZ, hrow⟩ : ∃ Z : List Value, Z.length = (G - i) * 2 ∧ (L.take (i * 2)).toArray ++ Builtin.zeroCells (Value.agg #[.int .i64 0, .int .i64 0]).cells (n + 1 - i) ++ Builtin.zeroCells (Value.agg #[.int .i64 0, .int .i64 0]).cells (G - (n + 1)) = (L.take (i * 2) ++ Z).toArray :=
    ⟨(Builtin.zeroCells (Value.agg #[.int .i64 0, .int .i64 0]).cells (n + 1 - i)).toList ++ (Builtin.zeroCells (Value.agg #[.int .i64 0, .int .i64 0]).cells (G - (n + 1))).toList, by simp [Builtin.zeroCells, Value.cells]; omega, by simp⟩
  rw [hrow] at hrz
  have hgl : g < w.heap.size := (Array.getElem?_eq_some_iff.1 hg).1
  have hql : q < w.heap.size := (Array.getElem?_eq_some_iff.1 hq).1
  obtain ⟨W1, hW1⟩ : ∃ W1, w.drew.alloc (.cells (L.take (i * 2) ++ Z).toArray 52) = W1 := ⟨_, rfl⟩
  rw [hW1] at hrz
  have hG : W1.heap[w.heap.size]? = some (.cells (L.take (i * 2) ++ Z).toArray 52 (0, 0)) := by rw [← hW1]; exact heap_alloc_new w.drew _
  have hB1 : Below B w0 W1 := by rw [← hW1]; exact hb.drew.alloc hBw _
  have hg1 : W1.heap[g]? = some (.cells L.toArray 52 (0, 0)) := by rw [← hW1]; exact (Below.heap_alloc w.drew _ _ hgl).trans hg
  have hq1 : W1.heap[q]? = some (.cells V.toArray 52 (0, 0)) := by rw [← hW1]; exact (Below.heap_alloc w.drew _ _ hql).trans hq
  have HG := mkHid hG
  have HB := mkHid hB1
  have HG1 := mkHid hg1
  have HV := mkHid (show ∀ j v, V[j]? = some v → W1.cell? ((⟨q, 0, none⟩ : Addr).add j) = some v from fun j v hv => by
    have e1 : (⟨q, 0, none⟩ : Addr).add j = ⟨q, 0 + j, none⟩ := by unfold Addr.add; split <;> simp_all
    rw [e1, Nat.zero_add, cell_at hq1]
    exact hv)
  have HEND := mkHid (ends_grow L V Z (n := n) (i := i) hL (by omega) hV (by omega))
  have HSL := mkHid (show (splice (L.take (i * 2) ++ Z) (i * 2) V).length = G * 2 by rw [length_splice _ _ _ (by rw [List.length_append, List.length_take]; omega), List.length_append, List.length_take]; omega)
  have HSL2 := mkHid (show (splice (splice (L.take (i * 2) ++ Z) (i * 2) V) ((i + 1) * 2) (L.drop (i * 2))).length = G * 2 by rw [length_splice _ _ _ (by rw [HSL.out, List.length_drop]; omega), HSL.out])
  have hLZ : (L.take (i * 2) ++ Z).length = G * 2 := by rw [List.length_append, List.length_take]; omega
  have hdl : (L.drop (i * 2)).length = (n - i) * 2 := by rw [List.length_drop]; omega
  have hx1 : ∀ u ∈ L.drop (i * 2), u.oneCell' = true := fun u hu => h1x u (List.mem_of_mem_drop hu)
  have hz1 : ((i : Int) == (n : Int)) = false := by simp; omega
  have e1 : IntKind.i64.wrap ((n : Int) + 1) = (n : Int) + 1 := IntWalk.i64_in _ (by omega)
  have e2 : IntKind.i64.wrap ((i : Int) + 1) = (i : Int) + 1 := IntWalk.i64_in _ (by omega)
  have e3 : IntKind.i64.wrap ((n : Int) + 1 - i) = (n : Int) + 1 - i := IntWalk.i64_in _ (by omega)
  have hc1 : ¬ (n = i) := by omega
  have hc2 : ¬ (G = i + 1) := by omega
  have hc2' : ¬ (G = i) := by omega
  have hc3 : i ≤ n := by omega
  have hc5 : (i : Int) ≤ (n : Int) := by omega
  have hc7 : (i : Int) ≤ (n : Int) + 1 := by omega
  have hc9 : (0 : Int) ≤ (i : Int) + 1 := by omega
  have hc10 : (i : Int) + 1 ≤ (n : Int) + 1 := by omega
  have hgw : g ≠ w.heap.size := by omega
  clear hg hb hq hG hB1 hg1 hq1 hrow hW1
  go_enter Try.func38, Try.ntmps38
  go_wp2_with (first
    | (at_builtin; refine Lib.wpList_append_run _ rfl _ _ _ _ rfl _ _ rfl rfl _ _ (hrz _) ?_)
    | (refine wpList_copyS rfl (.tmp 43) (.tmp 44) _ _ rfl 52 2 Try.underlying49 sz_pair (some ⟨w.heap.size, i * 2, none⟩) (some ⟨q, 0, none⟩) (n + 1 - i) (G - i) 1 1 (by simp [Act.eval]) (by simp [Act.eval]) w.heap.size (i * 2) _ _ HG.out V (by rw [hV, show Nat.min 1 (n + 1 - i) = 1 from Nat.min_eq_left (by omega)]) (fun _ => ⟨rfl, _, rfl, HV.out⟩) (by rw [hLZ]; omega) h1v B w0 HB.out hBw ?_; intro w4 HG4 HB4 hk4; have HK4 := mkHid (show w4.heap[g]? = some (.cells L.toArray 52 (0, 0)) from (hk4 g hgw).trans HG1.out); clear hk4))

  have HG4' := mkHid (show w4.drew.heap[w.heap.size]? = some (.cells (splice (L.take (i * 2) ++ Z) (i * 2) V).toArray 52 (0, 0)) from HG4.out)
  have HB4' := mkHid HB4.out.drew
  have HR4 := mkHid (show ∀ j v, (L.drop (i * 2))[j]? = some v → w4.drew.cell? ((⟨g, i * 2, none⟩ : Addr).add j) = some v from fun j v hv => by
    have e1 : (⟨g, i * 2, none⟩ : Addr).add j = ⟨g, i * 2 + j, none⟩ := by unfold Addr.add; split <;> simp_all
    rw [List.getElem?_drop] at hv
    rw [e1]
    show w4.cell? _ = _
    rw [cell_at HK4.out]
    exact hv)
  go_region_law (refine step_copyS rfl (.tmp 50) (.tmp 53) _ _ rfl 52 2 Try.underlying49 sz_pair (some ⟨w.heap.size, (i + 1) * 2, none⟩) (some ⟨g, i * 2, none⟩) (n - i) (G - (i + 1)) (n - i) (n - i) (by simp [Act.eval, Act.put]) (by simp [Act.eval, Act.put]) w.heap.size ((i + 1) * 2) _ _ HG4'.out (L.drop (i * 2)) (by rw [hdl]; congr 1; simp only [Nat.min_def]; split <;> omega) (fun _ => ⟨rfl, _, rfl, HR4.out⟩) (by rw [HSL.out, hdl]; omega) hx1 B w0 HB4'.out hBw ?_; intro w5 HG5 HB5 _)
  go_wp2_with fail
  go_ret
  exact ⟨_, _, rfl, own_of hBw HG5.out hG1 hG2 HSL2.out HEND.out, HB5.out⟩

end Go.Proofs.Ytilepjkdfbhgcaa
