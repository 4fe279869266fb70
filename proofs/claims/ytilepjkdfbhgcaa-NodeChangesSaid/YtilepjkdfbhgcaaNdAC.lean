/- slices.Replace of one pair by none, one or two, by contract. -/
import Derived.Test.YtilepjkdfbhgcaaNdL
import Derived.Test.YtilepjkdfbhgcaaNdH
namespace Go.Proofs.Ytilepjkdfbhgcaa
open Go.RowKit Go.Shelf

/-- The answer of a Replace. -/
def RetR (B : Nat) (w0 : World) (N : Nat) (X : List Value) (e : Ending) (w' : World) : Prop := ∃ A' C', e = .returned (.slice A' N C') ∧ w'.ownsRow B 52 2 (.slice A' N C') N X ∧ Below B w0 w'
theorem own_open {w : World} {B n c : Nat} {e : TypeId} {s : Nat} {A : Option Addr} {X : List Value} (h : w.ownsRow B e s (.slice A n c) n X) (hn : 0 < n) : ∃ g L, A = some ⟨g, 0, none⟩ ∧ B ≤ g ∧ g < w.heap.size ∧ w.heap[g]? = some (.cells (List.toArray L) e (0, 0)) ∧ n ≤ c ∧ c ≤ maxLen ∧ L.length = c * s ∧ L.take (n * s) = X := own_block h hn

set_option maxRecDepth 20000 in
set_option maxHeartbeats 4000000 in
/-- The last pair, by one or two. -/
theorem rep_end (A : Option Addr) (i c m : Nat) (X V : List Value) (q cv B : Nat) (w0 w : World) (hb : Below B w0 w) (hBs : B ≤ w.heap.size) (ho : w.ownsRow B 52 2 (.slice A (i + 1) c) (i + 1) X)
    (hq : SL w (q + 1) 2 (some ⟨q, 0, none⟩) m V) (h1v : ∀ u ∈ V, u.oneCell' = true) (hm1 : 1 ≤ m) (hm2 : m ≤ 2) (hn : i + 1 ≤ 200) :
    Calls Try.prog 45 #[.slice A (i + 1) c, .int .i64 i, .int .i64 ((i : Int) + 1), .slice (some ⟨q, 0, none⟩) m cv] w (RetR B w0 (i + m) (X.take (i * 2) ++ V)) := by
  have HO := mkHid (own_take ho (show i ≤ i + 1 by omega))
  have HQ := mkHid hq
  have HB := mkHid hb
  have hcap := own_cap ho
  obtain ⟨g, L, rfl, _⟩ := own_open ho (by omega)
  have hz1 : ((i : Int) == (i : Int) + 1) = false := by simp; omega
  have hc0 : (i : Int) ≤ (c : Int) := by omega
  have hc1 : (i : Int) + 1 ≤ (c : Int) := by omega
  have hc2 : (i : Int) ≤ (i : Int) + 1 := by omega
  have hc3 : (0 : Int) ≤ (i : Int) + 1 := by omega
  have hc4 : ¬ (c = i) := by omega
  have hc5 : i ≤ i + 1 := by omega
  have hc6 : i ≤ c := by omega
  have hnl : ¬ ((i : Int) + (m : Int) < (i : Int) + 1) := by omega
  clear ho hq hb hcap
  go_enter Try.func45, Try.ntmps45
  go_wp2_with (at_builtin; refine wpList_app _ rfl (.tmp 32) (.tmp 33) _ rfl B el_pair (some ⟨g, 0, none⟩) i c _ rfl HO.out (q + 1) (some ⟨q, 0, none⟩) m cv V rfl HQ.out h1v (by unfold maxLen; omega) (by omega) hBs ?_; intro A' C' w3 ho3 hg3 _; have HO3 := mkHid ho3; have HB3 := mkHid (HB.out.grown hg3 hBs (fun k hk => own_base HO.out k hk)); clear ho3 hg3)
  go_ret
  exact ⟨A', C', rfl, HO3.out, HB3.out⟩

theorem clear_none (w : World) (ty : TypeId) (a : Option Addr) (c : Nat) : (Builtin.clear_ #[49] ty #[.slice a 0 c]).run Try.prog w = .ok (.tuple #[]) w := by
  cases a <;> simp [Builtin.clear_, run_underlying Try.underlying49]
theorem clear_one' (w : World) (ty : TypeId) (r o c : Nat) (hc0 : (w.cell? ⟨r, o, none⟩).isSome = true) (hc1 : (w.cell? ⟨r, o + 1, none⟩).isSome = true) (hf0 : w.frozen? ⟨r, o, none⟩ = false) (hf1 : w.frozen? ⟨r, o + 1, none⟩ = false) :
    (Builtin.clear_ #[49] ty #[.slice (some ⟨r, o, none⟩) 1 c]).run Try.prog w = .ok (.tuple #[]) (w.setCells r o [.int .i64 0, .int .i64 0]) := by
  have hst := run_storeCells_cells (P := Try.prog) r o [.int .i64 0, .int .i64 0] 0 w (fun j hj => by
    have : j = 0 ∨ j = 1 := by simp at hj; omega
    rcases this with rfl | rfl
    · exact hc0
    · exact hc1) (fun j hj => by
    have : j = 0 ∨ j = 1 := by simp at hj; omega
    rcases this with rfl | rfl
    · exact hf0
    · exact hf1) (fun v hv => by simp at hv; rcases hv with rfl | rfl <;> rfl)
  simp only [Nat.add_zero] at hst
  have hz : (Builtin.zeroCells (Value.agg #[.int .i64 0, .int .i64 0]).cells 1).toList = [.int .i64 0, .int .i64 0] := by
    simp [Builtin.zeroCells, Value.cells]
    rfl
  have hzv : ∀ w, (zeroValue 52).run Try.prog w = .ok (.agg #[.int .i64 0, .int .i64 0]) w := fun w => by kernel_rfl
  simp [Builtin.clear_, run_underlying Try.underlying49, hzv, hz, hst]
theorem clear_tail (w : World) (g c T d : Nat) (C : List Value) (a : Option Addr) (k B : Nat) (w0 : World) (hb : Below B w0 w) (hBg : B ≤ g) (hg : w.heap[g]? = some (.cells C.toArray 52 (0, 0))) (hC : C.length = c * 2) (hd : d ≤ 1) (hT : T + d ≤ c) (ha : 0 < d → a = some ⟨g, T * 2, none⟩) :
    ∃ w' C', (∀ ty, (Builtin.clear_ #[49] ty #[.slice a d k]).run Try.prog w = .ok (.tuple #[]) w') ∧ w'.heap[g]? = some (.cells (List.toArray C') 52 (0, 0)) ∧ C'.length = c * 2 ∧ C'.take (T * 2) = C.take (T * 2) ∧ Below B w0 w' := by
  rcases Nat.eq_zero_or_pos d with h0 | h0
  · subst h0
    exact ⟨w, C, fun ty => clear_none w ty a k, hg, hC, rfl, hb⟩
  · obtain rfl : d = 1 := by omega
    obtain rfl := ha (by omega)
    have hc : ∀ j, j < c * 2 → (w.cell? ⟨g, j, none⟩).isSome = true := fun j hj => by
      rw [cell_at hg, List.getElem?_eq_getElem (by omega)]; rfl
    have hB := But.cells [.int .i64 0, .int .i64 0] (T * 2) w (But.refl g w)
    refine ⟨_, (layC C.toArray (T * 2) [.int .i64 0, .int .i64 0]).toList, fun ty => clear_one' w ty g (T * 2) k (hc _ (by omega)) (hc _ (by omega)) (frozen_of_row _ _ _ _ _ hg) (frozen_of_row _ _ _ _ _ hg), heap_cells_same _ _ _ _ hg, by rw [Array.length_toList, layC_size]; exact hC, layC_out _ _ _ _ (Nat.le_refl _), hb.trans ⟨hB.os, hB.tape, hB.output, Nat.le_of_eq hB.size.symm, fun k hk => hB.block k (by omega)⟩⟩
theorem mid_row (L X V : List Value) {i m r c : Nat} (hL : L.length = c * 2) (hX : L.take ((i + 1 + r) * 2) = X) (hc : i + 1 + r ≤ c) (hV : V.length = m * 2) (hm : m ≤ 1) :
    (splice (splice L (i * 2) V) ((i + m) * 2) (X.drop ((i + 1) * 2))).take ((i + m + r) * 2) = X.take (i * 2) ++ (V ++ X.drop ((i + 1) * 2)) := by
  have hXl : X.length = (i + 1 + r) * 2 := by rw [← hX, List.length_take]; omega
  have hs : (splice L (i * 2) V).length = L.length := length_splice _ _ _ (by omega)
  apply List.ext_getElem?
  intro j
  rw [List.getElem?_take, app3_get]
  have hXt : (X.take (i * 2)).length = i * 2 := by rw [List.length_take]; omega
  rw [hXt, hV]
  split
  · rw [splice_get _ _ _ _ (by omega), splice_get _ _ _ _ (by omega), List.length_drop, hV]
    by_cases h1 : j < i * 2
    · rw [if_pos (by omega), if_pos h1, if_pos h1, List.getElem?_take, if_pos h1, ← hX, List.getElem?_take, if_pos (by omega)]
    · rw [if_neg h1]
      by_cases h2 : j < i * 2 + m * 2
      · rw [if_pos (by omega), if_pos h2, if_neg h1, if_pos h2]
      · rw [if_neg (by omega), if_pos (by omega), if_neg h1, if_neg h2]
        congr 1
        omega
  · rw [if_neg (by omega), if_neg (by omega), List.getElem?_eq_none]
    rw [List.length_drop]
    omega

set_option maxRecDepth 20000 in
set_option maxHeartbeats 4000000 in
/-- A pair that is not the last one, by none or one. -/
theorem rep_mid (g i r m c : Nat) (X V L : List Value) (av : Option Addr) (cv B Bv : Nat) (w0 w : World) (hb : Below B w0 w) (hBg : B ≤ g) (hg : w.heap[g]? = some (.cells L.toArray 52 (0, 0))) (hL : L.length = c * 2) (hX : L.take ((i + 1 + r) * 2) = X) (hcm : c ≤ maxLen)
    (hq : SL w Bv 2 av m V) (h1v : ∀ u ∈ V, u.oneCell' = true) (h1x : ∀ u ∈ X, u.oneCell' = true) (hm : m ≤ 1) (hr : 1 ≤ r) (hn : i + 1 + r ≤ 200) (hc : i + 1 + r ≤ c) :
    Calls Try.prog 45 #[.slice (some ⟨g, 0, none⟩) (i + 1 + r) c, .int .i64 i, .int .i64 ((i : Int) + 1), .slice av m cv] w (RetR B w0 (i + m + r) (X.take (i * 2) ++ (V ++ X.drop ((i + 1) * 2)))) := by
  have hz1 : ((i : Int) == (i : Int) + 1) = false := by simp; omega
  have hz2 : ((i : Int) + 1 == (i : Int) + 1 + (r : Int)) = false := by simp; omega
  have e1 : IntKind.i64.wrap ((i : Int) + (m : Int)) = (i : Int) + (m : Int) := IntWalk.i64_in _ (by omega)
  have e2 : IntKind.i64.wrap ((i : Int) + (m : Int) + (r : Int)) = (i : Int) + (m : Int) + (r : Int) := IntWalk.i64_in _ (by omega)
  have hc0 : (i : Int) ≤ (c : Int) := by omega
  have hc1 : (i : Int) + 1 ≤ (c : Int) := by omega
  have hc2 : (i : Int) ≤ (i : Int) + 1 := by omega
  have hc3 : (0 : Int) ≤ (i : Int) + 1 := by omega
  have hc4 : ¬ (c = i) := by omega
  have hc5 : i ≤ i + 1 := by omega
  have hc6 : i ≤ c := by omega
  have hc7 : ¬ (c = i + 1) := by omega
  have hc8 : (i : Int) + 1 ≤ (i : Int) + 1 + (r : Int) := by omega
  have hc9 : ¬ ((c : Int) < (i : Int) + (m : Int) + (r : Int)) := by omega
  have hc10 : (i : Int) + (m : Int) ≤ (i : Int) + 1 := by omega
  have hc11 : (0 : Int) ≤ (i : Int) + (m : Int) + (r : Int) := by omega
  have hc12 : (i : Int) + (m : Int) + (r : Int) ≤ (c : Int) := by omega
  have hc13 : (i : Int) ≤ (i : Int) + (m : Int) + (r : Int) := by omega
  go_enter Try.func45, Try.ntmps45
  go_wp2_with fail
  go_quiet (fail)
  rename_i nq
  have hXl : X.length = (i + 1 + r) * 2 := by rw [← hX, List.length_take]; omega
  have hVl : V.length = m * 2 := hq.1
  have hdl : (X.drop ((i + 1) * 2)).length = r * 2 := by rw [List.length_drop]; omega
  have HG := mkHid (show (w.drewN nq).heap[g]? = some (.cells L.toArray 52 (0, 0)) from hg)
  have HB := mkHid (below_drewN hb nq)
  have HV := mkHid (show 0 < m → ∃ ad, av = some ad ∧ ∀ j v, V[j]? = some v → (w.drewN nq).cell? (ad.add j) = some v from fun h0 => hq.news (by omega))
  have HEND := mkHid (mid_row L X V hL hX hc hVl hm)
  have HSL := mkHid (show (splice L (i * 2) V).length = c * 2 from by rw [length_splice _ _ _ (by omega), hL])
  have HSL2 := mkHid (show (splice (splice L (i * 2) V) ((i + m) * 2) (X.drop ((i + 1) * 2))).length = c * 2 by rw [length_splice _ _ _ (by rw [HSL.out]; omega), HSL.out])
  have HRD := mkHid (show ∀ j v, (X.drop ((i + 1) * 2))[j]? = some v → (splice L (i * 2) V)[(i + 1) * 2 + j]? = some v from fun j v hv => by
    rw [splice_get _ _ _ _ (by omega), if_neg (by omega), if_neg (by omega)]
    rw [List.getElem?_drop, ← hX, List.getElem?_take] at hv
    split at hv
    · exact hv
    · cases hv)
  have hx1 : ∀ u ∈ X.drop ((i + 1) * 2), u.oneCell' = true := fun u hu => h1x u (List.mem_of_mem_drop hu)
  have hmn : m ≤ i + m + r - i := by omega
  have hd1 : ¬ (c = i + m) := by omega
  clear hg hb hq hX
  go_wp2_with (refine wpList_copyS rfl (.tmp 95) (.tmp 96) _ _ rfl 52 2 Try.underlying49 sz_pair (some ⟨g, i * 2, none⟩) av (i + m + r - i) (c - i) m cv (by simp [Act.eval]) (by simp [Act.eval]) g (i * 2) _ _ HG.out V (by rw [hVl]; congr 1; exact (Nat.min_eq_left hmn).symm) (fun h0 => ⟨rfl, HV.out (Nat.lt_of_lt_of_le h0 (Nat.min_le_left _ _))⟩) (by omega) h1v B w0 HB.out hBg ?_; intro w4 HG4 HB4 _)
  have HG4' := mkHid (show w4.drew.heap[g]? = some (.cells (splice L (i * 2) V).toArray 52 (0, 0)) from HG4.out)
  have HB4' := mkHid HB4.out.drew
  have HR4 := mkHid (show ∀ j v, (X.drop ((i + 1) * 2))[j]? = some v → w4.drew.cell? ((⟨g, (i + 1) * 2, none⟩ : Addr).add j) = some v from fun j v hv => by
    have e1 : (⟨g, (i + 1) * 2, none⟩ : Addr).add j = ⟨g, (i + 1) * 2 + j, none⟩ := by unfold Addr.add; split <;> simp_all
    rw [e1]
    show w4.cell? _ = _
    rw [cell_at HG4.out]
    exact HRD.out j v hv)
  have hd2 : (i : Int) + (m : Int) ≤ (i : Int) + (m : Int) + (r : Int) := by omega
  have hd3 : i + 1 ≤ i + 1 + r := by omega
  have hd4 : (0 : Int) ≤ (i : Int) + (m : Int) := by omega
  have hd5 : ((i : Int) + (m : Int)).toNat = i + m := by omega
  go_region_law (refine step_copyS rfl (.tmp 103) (.tmp 106) _ _ rfl 52 2 Try.underlying49 sz_pair (some ⟨g, (i + m) * 2, none⟩) (some ⟨g, (i + 1) * 2, none⟩) r (c - (i + m)) r (c - (i + 1)) (by simp [Act.eval, Act.put]) (by simp [Act.eval, Act.put]) g ((i + m) * 2) _ _ HG4'.out (X.drop ((i + 1) * 2)) (by rw [hdl]; congr 1; exact (Nat.min_eq_left (Nat.le_refl _)).symm) (fun _ => ⟨rfl, _, rfl, HR4.out⟩) (by rw [HSL.out, hdl]; omega) hx1 B w0 HB4'.out hBg ?_; intro w5 HG5 HB5 _)
  have hd6 : ((i : Int) + (m : Int) + (r : Int)).toNat = i + m + r := by omega
  have hd7 : (i : Int) + (m : Int) + (r : Int) ≤ (i : Int) + 1 + (r : Int) := by omega
  by_cases hcT : c = i + m + r
  · obtain ⟨w6, C6, hclr, hg6, hC6, hT6, hb6⟩ := clear_tail w5 g c (i + m + r) (i + 1 + r - (i + m + r)) _ (some ⟨g, 0, none⟩) 0 B w0 HB5.out hBg HG5.out HSL2.out (by omega) (by omega) (by omega)
    have HR := mkHid (own_of (e := 52) hBg hg6 (show i + m + r ≤ c by omega) hcm hC6 (hT6.trans HEND.out))
    have HB6 := mkHid hb6
    clear hg6 hC6 hT6 hb6
    go_wp2_with fail
    go_ret
    exact ⟨_, _, rfl, HR.out, HB6.out⟩
  · obtain ⟨w6, C6, hclr, hg6, hC6, hT6, hb6⟩ := clear_tail w5 g c (i + m + r) (i + 1 + r - (i + m + r)) _ (some ⟨g, (i + m + r) * 2, none⟩) (c - (i + m + r)) B w0 HB5.out hBg HG5.out HSL2.out (by omega) (by omega) (fun _ => rfl)
    have HR := mkHid (own_of (e := 52) hBg hg6 (show i + m + r ≤ c by omega) hcm hC6 (hT6.trans HEND.out))
    have HB6 := mkHid hb6
    clear hg6 hC6 hT6 hb6
    go_wp2_with fail
    go_ret
    exact ⟨_, _, rfl, HR.out, HB6.out⟩

end Go.Proofs.Ytilepjkdfbhgcaa
