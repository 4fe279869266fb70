/- Rosters by contract: with for whatever change, turn, Grow, Cancel, Remove. -/
import Derived.Test.YtlpgeocoddehgaaRosA
import Derived.Deep.RegionLaw
import Derived.Deep.RegionHeld3
namespace Go.Proofs.Ytlpgeocoddehgaa
open Go.RowKit Go.Shelf

/-- A roster and an error are answered; what was there is as it was. -/
def RetR (w : World) (r : Int × List (Int × Int)) (e : Ending) (w' : World) : Prop :=
  ∃ A c, e = .returned (.tuple #[.agg #[.slice A r.2.length c], errV r.1]) ∧ ES w' w'.heap.size A r.2.length r.2 ∧ CapOk r.2.length c ∧ Below w.heap.size w w'
theorem RetR.no {w w' : World} {c : Int} (h : Below w.heap.size w w') : RetR w (c, []) (.returned (.tuple #[.agg #[.slice none 0 0], errV c])) w' :=
  ⟨none, 0, rfl, ES.nil, ⟨by simp, by unfold maxLen; omega, by simp⟩, h⟩

theorem flat_set : ∀ (xs : List (Int × Int)) (k : Nat) (y : Int × Int), (xs.set k y).flatMap enC = ((xs.flatMap enC).set (k * 2) (.int .i64 y.1)).set (k * 2 + 1) (.int .i64 y.2)
  | [], k, y => by simp
  | x :: xs, 0, y => by simp [enC]
  | x :: xs, k + 1, y => by
    rw [List.set_cons_succ, List.flatMap_cons, flat_set xs k y, List.flatMap_cons, show (k + 1) * 2 = k * 2 + 1 + 1 by omega]
    simp [enC]

/-- What a change does to an entry: the error's number, and the entry behind it. -/
abbrev Chg := Int × Int → Int × (Int × Int)
def withOf (xs : List (Int × Int)) (d : Int) (f : Chg) : Int × List (Int × Int) :=
  if rightL xs = false then (14, []) else if d < 0 ∨ (xs.length : Int) ≤ d then (23, []) else
    if (f (xs[d.toNat]?.getD (0, 0))).1 = 0 then (0, xs.set d.toNat (f (xs[d.toNat]?.getD (0, 0))).2) else ((f (xs[d.toNat]?.getD (0, 0))).1, [])
def growF (size : Int) : Chg := fun x => if memberB x = false then (30, x) else if size ≤ x.2 ∨ 4096 < size then (20, x) else (0, (x.1, size))
def turnF (s t : Int) : Chg := fun x => if x.1 = s then (0, (t, x.2)) else (30, x)

/-- What is asked of a change. -/
def PredC (g : Nat) (fst caps : Array Value) (f : Chg) (w : World) : Prop :=
  ∀ (W : World) (x : Int × Int) (r k : Nat) (cur : Array Value), EnOk x → Below w.heap.size w W → w.heap.size ≤ r → W.heap[r]? = some (.cells cur 46 (0, 0)) → cur[k * 2]? = some (.int .i64 x.1) → cur[k * 2 + 1]? = some (.int .i64 x.2) →
    Calls Try.prog g (fst.push (.pointer (some ⟨r, k * 2, none⟩)) ++ caps) W fun e w' => e = .returned (errV (f x).1) ∧ W.grownBy w' (some r) ∧
      ((f x).1 = 0 → w'.heap[r]? = some (.cells ((cur.setIfInBounds (k * 2) (.int .i64 (f x).2.1)).setIfInBounds (k * 2 + 1) (.int .i64 (f x).2.2)) 46 (0, 0)))

theorem ES.of_cur {w : World} {r n : Nat} {cur : Array Value} {t : TypeId} {fr : Nat × Nat} {xs : List (Int × Int)} (hg : w.heap[r]? = some (.cells cur t fr)) (hl : cur.toList.take (n * 2) = xs.flatMap enC) (hlen : xs.length = n) (ho : ∀ x ∈ xs, EnOk x) : ES w w.heap.size (some ⟨r, 0, none⟩) n xs := by
  have hfl : (xs.flatMap enC).length = n * 2 := by rw [flat_len enC 2 (fun _ => rfl), hlen]
  refine ⟨⟨hfl, fun j hj => ⟨r, 0, rfl, (Array.getElem?_eq_some_iff.1 hg).1, ?_⟩⟩, ho⟩
  rw [cell_of_row _ _ _ _ _ _ hg, Nat.zero_add, ← Array.getElem?_toList]
  have h1 : (cur.toList.take (n * 2))[j]? = cur.toList[j]? := by rw [List.getElem?_take, if_pos hj]
  rw [← h1, hl, List.getElem?_eq_getElem (by omega)]
  rfl

/-- The two blocks that a method lays first. -/
theorem first2 {w w1 : World} {o1 o2 : Obj} (h : Below ((w.alloc o1).alloc o2).heap.size ((w.alloc o1).alloc o2) w1) : w1.heap[w.heap.size]? = some o1 ∧ w1.heap[w.heap.size + 1]? = some o2 := by
  have e2 := heap_alloc_new (w.alloc o1) o2
  have e1 := (Below.heap_alloc (w.alloc o1) o2 w.heap.size (by simp)).trans (heap_alloc_new w o1)
  rw [show (w.alloc o1).heap.size = w.heap.size + 1 by simp] at e2
  exact ⟨(h.block _ (by simp; omega)).trans e1, (h.block _ (by simp)).trans e2⟩

set_option maxRecDepth 20000 in
set_option maxHeartbeats 2000000 in
theorem with_any (g : Nat) (fst caps : Array Value) (f : Chg) (eg : ∀ args w, (callFunc g args).run Try.prog w = .ok (.enter g args) w) (a : Option Addr) (n c : Nat) (xs : List (Int × Int)) (d : Int) (w : World) (hs : ES w w.heap.size a n xs) (hc : CapOk n c) (hd : I64 d) (hp : PredC g fst caps f w) (hf : ∀ x, EnOk x → (f x).1 = 0 → EnOk (f x).2) :
    Calls Try.prog 38 #[.agg #[.slice a n c], .int .i64 d, .func (.func g) fst caps] w (RetR w (withOf xs d f)) := by
  obtain ⟨hd0, hd1⟩ := hd
  have hl := hs.len
  obtain ⟨hc1, hc2, hc3⟩ := id hc
  have HAL := mkHid (show Below w.heap.size w ((w.alloc (.cells #[.slice a n c] 27)).alloc (.cells #[.slice none 0 0] 27)) from ((Below.refl _ _).alloc (Nat.le_refl _) _).alloc (by simp) _)
  cases hr : rightL xs with
  | false =>
    have HK := mkHid (check_no a n c xs _ (hs.next HAL.out) hc hr)
    have HV := mkHid (show withOf xs d f = (14, []) by unfold withOf; rw [if_pos hr])
    clear hs hc hp hf hr hl
    go_enter Try.func38, Try.ntmps38
    go_wp2_with fail
    refine HK.out.mono ?_
    rintro e w1 ⟨rfl, hb1⟩
    have HB := mkHid (HAL.out.trans (hb1.mono HAL.out.size))
    obtain ⟨f1, f2⟩ := first2 hb1
    have c2 := cell_of_row w1 (w.heap.size + 1) 0 _ _ _ f2
    have z2 := frozen_of_row w1 (w.heap.size + 1) 0 _ _ f2
    simp at c2
    clear hb1 f1 f2
    go_wp2_with fail
    refine bodyPost_ret (v := .tuple #[.agg #[.slice none 0 0], codeV 14]) (by simp [results, Try.results38, go_sem, c2]) rfl ?_
    rw [HV.out]
    exact RetR.no (HB.out.setCell (by simp) _)
  | true =>
    have HK := mkHid (check_ok a n c xs _ (hs.next HAL.out) hc hr)
    have hn8 : n ≤ 8 := by
      unfold rightL at hr
      rw [Bool.and_eq_true] at hr
      have := of_decide_eq_true hr.1
      omega
    by_cases hout : d < 0 ∨ (n : Int) ≤ d
    · have HV := mkHid (show withOf xs d f = (23, []) by unfold withOf; rw [if_neg (by rw [hr]; decide), if_pos (by rw [hl]; exact hout)])
      clear hs hc hp hf hr hl
      rcases hout with hout | hout
      all_goals
        go_enter Try.func38, Try.ntmps38
        go_wp2_with fail
        refine HK.out.mono ?_
        rintro e w1 ⟨rfl, hb1⟩
        have HB := mkHid (HAL.out.trans (hb1.mono HAL.out.size))
        obtain ⟨f1, f2⟩ := first2 hb1
        have c1 := cell_of_row w1 w.heap.size 0 _ _ _ f1
        have c2 := cell_of_row w1 (w.heap.size + 1) 0 _ _ _ f2
        have z2 := frozen_of_row w1 (w.heap.size + 1) 0 _ _ f2
        simp at c1 c2
        clear hb1 f1 f2
        go_wp2_with fail
        refine bodyPost_ret (v := .tuple #[.agg #[.slice none 0 0], codeV 23]) (by simp [results, Try.results38, go_sem, c2]) rfl ?_
        rw [HV.out]
        exact RetR.no (HB.out.setCell (by simp) _)
    · have hd2 : 0 ≤ d := by omega
      have hd3 : d < n := by omega
      obtain ⟨k, rfl⟩ := Int.eq_ofNat_of_zero_le hd2
      have hk : k < n := by omega
      clear hout
      have HS := mkHid hs
      have HP := mkHid hp
      have HF := mkHid hf
      have HC := mkHid hc
      have HL := mkHid hl
      obtain ⟨x, hx⟩ : ∃ x, xs[k]? = some x := ⟨_, List.getElem?_eq_getElem (by omega)⟩
      have hxo := hs.2 x (List.mem_of_getElem? hx)
      have HV := mkHid (show withOf xs k f = if (f x).1 = 0 then (0, xs.set k (f x).2) else ((f x).1, []) by unfold withOf; rw [if_neg (by rw [hr]; decide), if_neg (by omega), Int.toNat_natCast, hx]; rfl)
      have HX := mkHid hx
      clear hs hc hp hf hr hl hx
      go_enter Try.func38, Try.ntmps38
      go_wp2_with fail
      refine HK.out.mono ?_
      rintro e w1 ⟨rfl, hb1⟩
      have HB := mkHid (HAL.out.trans (hb1.mono HAL.out.size))
      have HB1 := mkHid hb1
      obtain ⟨f1, f2⟩ := first2 hb1
      have c1 := cell_of_row w1 w.heap.size 0 _ _ _ f1
      simp at c1
      have HF2 := mkHid f2
      clear hb1 f1 f2
      go_wp2_with fail
      refine (cloneE_any a n c xs w1 (HS.out.next HB.out) (by omega)).mono ?_
      rintro e w2 ⟨A2, C2, rfl, ho2, hb2⟩
      rw [HL.out] at ho2 ⊢
      obtain ⟨r, cap, hv, hrb, hrlt⟩ := ho2.form (by omega)
      injection hv with hv1 hv2 hv3
      subst hv1 hv3
      have hcap := own_cap ho2
      obtain ⟨hcap1, hcap2⟩ := hcap
      obtain ⟨cur, hcur, hcl⟩ : ∃ cur, w2.heap[r]? = some (.cells cur 46 (0, 0)) ∧ cur.toList.take (n * 2) = xs.flatMap enC := by
        rcases ho2.2 with ⟨h1, _⟩ | ⟨g', cap', cur', hv, _, h3, _, _, _, h4⟩
        · cases h1
        · injection hv with hv
          injection hv with hv
          injection hv with hv
          subst hv
          exact ⟨cur', h3, h4⟩
      have hcg : ∀ i, i < 2 → cur[k * 2 + i]? = (enC x)[i]? := fun i hi => by
        have h1 := flat_get enC 2 (fun _ => rfl) xs k i hi
        rw [HX.out, ← hcl, List.getElem?_take, if_pos (by omega), Array.getElem?_toList] at h1
        exact h1
      have HB2 := mkHid (HB.out.trans (hb2.mono HB.out.size))
      have hPC := HP.out w2 x r k cur hxo HB2.out (by have := HB.out.size; omega) hcur (hcg 0 (by omega)) (hcg 1 (by omega))
      have f2 := (hb2.block (w.heap.size + 1) (by have := HB1.out.size; simp at this; omega)).trans HF2.out
      have hne : w.heap.size + 1 ≠ r := by have := HB1.out.size; simp at this; omega
      have HCL := mkHid hcl
      have HF3 := mkHid f2
      have hrw : w.heap.size ≤ r := by have := HB.out.size; omega
      clear hcl hcg hb2 ho2 f2 hcur
      by_cases hf0 : (f x).1 = 0
      · rw [if_pos hf0] at HV
        have HF0 := mkHid hf0
        clear hf0
        go_wp2_with fail
        refine hPC.mono ?_
        rintro e w3 ⟨rfl, hg3, hcur3⟩
        rw [HF0.out, errV_no]
        have hcur3 := hcur3 HF0.out
        have f2 := (hg3.block (w.heap.size + 1) (by have := (Array.getElem?_eq_some_iff.1 HF3.out).1; omega) (by intro e; injection e with e; exact hne e)).trans HF3.out
        have c2 := cell_of_row w3 (w.heap.size + 1) 0 _ _ _ f2
        have z2 := frozen_of_row w3 (w.heap.size + 1) 0 _ _ f2
        simp at c2
        have HG3 := mkHid hg3
        have HCUR3 := mkHid hcur3
        clear hg3 hcur3 f2 hPC
        go_wp2_with fail
        refine bodyPost_ret (v := .tuple #[.agg #[.slice (some ⟨r, 0, none⟩) n C2], .nilIface]) (by simp [results, Try.results38, go_sem, c2]) rfl ?_
        rw [HV.out]
        have hlen : (xs.set k (f x).2).length = n := by rw [List.length_set]; exact HL.out
        refine ⟨some ⟨r, 0, none⟩, C2, ?_, ?_, ⟨by simp only [hlen]; exact hcap1, hcap2, by simp only [hlen]; exact hc3⟩, (HB2.out.grown HG3.out HB2.out.size fun q hq => by injection hq with hq; omega).setCell (by simp) _⟩
        · simp only [hlen]; rfl
        · simp only [hlen]
          refine ES.of_cur (heap_setCell_other _ _ _ _ (fun e => hne e.symm) |>.trans HCUR3.out) ?_ hlen fun y hy => ?_
          · rw [Array.toList_setIfInBounds, Array.toList_setIfInBounds, List.take_set, List.take_set, HCL.out, flat_set]
          · rcases List.mem_or_eq_of_mem_set hy with hy | rfl
            · exact HS.out.2 y hy
            · exact HF.out x hxo HF0.out
      · rw [if_neg hf0] at HV
        have HF0 := mkHid hf0
        clear hf0
        go_wp2_with fail
        refine hPC.mono ?_
        rintro e w3 ⟨rfl, hg3, _⟩
        rw [errV_of HF0.out]
        have f2 := (hg3.block (w.heap.size + 1) (by have := (Array.getElem?_eq_some_iff.1 HF3.out).1; omega) (by intro e; injection e with e; exact hne e)).trans HF3.out
        have c2 := cell_of_row w3 (w.heap.size + 1) 0 _ _ _ f2
        have z2 := frozen_of_row w3 (w.heap.size + 1) 0 _ _ f2
        simp at c2
        have HG3 := mkHid hg3
        clear hg3 f2 hPC
        go_wp2_with fail
        refine bodyPost_ret (v := .tuple #[.agg #[.slice none 0 0], codeV (f x).1]) (by simp [results, Try.results38, go_sem, c2]) rfl ?_
        rw [HV.out, ← errV_of HF0.out]
        exact RetR.no ((HB2.out.grown HG3.out HB2.out.size fun q hq => by injection hq with hq; omega).setCell (by simp) _)


set_option maxRecDepth 20000 in
theorem turn_any (s t : Int) (w : World) : Calls Try.prog 41 #[.int .i64 s, .int .i64 t] w fun e w' => e = .returned (.func (.func 59) #[] #[.pointer (some ⟨w.heap.size, 0, none⟩), .pointer (some ⟨w.heap.size + 1, 0, none⟩)]) ∧ w' = (w.alloc (.cells #[.int .i64 s] 3)).alloc (.cells #[.int .i64 t] 3) := by
  go_enter Try.func41, Try.ntmps41
  go_wp2_with fail
  go_ret
  exact ⟨rfl, rfl⟩
theorem eg_turn1 : ∀ args w, (callFunc 59 args).run Try.prog w = .ok (.enter 59 args) w := enters_of Try.func59 (by kernel_rfl) rfl
theorem eg_grow1 : ∀ args w, (callFunc 39 args).run Try.prog w = .ok (.enter 39 args) w := enters_of Try.func39 (by kernel_rfl) rfl
theorem set_same {cur : Array Value} {i : Nat} {v : Value} (h : cur[i]? = some v) : cur.setIfInBounds i v = cur := by
  obtain ⟨hi, rfl⟩ := Array.getElem?_eq_some_iff.1 h
  apply Array.ext_getElem?
  intro j
  rw [Array.getElem?_setIfInBounds]
  split
  · rename_i e
    subst e
    exact h.symm
  · rfl

set_option maxRecDepth 20000 in
theorem pred_turn (s t : Int) (b1 b2 : Nat) (w : World) (h1 : w.heap[b1]? = some (.cells #[.int .i64 s] 3 (0, 0))) (h2 : w.heap[b2]? = some (.cells #[.int .i64 t] 3 (0, 0))) :
    PredC 59 #[] #[.pointer (some ⟨b1, 0, none⟩), .pointer (some ⟨b2, 0, none⟩)] (turnF s t) w := fun W x r k cur hx hb hr hcur hc0 hc1 => by
  show Calls Try.prog 59 #[.pointer (some ⟨r, k * 2, none⟩), .pointer (some ⟨b1, 0, none⟩), .pointer (some ⟨b2, 0, none⟩)] W _
  have l1 := (Array.getElem?_eq_some_iff.1 h1).1
  have l2 := (Array.getElem?_eq_some_iff.1 h2).1
  have d1 := cell_of_row W b1 0 _ _ _ ((hb.block b1 l1).trans h1)
  have d2 := cell_of_row W b2 0 _ _ _ ((hb.block b2 l2).trans h2)
  have e0 := (cell_of_row W r (k * 2) _ _ _ hcur).trans hc0
  have z0 := frozen_of_row W r (k * 2) _ _ hcur
  simp at d1 d2
  have HCUR := mkHid hcur
  have HC1 := mkHid hc1
  clear hcur hc0 hc1 h1 h2 hb
  by_cases hs : x.1 = s
  · have HV := mkHid (show turnF s t x = (0, (t, x.2)) from if_pos hs)
    rw [hs] at e0
    clear hs
    go_enter Try.func59, Try.ntmps59
    go_wp2_with fail
    go_quiet (fail)
    go_wp2_with fail
    go_ret
    rw [HV.out]
    refine ⟨rfl, ⟨rfl, rfl, rfl, by simp [World.setCell, World.drewN], fun q _ hne => heap_setCell_other _ _ _ _ fun e => hne (by have e : q = r := e; rw [e])⟩, fun _ => ?_⟩
    rw [heap_setCell_same _ _ _ _ _ _ (show (W.drewN nq).heap[r]? = _ from HCUR.out)]
    rw [set_same (i := k * 2 + 1)]
    rw [Array.getElem?_setIfInBounds_ne (by omega)]
    exact HC1.out
  · have HV := mkHid (show turnF s t x = (30, x) from if_neg hs)
    have g : (x.1 != s) = true := by rw [bne_iff_ne]; exact hs
    clear hs
    go_enter Try.func59, Try.ntmps59
    go_wp2_with fail
    go_quiet (fail)
    go_wp2_with fail
    go_ret
    rw [HV.out]
    exact ⟨rfl, ⟨rfl, rfl, rfl, by simp [World.drewN], fun q _ _ => rfl⟩, fun h => by cases h⟩

end Go.Proofs.Ytlpgeocoddehgaa
