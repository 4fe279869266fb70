/- The law's own 'is' on whatever error, portageref05's Add, Grow, Turn by contract. -/
import Derived.Test.YtlpgeocoddehgaaRosterBack
namespace Go.Proofs.Ytlpgeocoddehgaa
open Go.RowKit Go.Shelf

theorem is_err (c b : Int) (w : World) : Calls Try.prog 23 #[errV c, .int .i64 b] w fun e w' => e = .returned (.bool (c == b)) ∧ w = w' := by
  by_cases h : c = 0
  · rw [h, errV_no]
    refine (is_nil b w).mono ?_
    rintro e w' ⟨rfl, hw⟩
    refine ⟨ret_bool ?_, hw⟩
    rw [Bool.eq_iff_iff, beq_iff_eq, beq_iff_eq]
    omega
  · rw [errV_of h]
    refine (is_code c b w).mono ?_
    rintro e w' ⟨rfl, hw⟩
    refine ⟨ret_bool ?_, hw⟩
    by_cases hb : b = 0
    · subst hb
      simp [h]
    · simp [hb]

/-- A list and a number are answered; what was there is as it was. -/
def RetL (w : World) (r : Int × List (Int × Int)) (e : Ending) (w' : World) : Prop :=
  ∃ A C, e = .returned (.tuple #[.slice A r.2.length C, .int .i64 r.1]) ∧ ES w' w'.heap.size A r.2.length r.2 ∧ CapOk r.2.length C ∧ Below w.heap.size w w'
theorem RetL.no {w w' : World} {c : Int} (h : Below w.heap.size w w') : RetL w (c, []) (.returned (.tuple #[.slice none 0 0, .int .i64 c])) w' :=
  ⟨none, 0, rfl, ES.nil, ⟨by simp, by unfold maxLen; omega, by simp⟩, h⟩
def raddOf (xs : List (Int × Int)) (size : Int) : Int × List (Int × Int) :=
  if xs.length = 8 then (24, []) else if size < 3 ∨ 4096 < size then (20, []) else (0, xs ++ [(1, size)])
def rgrowOf (xs : List (Int × Int)) (d size : Int) : Int × List (Int × Int) :=
  if d < 0 ∨ (xs.length : Int) ≤ d then (23, []) else if (xs[d.toNat]?.getD (0, 0)).1 = 3 then (30, []) else if size ≤ (xs[d.toNat]?.getD (0, 0)).2 ∨ 4096 < size then (20, []) else (0, xs.set d.toNat ((xs[d.toNat]?.getD (0, 0)).1, size))
def rturnOf (xs : List (Int × Int)) (d s t : Int) : Int × List (Int × Int) :=
  if d < 0 ∨ (xs.length : Int) ≤ d then (23, []) else if (xs[d.toNat]?.getD (0, 0)).1 ≠ s ∨ t = 2 ∧ countOf xs 1 < 2 then (30, []) else (0, xs.set d.toNat (t, (xs[d.toNat]?.getD (0, 0)).2))
theorem radd_eq {xs : List (Int × Int)} (h : rightL xs = true) (size : Int) : addOf xs size = raddOf xs size := by
  unfold addOf raddOf
  rw [if_neg (by rw [h]; decide)]
theorem rgrow_eq {xs : List (Int × Int)} (h : rightL xs = true) (d size : Int) : withOf xs d (growF size) = rgrowOf xs d size := by
  unfold withOf rgrowOf
  rw [if_neg (by rw [h]; decide)]
  split
  · rfl
  · rename_i hd
    obtain ⟨k, rfl⟩ := Int.eq_ofNat_of_zero_le (show 0 ≤ d by omega)
    have hx : xs[k]? = some (xs[k]'(by omega)) := List.getElem?_eq_getElem (by omega)
    rw [Int.toNat_natCast, hx]
    have hxr := of_decide_eq_true ((rightL_ok h).2 _ (List.getElem_mem (l := xs) (n := k) (by omega)))
    generalize xs[k]'(by omega) = x at *
    simp only [Option.getD_some]
    by_cases h3 : x.1 = 3
    · rw [if_pos h3, show growF size x = (30, x) from if_pos (by simp [memberB, h3])]; rfl
    · have hm : memberB x = true := by simp [memberB]; omega
      rw [if_neg h3]
      by_cases hz : size ≤ x.2 ∨ 4096 < size
      · rw [if_pos hz, show growF size x = (20, x) from (if_neg (by rw [hm]; decide)).trans (if_pos hz)]; rfl
      · rw [if_neg hz, show growF size x = (0, (x.1, size)) from (if_neg (by rw [hm]; decide)).trans (if_neg hz)]; rfl
theorem rturn_eq {xs : List (Int × Int)} (h : rightL xs = true) (d s t : Int) (ht : t ≠ 2) : withOf xs d (turnF s t) = rturnOf xs d s t := by
  unfold withOf rturnOf
  rw [if_neg (by rw [h]; decide)]
  split
  · rfl
  · rename_i hd
    obtain ⟨k, rfl⟩ := Int.eq_ofNat_of_zero_le (show 0 ≤ d by omega)
    have hx : xs[k]? = some (xs[k]'(by omega)) := List.getElem?_eq_getElem (by omega)
    rw [Int.toNat_natCast, hx]
    generalize xs[k]'(by omega) = x at *
    simp only [Option.getD_some]
    unfold turnF
    by_cases h3 : x.1 = s
    · rw [if_pos h3, if_pos rfl, if_neg (by omega)]
    · rw [if_neg h3, if_neg (by simp), if_pos (.inl h3)]
theorem count_active (xs : List (Int × Int)) : countOf xs 1 = ((xs.filter activeB).length : Nat) := rfl
theorem rdrain_eq {xs : List (Int × Int)} (h : rightL xs = true) (d : Int) : drainOf xs d = rturnOf xs d 1 2 := by
  by_cases hd : d < 0 ∨ (xs.length : Int) ≤ d
  · have hw : withOf xs d (turnF 1 2) = (23, []) := by unfold withOf; rw [if_neg (by rw [h]; decide), if_pos hd]
    unfold drainOf rturnOf
    rw [hw, if_pos hd]
    rfl
  · obtain ⟨k, rfl⟩ := Int.eq_ofNat_of_zero_le (show 0 ≤ d by omega)
    have hx : xs[k]? = some (xs[k]'(by omega)) := List.getElem?_eq_getElem (by omega)
    have hw := with_at h hx (turnF 1 2)
    have hf2 := filter_set activeB xs k _ (2, (xs[k]'(by omega)).2) hx
    have hr2 : (xs[k]'(by omega)).1 = 1 → rightL (xs.set k (2, (xs[k]'(by omega)).2)) = true := fun e => rightL_set h k (by
      have hxr := of_decide_eq_true ((rightL_ok h).2 _ (List.getElem_mem (l := xs) (n := k) (by omega)))
      exact decide_eq_true (.inl ⟨.inr rfl, by show (3 : Int) ≤ _; omega, by show _ ≤ (4096 : Int); omega⟩))
    unfold drainOf rturnOf
    rw [hw, if_neg hd, Int.toNat_natCast, hx, count_active]
    generalize xs[k]'(by omega) = x at *
    simp only [Option.getD_some]
    by_cases h3 : x.1 = 1
    · have e1 : activeB x = true := by simp [activeB, h3]
      have e2 : activeB ((2 : Int), x.2) = false := rfl
      rw [e1, e2] at hf2
      simp only [if_true, Bool.false_eq_true, if_false] at hf2
      have ht : turnF 1 2 x = (0, (2, x.2)) := if_pos h3
      rw [ht, if_pos rfl]
      simp only [those_len (hr2 h3)]
      by_cases h0 : ((xs.set k (2, x.2)).filter activeB).length = 0
      · rw [if_pos ⟨trivial, h0⟩, if_pos (.inr ⟨trivial, by omega⟩)]
      · rw [if_neg (fun e => h0 e.2), if_neg (by rintro (e | ⟨_, e⟩); exact e h3; omega)]
    · have ht : turnF 1 2 x = (30, x) := if_neg h3
      rw [ht, if_neg (by simp), if_neg (by simp), if_pos (.inl h3)]

set_option maxRecDepth 20000 in
set_option maxHeartbeats 1000000 in
theorem radd_any (a : Option Addr) (n c : Nat) (xs : List (Int × Int)) (size : Int) (w : World) (hs : ES w w.heap.size a n xs) (hn : n ≤ 1000000) (hz : I64 size) :
    Calls Try.prog 24 #[.slice a n c, .int .i64 size] w (RetL w (raddOf xs size)) := by
  obtain ⟨hz0, hz1⟩ := hz
  obtain rfl := hs.len
  have HS := mkHid hs
  clear hs
  by_cases h8 : xs.length = 8
  · have HV := mkHid (show raddOf xs size = (24, []) from if_pos h8)
    have g8 : ((xs.length : Int) == 8) = true := by simp; omega
    clear h8
    go_enter Try.func24, Try.ntmps24
    go_wp2_with fail
    go_ret2
    rw [HV.out]
    exact RetL.no (Below.refl _ _)
  have g8 : ((xs.length : Int) == 8) = false := by simp; omega
  by_cases h3 : size < 3
  · have HV := mkHid (show raddOf xs size = (20, []) by unfold raddOf; rw [if_neg h8, if_pos (.inl h3)])
    clear h8
    go_enter Try.func24, Try.ntmps24
    go_wp2_with fail
    go_ret2
    rw [HV.out]
    exact RetL.no (Below.refl _ _)
  by_cases h4 : 4096 < size
  · have HV := mkHid (show raddOf xs size = (20, []) by unfold raddOf; rw [if_neg h8, if_pos (.inr h4)])
    clear h8
    go_enter Try.func24, Try.ntmps24
    go_wp2_with fail
    go_ret2
    rw [HV.out]
    exact RetL.no (Below.refl _ _)
  have HV := mkHid (show raddOf xs size = (0, xs ++ [(1, size)]) by unfold raddOf; rw [if_neg h8, if_neg (by omega)])
  clear h8
  go_enter Try.func24, Try.ntmps24
  go_wp2_with fail
  refine (copied_any a _ c xs w HS.out hn).mono ?_
  rintro e w2 ⟨A2, C2, rfl, ho2, hb2⟩
  have HO := mkHid ho2
  have HB := mkHid hb2
  have hsz := hb2.size
  clear ho2 hb2
  go_wp2_with (at_builtin; refine wpList_app _ rfl (.tmp 16) (.tmp 19) _ rfl w.heap.size el_ren A2 xs.length C2 _ rfl (HO.out.alloc _) (w2.heap.size + 1) (some ⟨w2.heap.size, 0, none⟩) 1 1 [.int .i64 1, .int .i64 size] rfl (SL.of_block (heap_alloc_new w2 _) rfl (by omega)) (enC_one [(1, size)]) (by unfold maxLen; omega) (by omega) (by simp; omega) ?_; intro A' C' w3 ho3 hg3 _)
  go_ret2
  rw [HV.out]
  have hlen : (xs ++ [((1 : Int), size)]).length = xs.length + 1 := by simp
  refine ⟨A', C', by simp only [hlen]; rfl, ?_, ⟨by simp only [hlen]; exact (own_cap ho3).1, (own_cap ho3).2, by simp only [hlen]; omega⟩, (HB.out.alloc hsz _).grown hg3 (by simp; omega) (own_base HO.out)⟩
  simp only [hlen]
  refine ⟨?_, fun x hx => ?_⟩
  · rw [List.flatMap_append]
    exact SL.of_own ho3
  · rcases List.mem_append.1 hx with hx | hx
    · exact HS.out.2 x hx
    · obtain rfl := List.mem_singleton.1 hx
      exact ⟨by unfold I64; omega, hz0, hz1⟩

theorem _root_.List.set_getElem?_self' {α : Type} {l : List α} {i : Nat} {v : α} (h : l[i]? = some v) : l.set i v = l := by
  apply List.ext_getElem?
  intro j
  by_cases e : i = j
  · subst e; rw [List.getElem?_set_self (List.getElem?_eq_some_iff.1 h).1, h]
  · rw [List.getElem?_set_ne e]
/-- What a copy's store leaves. -/
theorem own_set2 {w w2 : World} {A : Option Addr} {C k : Nat} {xs : List (Int × Int)} (h : w2.ownsRow w.heap.size 38 2 (.slice A xs.length C) xs.length (xs.flatMap enC)) (hk : k < xs.length) :
    ∃ g cur, A = some ⟨g, 0, none⟩ ∧ w.heap.size ≤ g ∧ w2.heap[g]? = some (.cells cur 38 (0, 0)) ∧ cur.toList.take (xs.length * 2) = xs.flatMap enC := by
  rcases h.2 with ⟨h1, h2⟩ | ⟨g', cap', cur', hv, hb, h3, _, _, _, h4⟩
  · injection h1 with _ h1 _
    omega
  · injection hv with hv
    exact ⟨g', cur', hv, hb, h3, h4⟩

set_option maxRecDepth 20000 in
set_option maxHeartbeats 1000000 in
theorem rgrow_any (a : Option Addr) (n c : Nat) (xs : List (Int × Int)) (d size : Int) (w : World) (hs : ES w w.heap.size a n xs) (hc : CapOk n c) (hn : n ≤ 1000000) (hd : I64 d) (hz : I64 size) :
    Calls Try.prog 25 #[.slice a n c, .int .i64 d, .int .i64 size] w (RetL w (rgrowOf xs d size)) := by
  have HZ := mkHid hz
  obtain ⟨hz0, hz1⟩ := hz
  obtain ⟨hd0, hd1⟩ := hd
  obtain ⟨hc1, hc2, hc3⟩ := hc
  obtain rfl := hs.len
  have HS := mkHid hs
  clear hs
  by_cases hneg : d < 0
  · skip
    have HV := mkHid (show rgrowOf xs d size = (23, []) by unfold rgrowOf; rw [if_pos (.inl hneg)])
    go_enter Try.func25, Try.ntmps25
    go_wp2_with fail
    go_ret2
    rw [HV.out]
    exact RetL.no (Below.refl _ _)
  by_cases hbig : (xs.length : Int) ≤ d
  · skip
    have HV := mkHid (show rgrowOf xs d size = (23, []) by unfold rgrowOf; rw [if_pos (.inr hbig)])
    go_enter Try.func25, Try.ntmps25
    go_wp2_with fail
    go_ret2
    rw [HV.out]
    exact RetL.no (Below.refl _ _)
  obtain ⟨k, rfl⟩ := Int.eq_ofNat_of_zero_le (show 0 ≤ d by omega)
  have hk : k < xs.length := by omega
  obtain ⟨b, o, x, rfl, hb, hx, ⟨hx1, hx2⟩, h0, h1⟩ := HS.out.at_ hk
  obtain ⟨s, z⟩ := x
  have HU := mkHid (show rgrowOf xs k size = if s = 3 then (30, []) else if size ≤ z ∨ 4096 < size then (20, []) else (0, xs.set k (s, size)) by unfold rgrowOf; rw [if_neg (by omega), Int.toNat_natCast, hx]; rfl)
  simp only at h0 h1 hx1 hx2
  have HX := mkHid hx
  clear hx
  by_cases h3 : s = 3
  · have HV := mkHid (HU.out.trans (if_pos h3))
    subst h3
    go_enter Try.func25, Try.ntmps25
    go_wp2_with fail
    go_ret2
    rw [HV.out]
    exact RetL.no (Below.refl _ _)
  have g3 : (s == 3) = false := by simpa using h3
  by_cases h4 : size ≤ z
  · have HV := mkHid (HU.out.trans ((if_neg h3).trans (if_pos (.inl h4))))
    clear h3
    go_enter Try.func25, Try.ntmps25
    go_wp2_with fail
    go_ret2
    rw [HV.out]
    exact RetL.no (Below.refl _ _)
  by_cases h5 : 4096 < size
  · have HV := mkHid (HU.out.trans ((if_neg h3).trans (if_pos (.inr h5))))
    clear h3
    go_enter Try.func25, Try.ntmps25
    go_wp2_with fail
    go_ret2
    rw [HV.out]
    exact RetL.no (Below.refl _ _)
  have HV := mkHid (HU.out.trans ((if_neg h3).trans (if_neg (by omega))))
  clear h3
  go_enter Try.func25, Try.ntmps25
  go_wp2_with fail
  refine (copied_any _ _ c xs w HS.out hn).mono ?_
  rintro e w2 ⟨A2, C2, rfl, ho2, hb2⟩
  obtain ⟨g, cur, rfl, hg, hcur, hcl⟩ := own_set2 ho2 hk
  have hcap := own_cap ho2
  have z2 := frozen_of_row w2 g (k * 2 + 1) _ _ hcur
  obtain ⟨hcap1, hcap2⟩ := hcap
  have HCUR := mkHid hcur
  have HCL := mkHid hcl
  have HB := mkHid hb2
  have hcs : k * 2 + 1 < cur.size := by
    have := congrArg List.length hcl
    rw [List.length_take, flat_len enC 2 (fun _ => rfl)] at this
    have hct : cur.toList.length = cur.size := Array.length_toList
    omega
  obtain ⟨v0, hv0⟩ : ∃ v, w2.cell? ⟨g, k * 2 + 1, none⟩ = some v := ⟨_, (cell_of_row w2 g _ _ _ _ hcur).trans (Array.getElem?_eq_getElem hcs)⟩
  clear hcur hcl hb2 ho2
  go_wp2_with fail
  go_ret2
  rw [HV.out]
  have hlen : (xs.set k (s, size)).length = xs.length := by simp
  refine ⟨some ⟨g, 0, none⟩, C2, by simp only [hlen]; rfl, ?_, ⟨by simp only [hlen]; exact hcap1, hcap2, by simp only [hlen]; omega⟩, HB.out.setCell (p := ⟨g, k * 2 + 1, none⟩) hg _⟩
  simp only [hlen]
  refine ES.of_cur (heap_setCell_same _ _ _ _ _ _ HCUR.out) ?_ hlen fun y hy => ?_
  · rw [Array.toList_setIfInBounds, List.take_set, HCL.out, flat_set]
    have h2 : (xs.flatMap enC)[k * 2]? = some (.int .i64 s) := by
      have := flat_get enC 2 (fun _ => rfl) xs k 0 (by omega)
      rw [HX.out] at this
      exact this
    rw [List.set_getElem?_self' h2]
  · rcases List.mem_or_eq_of_mem_set hy with hy | rfl
    · exact HS.out.2 y hy
    · exact ⟨hx1, HZ.out⟩

set_option maxRecDepth 20000 in
set_option maxHeartbeats 1000000 in
theorem rturn_any (a : Option Addr) (n c : Nat) (xs : List (Int × Int)) (d s t : Int) (w : World) (hs : ES w w.heap.size a n xs) (hc : CapOk n c) (hn : n ≤ 1000000) (hd : I64 d) (ht : I64 t) :
    Calls Try.prog 26 #[.slice a n c, .int .i64 d, .int .i64 s, .int .i64 t] w (RetL w (rturnOf xs d s t)) := by
  have HT := mkHid ht
  obtain ⟨hd0, hd1⟩ := hd
  have HC := mkHid hc
  obtain ⟨hc1, hc2, hc3⟩ := hc
  obtain rfl := hs.len
  have HS := mkHid hs
  clear hs ht
  by_cases hneg : d < 0
  · have HV := mkHid (show rturnOf xs d s t = (23, []) by unfold rturnOf; rw [if_pos (.inl hneg)])
    go_enter Try.func26, Try.ntmps26
    go_wp2_with fail
    go_ret2
    rw [HV.out]
    exact RetL.no (Below.refl _ _)
  by_cases hbig : (xs.length : Int) ≤ d
  · have HV := mkHid (show rturnOf xs d s t = (23, []) by unfold rturnOf; rw [if_pos (.inr hbig)])
    go_enter Try.func26, Try.ntmps26
    go_wp2_with fail
    go_ret2
    rw [HV.out]
    exact RetL.no (Below.refl _ _)
  obtain ⟨k, rfl⟩ := Int.eq_ofNat_of_zero_le (show 0 ≤ d by omega)
  have hk : k < xs.length := by omega
  obtain ⟨b, o, x, rfl, hb, hx, ⟨hx1, hx2⟩, h0, h1⟩ := HS.out.at_ hk
  obtain ⟨p, z⟩ := x
  have HU := mkHid (show rturnOf xs k s t = if p ≠ s ∨ t = 2 ∧ countOf xs 1 < 2 then (30, []) else (0, xs.set k (t, z)) by unfold rturnOf; rw [if_neg (by omega), Int.toNat_natCast, hx]; rfl)
  simp only at h0 h1 hx1 hx2
  have HX := mkHid hx
  clear hx
  by_cases h3 : p = s
  case neg =>
    have HV := mkHid (HU.out.trans (if_pos (.inl h3)))
    have g3 : (p != s) = true := by rw [bne_iff_ne]; exact h3
    clear h3
    go_enter Try.func26, Try.ntmps26
    go_wp2_with fail
    go_ret2
    rw [HV.out]
    exact RetL.no (Below.refl _ _)
  subst h3
  have g3 : (p != p) = false := by simp
  have HCNT := mkHid (count_any (some ⟨b, o, none⟩) _ c xs 1 w HS.out HC.out)
  have fin : ∀ W2 : World, True := fun _ => trivial
  clear fin
  by_cases ht2 : t = 2
  · subst ht2
    by_cases hcn : countOf xs 1 < 2
    · have HV := mkHid (HU.out.trans (if_pos (.inr ⟨rfl, hcn⟩)))
      go_enter Try.func26, Try.ntmps26
      go_wp2_with fail
      refine HCNT.out.mono ?_
      rintro e w' ⟨rfl, rfl⟩
      go_wp2_with fail
      go_ret2
      rw [HV.out]
      exact RetL.no (Below.refl _ _)
    · have HV := mkHid (HU.out.trans (if_neg (by rintro (e | ⟨_, e⟩); exact e rfl; exact hcn e)))
      go_enter Try.func26, Try.ntmps26
      go_wp2_with fail
      refine HCNT.out.mono ?_
      rintro e w' ⟨rfl, rfl⟩
      go_wp2_with fail
      refine (copied_any _ _ c xs w HS.out hn).mono ?_
      rintro e w2 ⟨A2, C2, rfl, ho2, hb2⟩
      obtain ⟨g, cur, rfl, hg, hcur, hcl⟩ := own_set2 ho2 hk
      have hcap := own_cap ho2
      have z2 := frozen_of_row w2 g (k * 2) _ _ hcur
      obtain ⟨hcap1, hcap2⟩ := hcap
      have HCUR := mkHid hcur
      have HCL := mkHid hcl
      have HB := mkHid hb2
      have hcs : k * 2 < cur.size := by
        have := congrArg List.length hcl
        rw [List.length_take, flat_len enC 2 (fun _ => rfl)] at this
        have hct : cur.toList.length = cur.size := Array.length_toList
        omega
      obtain ⟨v0, hv0⟩ : ∃ v, w2.cell? ⟨g, k * 2, none⟩ = some v := ⟨_, (cell_of_row w2 g _ _ _ _ hcur).trans (Array.getElem?_eq_getElem hcs)⟩
      clear hcur hcl hb2 ho2
      go_wp2_with fail
      go_ret2
      rw [HV.out]
      have hlen : (xs.set k (2, z)).length = xs.length := by simp
      refine ⟨some ⟨g, 0, none⟩, C2, by simp only [hlen]; rfl, ?_, ⟨by simp only [hlen]; exact hcap1, hcap2, by simp only [hlen]; omega⟩, HB.out.setCell (p := ⟨g, k * 2, none⟩) hg _⟩
      simp only [hlen]
      refine ES.of_cur (heap_setCell_same _ _ _ _ _ _ HCUR.out) ?_ hlen fun y hy => ?_
      · rw [Array.toList_setIfInBounds, List.take_set, HCL.out, flat_set]
        have h2 : ((xs.flatMap enC).set (k * 2) (.int .i64 2))[k * 2 + 1]? = some (.int .i64 z) := by
          have := flat_get enC 2 (fun _ => rfl) xs k 1 (by omega)
          rw [HX.out] at this
          rw [List.getElem?_set_ne (by omega)]
          exact this
        rw [List.set_getElem?_self' h2]
      · rcases List.mem_or_eq_of_mem_set hy with hy | rfl
        · exact HS.out.2 y hy
        · exact ⟨HT.out, hx2⟩
  · have HV := mkHid (HU.out.trans (if_neg (by rintro (e | ⟨e, _⟩); exact e rfl; exact ht2 e)))
    have g2 : (t == 2) = false := by simpa using ht2
    clear ht2
    go_enter Try.func26, Try.ntmps26
    go_wp2_with fail
    refine (copied_any _ _ c xs w HS.out hn).mono ?_
    rintro e w2 ⟨A2, C2, rfl, ho2, hb2⟩
    obtain ⟨g, cur, rfl, hg, hcur, hcl⟩ := own_set2 ho2 hk
    have hcap := own_cap ho2
    have z2 := frozen_of_row w2 g (k * 2) _ _ hcur
    obtain ⟨hcap1, hcap2⟩ := hcap
    have HCUR := mkHid hcur
    have HCL := mkHid hcl
    have HB := mkHid hb2
    have hcs : k * 2 < cur.size := by
      have := congrArg List.length hcl
      rw [List.length_take, flat_len enC 2 (fun _ => rfl)] at this
      have hct : cur.toList.length = cur.size := Array.length_toList
      omega
    obtain ⟨v0, hv0⟩ : ∃ v, w2.cell? ⟨g, k * 2, none⟩ = some v := ⟨_, (cell_of_row w2 g _ _ _ _ hcur).trans (Array.getElem?_eq_getElem hcs)⟩
    clear hcur hcl hb2 ho2
    go_wp2_with fail
    go_ret2
    rw [HV.out]
    have hlen : (xs.set k (t, z)).length = xs.length := by simp
    refine ⟨some ⟨g, 0, none⟩, C2, by simp only [hlen]; rfl, ?_, ⟨by simp only [hlen]; exact hcap1, hcap2, by simp only [hlen]; omega⟩, HB.out.setCell (p := ⟨g, k * 2, none⟩) hg _⟩
    simp only [hlen]
    refine ES.of_cur (heap_setCell_same _ _ _ _ _ _ HCUR.out) ?_ hlen fun y hy => ?_
    · rw [Array.toList_setIfInBounds, List.take_set, HCL.out, flat_set]
      have h2 : ((xs.flatMap enC).set (k * 2) (.int .i64 t))[k * 2 + 1]? = some (.int .i64 z) := by
        have := flat_get enC 2 (fun _ => rfl) xs k 1 (by omega)
        rw [HX.out] at this
        rw [List.getElem?_set_ne (by omega)]
        exact this
      rw [List.set_getElem?_self' h2]
    · rcases List.mem_or_eq_of_mem_set hy with hy | rfl
      · exact HS.out.2 y hy
      · exact ⟨HT.out, hx2⟩

end Go.Proofs.Ytlpgeocoddehgaa
