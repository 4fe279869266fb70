/- slices.DeleteFunc of ints, Table.Ready by contract. -/
import Derived.Test.YtgabjgmimebelaaTabF
import Derived.Test.YtgabjgmimebelaaAwake15
namespace Go.Proofs.Ytgabjgmimebelaa
open Go.RowKit Go.Shelf

theorem idxOf_cases {α : Type} (p : α → Bool) (xs : List α) : (idxOf p xs = -1 ∧ ∀ (j : Nat) x, xs[j]? = some x → p x = false) ∨ ∃ (i : Nat) (x : α), idxOf p xs = i ∧ xs[i]? = some x ∧ p x = true ∧ ∀ (j : Nat) y, j < i → xs[j]? = some y → p y = false := by
  unfold idxOf
  cases h : xs.findIdx? p with
  | none =>
    rw [List.findIdx?_eq_none_iff] at h
    exact .inl ⟨rfl, fun j e he => by simpa using h e (List.mem_of_getElem? he)⟩
  | some i =>
    rw [List.findIdx?_eq_some_iff_getElem] at h
    obtain ⟨hi, h1, h2⟩ := h
    refine .inr ⟨i, xs[i], rfl, List.getElem?_eq_getElem hi, h1, fun j y hj he => ?_⟩
    have := h2 j hj
    obtain ⟨hjl, rfl⟩ := List.getElem?_eq_some_iff.1 he
    simpa using this
theorem filter_all {α : Type} {p : α → Bool} {l : List α} (h : ∀ (j : Nat) x, l[j]? = some x → p x = true) : l.filter p = l := by
  rw [List.filter_eq_self]
  intro a ha
  obtain ⟨j, hj, rfl⟩ := List.getElem_of_mem ha
  exact h j _ (List.getElem?_eq_getElem hj)

theorem zero_int (w : World) : (zeroValue 3).run Try.prog w = .ok (.int .i64 0) w := by kernel_rfl

set_option maxRecDepth 20000 in
set_option maxHeartbeats 2000000 in
theorem deleteI_any (p : Int → Bool) (g : Nat) (fst caps : Array Value) (eg : ∀ args w, (callFunc g args).run Try.prog w = .ok (.enter g args) w) (A : Option Addr) (n c : Nat) (l : List Int) (B : Nat) (w0 w : World) (hp : PredI g fst caps p B w0) (hw : Below B w0 w) (ho : w.ownsRow B 3 1 (.slice A n c) n (l.map i64v)) (hI : ∀ x ∈ l, I64 x) (hn : n ≤ 1000000) (hB : B ≤ w.heap.size) :
    Calls Try.prog 35 #[.slice A n c, .func (.func g) fst caps] w fun e w' => ∃ A' c', e = .returned (.slice A' (l.filter fun x => !p x).length c') ∧ w'.ownsRow B 3 1 (.slice A' (l.filter fun x => !p x).length c') (l.filter fun x => !p x).length ((l.filter fun x => !p x).map i64v) ∧ Below B w w' := by
  have hcap := own_cap ho
  have hln : l.length = n := by have := ho.1; simpa using this
  have HX := mkHid (indexI_any p g fst caps eg A n c l B w0 w hp hw ⟨SL.of_own ho, hI⟩ ⟨hcap.1, hcap.2, by omega⟩ hB)
  rcases idxOf_cases p l with ⟨hx, hno⟩ | ⟨i0, x0, hx, hx0, hp0, hno⟩
  · rw [hx] at HX
    have hf : (l.filter fun x => !p x) = l := filter_all fun j x hj => by rw [hno j x hj]; rfl
    rw [hf, hln]
    have HO := mkHid ho
    clear hx hno hf ho hp hw hI
    go_enter Try.func35, Try.ntmps35
    go_wp2_with fail
    refine HX.out.mono ?_
    rintro e w1 ⟨rfl, hb1⟩
    go_wp2_with fail
    go_ret
    exact ⟨A, c, rfl, own_below HO.out hb1, hb1.mono hB⟩
  · rw [hx] at HX
    have hi0 : i0 < n := by rw [← hln]; exact (List.getElem?_eq_some_iff.1 hx0).1
    obtain ⟨r, rfl, hBr, hr, _⟩ := own_ints ho (by omega)
    have h0 : (l.take i0) = (l.take (i0 + 1)).filter (fun x => !p x) := by
      rw [List.take_add_one, hx0, List.filter_append]
      have : (l.take i0).filter (fun x => !p x) = l.take i0 := filter_all fun j x hj => by
        rw [List.getElem?_take] at hj
        split at hj
        · rw [hno j x (by assumption) hj]; rfl
        · cases hj
      rw [this]
      simp [hp0]
    have H0 := mkHid h0
    have HO := mkHid ho
    have HP := mkHid hp
    have HW := mkHid hw
    have HI := mkHid hI
    have HLN := mkHid hln
    have hnb : ((i0 : Int) == -1) = false := beq_eq_false_iff_ne.2 (by omega)
    clear hx hno hx0 hp0 h0 ho hp hw hI hln
    go_enter Try.func35, Try.ntmps35
    go_wp2_with fail
    refine HX.out.mono ?_
    rintro e w1 ⟨rfl, hb1⟩
    have HB1 := mkHid (hb1.mono hB)
    have HO1 := mkHid (own_below HO.out hb1)
    have hs1 := hb1.size
    clear hb1 HO HX
    go_wp2_with fail
    go_loopw [5, 6] (fun ti tj wr => ∃ (i j : Nat) (L : List Int), i < j ∧ j ≤ n ∧ ti = .int .i64 i ∧ tj = .int .i64 j ∧ wr.ownsRow B 3 1 (.slice (some ⟨r, 0, none⟩) n c) n (L.map i64v) ∧ Hid (L.length = n) ∧ Hid (L.take i = (l.take j).filter fun x => !p x) ∧ Hid (L.drop j = l.drop j) ∧ Hid (∀ x ∈ L, I64 x) ∧ Below B w wr) (fun _ tj _ => n - (intOf tj).toNat)
    case atStart => exact ⟨i0, i0 + 1, l, by omega, by omega, rfl, by go_num, HO1.out, HLN, H0, mkHid rfl, HI, HB1.out⟩
    case round =>
      clear H0 HO1 HB1 hs1
      obtain ⟨i, j, L, hij, hj, rfl, rfl, ho, HL, HT, HD, HLI, hb⟩ := hrel
      have hsz := hb.size
      by_cases hlt : j < n
      · obtain ⟨r', e1, _, hrl, hcell⟩ := own_ints ho (by omega)
        injection e1 with e1
        injection e1 with e1
        subst e1
        have cj := hcell j hlt
        have hlj : L[j]? = l[j]? := by
          have h1 : (L.drop j)[0]? = (l.drop j)[0]? := by rw [HD.out]
          simpa using h1
        have hLj : L[j]? = some (L[j]?.getD 0) := by rw [List.getElem?_eq_getElem (by have := HL.out; omega)]; rfl
        have HLJ := mkHid (hlj.symm.trans hLj)
        have hIx : I64 (L[j]?.getD 0) := by rw [List.getElem?_eq_getElem (by have := HL.out; omega)]; exact HLI.out _ (List.getElem_mem _)
        generalize L[j]?.getD 0 = x at *
        have HHX := mkHid hIx
        have HC := mkHid (HP.out wr x hIx (HW.out.trans hb))
        have HO := mkHid ho
        have HB := mkHid hb
        clear hcell hlj hLj hIx ho hb
        go_wp2_with fail
        refine HC.out.mono ?_
        rintro e w2 ⟨rfl, hb2⟩
        have HO2 := mkHid (own_below HO.out hb2)
        have HB2 := mkHid (HB.out.trans (hb2.mono (by omega)))
        have hs2 := hb2.size
        clear hb2 HO HB HC cj
        cases hpx : p x with
        | true =>
          have HPX := mkHid hpx
          clear hpx
          go_wp2_with fail
          go_roundw
          case rel =>
            refine ⟨i, j + 1, L, by omega, by omega, rfl, by go_num, HO2.out, HL, mkHid ?_, mkHid ?_, HLI, HB2.out⟩
            · rw [HT.out, List.take_add_one, HLJ.out, List.filter_append]; simp [HPX.out]
            · rw [← List.drop_drop, HD.out, List.drop_drop]
          case measure => simp [intOf]; omega
        | false =>
          have HPX := mkHid hpx
          clear hpx
          have hfz := frozen_of_own HO2.out i
          obtain ⟨r', e1, _, _, hcell⟩ := own_ints HO2.out (by omega)
          injection e1 with e1
          injection e1 with e1
          subst e1
          have ci := hcell i (by omega)
          clear hcell
          go_wp2_with fail
          go_roundw
          case rel =>
            refine ⟨i + 1, j + 1, L.set i x, by omega, by omega, by go_num, by go_num, by rw [List.map_set]; exact own_set HO2.out (by omega), mkHid (by rw [List.length_set]; exact HL.out), mkHid ?_, mkHid ?_, mkHid ?_, HB2.out.setCell (p := ⟨r, i, none⟩) hBr _⟩
            · rw [List.take_add_one, List.take_set_of_le (by omega), HT.out, List.take_add_one, HLJ.out, List.filter_append, List.getElem?_set_self (by have := HL.out; omega)]
              simp [HPX.out]
            · rw [List.drop_set_of_lt (by omega), ← List.drop_drop, HD.out, List.drop_drop]
            · intro y hy
              rcases List.mem_or_eq_of_mem_set hy with h | h
              · exact HLI.out y h
              · rw [h]; exact HHX.out
          case measure => simp [intOf]; omega
      · obtain rfl : j = n := by omega
        have hfin : L.take i = l.filter fun x => !p x := by rw [HT.out, List.take_of_length_le (by have := HLN.out; omega)]
        have hlen : (l.filter fun x => !p x).length = i := by rw [← hfin, List.length_take]; have := HL.out; omega
        have HF := mkHid hfin
        have HLE := mkHid hlen
        have HO := mkHid ho
        have HB := mkHid hb
        clear hfin hlen ho hb
        have hcl : ∀ ty, (Builtin.clear_ #[30] ty #[.slice (some ⟨r, i, none⟩) (j - i) (c - i)]).run Try.prog wr = .ok (.tuple #[]) (wr.setCells r i (List.replicate (j - i) (.int .i64 0))) := fun ty =>
          Lib.run_clear_slice wr _ _ ty _ Try.underlying30 zero_int rfl rfl r i (j - i) _ (by omega) (fun q hq => by
            obtain ⟨r', e1, _, _, hcell⟩ := own_ints HO.out (by omega)
            injection e1 with e1
            injection e1 with e1
            subst e1
            rw [hcell (i + q) (by omega)]; rfl) (fun q hq => frozen_of_own HO.out _)
        go_wp2_with fail
        go_ret
        rw [HLE.out]
        exact ⟨_, _, rfl, by rw [← HF.out, List.map_take]; exact own_setCells_out _ _ _ (own_take HO.out (by omega)) (Nat.le_refl _), below_cells hBr _ _ _ HB.out⟩

def readyOf (es : List En) : List Int := (es.map En.num).filter fun x => mayOf es x
theorem pred_ready (F : Nat → Prop) (g : Nat) (es : List En) (last : Nat) (k : Nat) (t : TypeId) (fr : Nat × Nat) (w : World) (h : T w F g es last) (hk : w.heap[k]? = some (.cells #[.pointer (some ⟨g, 0, none⟩)] t fr)) :
    PredI 36 #[] #[.pointer (some ⟨k, 0, none⟩)] (fun x => !mayOf es x) w.heap.size w := fun W x hx hb => by
  show Calls Try.prog 36 #[.int .i64 x, .pointer (some ⟨k, 0, none⟩)] W _
  have c0 := cell_of_row W k 0 _ _ _ ((hb.block k (Array.getElem?_eq_some_iff.1 hk).1).trans hk)
  simp at c0
  have HM := mkHid (may_any F g es last x W (h.below hb) hx)
  clear h hk hb hx
  go_enter Try.func36, Try.ntmps36
  go_wp2_with fail
  refine HM.out.mono ?_
  rintro e w1 ⟨rfl, hb1⟩
  go_wp2_with fail
  go_ret
  exact ⟨rfl, hb1⟩

theorem T.nums {w : World} {F : Nat → Prop} {g : Nat} {es : List En} {last : Nat} (h : T w F g es last) : (∀ x ∈ es.map En.num, I64 x) ∧ es.length ≤ 1000000 := by
  obtain ⟨A, n, c, cells, h⟩ := h
  refine ⟨fun x hx => ?_, by rw [h.len]; exact h.nl⟩
  obtain ⟨e, he, rfl⟩ := List.mem_map.1 hx
  obtain ⟨j, hj, rfl⟩ := List.getElem_of_mem he
  obtain ⟨_, _, _, _, _, hi, _⟩ := h.els j _ (List.getElem?_eq_getElem hj)
  exact hi

set_option maxRecDepth 20000 in
set_option maxHeartbeats 1000000 in
theorem ready_any (F : Nat → Prop) (g : Nat) (es : List En) (last : Nat) (w : World) (h : T w F g es last) :
    Calls Try.prog 17 #[.pointer (some ⟨g, 0, none⟩)] w (RetI w (readyOf es)) := by
  have HT := mkHid (h.fresh (.cells #[.pointer (some ⟨g, 0, none⟩)] 31))
  have HP := mkHid (pred_ready F g es last w.heap.size 31 _ (w.alloc (.cells #[.pointer (some ⟨g, 0, none⟩)] 31)) HT.out (heap_alloc_new w _))
  have HN := mkHid h.nums
  clear h
  go_enter Try.func17, Try.ntmps17
  go_wp2_with fail
  refine (waiting_any F g es last _ HT.out).mono ?_
  rintro e w1 ⟨A, c, rfl, ho1, hb1⟩
  rw [List.length_map] at ho1
  have HO := mkHid ho1
  have HB := mkHid hb1
  clear ho1 hb1
  go_wp2_with fail
  refine (deleteI_any (fun x => !mayOf es x) _ #[] #[.pointer (some ⟨w.heap.size, 0, none⟩)] eg_ready A es.length c (es.map En.num) _ _ w1 HP.out HB.out HO.out HN.out.1 HN.out.2 HB.out.size).mono ?_
  rintro e w2 ⟨A', c', rfl, ho2, hb2⟩
  have hf : ((es.map En.num).filter fun x => !!mayOf es x) = readyOf es := by unfold readyOf; simp only [Bool.not_not]
  rw [hf] at ho2 ⊢
  have HO2 := mkHid ho2
  have HB2 := mkHid hb2
  clear ho2 hb2 hf
  go_wp2_with fail
  go_ret
  exact ⟨A', c', rfl, own_weaken HO2.out (by simp), ((Below.refl _ _).alloc (Nat.le_refl _) _).trans ((HB.out.trans HB2.out).mono (by simp))⟩

end Go.Proofs.Ytgabjgmimebelaa
