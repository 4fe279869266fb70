/- Table.Waiting, slices.DeleteFunc of ints, Table.Ready by contract. -/
import Derived.Test.YtgabjgmimebelaaTabE
import Derived.Lib.SliceRun
namespace Go.Proofs.Ytgabjgmimebelaa
open Go.RowKit Go.Shelf

/-- A builtin whose run is known. -/
theorem wpList_builtin {P : Program} (w : World) {ops : Array Oper} {rest : List Oper} {o : Oper} {a : Act} {Q : Exit → Act → World → Prop} (hgd : o.guard = none) (x : Operand) (t : TypeId)
    (ho : o.op = .call { callee := .builtin .clear, args := #[x], argTypes := #[t] }) (v : Value) (hx : a.eval x = v) (w' : World) (hrun : (Builtin.clear_ #[t] o.type #[v]).run P w = .ok (.tuple #[]) w')
    (h : wpList P ops Q rest (a.put o.dst (.tuple #[])) w') : wpList P ops Q (o :: rest) a w := by
  refine wpList_plain hgd fun K hK => ?_
  unfold Oper.wp execOp
  simp only [ho, resolve, invoke, builtin, Sem.run_bind, Sem.run_pure, Result.andThen_ok, List.map_toArray, List.map_cons, List.map_nil, hx, hrun]
  exact hK _ _ h

section
variable {w : World} {base : Nat} {e : TypeId} {g n c : Nat} {xs : List Value}
/-- The first k of an owned row. -/
theorem own_take (h : w.ownsRow base e 1 (.slice (some ⟨g, 0, none⟩) n c) n xs) {k : Nat} (hk : k ≤ n) : w.ownsRow base e 1 (.slice (some ⟨g, 0, none⟩) k c) k (xs.take k) := by
  have hl := h.1
  refine ⟨by rw [List.length_take]; omega, ?_⟩
  rcases h.2 with ⟨h1, _⟩ | ⟨g', cap, cur, hv, hb, hg, h1, h2, h3, h4⟩
  · cases h1
  · injection hv with hv1 hv2 hv3
    injection hv1 with hv1
    injection hv1 with hv1
    subst hv1
    subst hv3
    exact .inr ⟨g, c, cur, rfl, hb, hg, by omega, h2, h3, by rw [← h4, List.take_take]; congr 1; omega⟩
/-- A store behind what is told of. -/
theorem own_set_out {v : Value} {p : Nat} (h : w.ownsRow base e 1 (.slice (some ⟨g, 0, none⟩) n c) n xs) (hp : n ≤ p) : (w.setCell ⟨g, p, none⟩ v).ownsRow base e 1 (.slice (some ⟨g, 0, none⟩) n c) n xs := by
  refine ⟨h.1, ?_⟩
  rcases h.2 with ⟨h1, _⟩ | ⟨g', cap, cur, hv, hb, hg, h1, h2, h3, h4⟩
  · cases h1
  · injection hv with hv1 hv2 hv3
    injection hv1 with hv1
    injection hv1 with hv1
    subst hv1
    subst hv3
    refine .inr ⟨g, c, cur.setIfInBounds p v, rfl, hb, heap_setCell_same _ _ _ _ _ _ hg, h1, h2, by rw [Array.size_setIfInBounds]; exact h3, ?_⟩
    rw [Array.toList_setIfInBounds, List.take_set_of_le (by omega), ← h4]
theorem own_setCells_out : ∀ (vs : List Value) (o : Nat) (w : World), w.ownsRow base e 1 (.slice (some ⟨g, 0, none⟩) n c) n xs → n ≤ o → (w.setCells g o vs).ownsRow base e 1 (.slice (some ⟨g, 0, none⟩) n c) n xs
  | [], _, _, h, _ => h
  | v :: vs, o, w, h, ho => own_setCells_out vs (o + 1) (w.setCell ⟨g, o, none⟩ v) (own_set_out h ho) (by omega)
theorem below_cells {B b : Nat} {a : World} (hb : B ≤ b) : ∀ (vs : List Value) (o : Nat) (w : World), Below B a w → Below B a (w.setCells b o vs)
  | [], _, _, h => h
  | v :: vs, o, _, h => below_cells hb vs (o + 1) _ (h.setCell (p := ⟨b, o, none⟩) hb v)
/-- An owned row of ints that is not empty, written out. -/
theorem own_ints {l : List Int} {A : Option Addr} (h : w.ownsRow base e 1 (.slice A n c) n (l.map i64v)) (hn : 0 < n) :
    ∃ g, A = some ⟨g, 0, none⟩ ∧ base ≤ g ∧ g < w.heap.size ∧ ∀ j, j < n → w.cell? ⟨g, j, none⟩ = some (.int .i64 (l[j]?.getD 0)) := by
  obtain ⟨g, cap, hv, hb, hlt⟩ := h.form hn
  have ha : A = some ⟨g, 0, none⟩ := by injection hv
  subst ha
  refine ⟨g, rfl, hb, hlt, fun j hj => ?_⟩
  have hl : l.length = n := by have := h.1; simpa using this
  have hc := h.cells (g := g) rfl j (i64v (l[j]'(by omega))) (by rw [List.getElem?_map, List.getElem?_eq_getElem (by omega)]; rfl)
  have e1 : (⟨g, 0, none⟩ : Addr).add j = ⟨g, j, none⟩ := by unfold Addr.add; split <;> simp_all
  rw [e1] at hc
  rw [hc, List.getElem?_eq_getElem (by omega)]
  rfl
end

set_option maxRecDepth 20000 in
set_option maxHeartbeats 1000000 in
theorem waiting_any (F : Nat → Prop) (g : Nat) (es : List En) (last : Nat) (w : World) (h : T w F g es last) :
    Calls Try.prog 16 #[.pointer (some ⟨g, 0, none⟩)] w (RetI w (es.map En.num)) := by
  obtain ⟨A, n, c, cells, h⟩ := h
  have hnl := h.nl
  obtain ⟨hc1, hc2⟩ := own_cap h.row
  have c0 := cell_of_row w g 0 _ _ _ h.blk
  simp at c0
  have HTK := mkHid h
  clear h
  go_enter Try.func16, Try.ntmps16
  go_wp2_with fail
  go_loopw [11, 3] (fun i out wr => ∃ (q : Nat) (O : Option Addr) (C : Nat), q ≤ n ∧ i = .int .i64 q ∧ out = .slice O q C ∧ wr.ownsRow w.heap.size 3 1 (.slice O q C) q (((es.map En.num).take q).map i64v) ∧ Below w.heap.size w wr) (fun i _ _ => n - (intOf i).toNat)
  case atStart => exact ⟨0, none, 0, Nat.zero_le _, rfl, rfl, by simpa using World.ownsRow_nil _ _ _ _, Below.refl _ _⟩
  case round =>
    clear c0
    obtain ⟨q, O, C, hq, rfl, rfl, ho, hb⟩ := hrel
    by_cases hlt : q < n
    · have tk := HTK.out.below hb
      obtain ⟨b, o, x, p, m, k, rfl, _, hx, hI, h0, h1, _, _⟩ := tk.list.2 q hlt
      have hsnoc : (((es.map En.num).take q).map i64v) ++ [i64v x.num] = ((es.map En.num).take (q + 1)).map i64v := by
        rw [List.take_add_one, List.getElem?_map, hx]
        simp
      have HSN := mkHid hsnoc
      have HO := mkHid ho
      have HB := mkHid hb
      have hsz := hb.size
      clear tk hx hsnoc ho hb hI
      go_wp2_with (at_builtin; refine wpList_app _ rfl (.tmp 15) (.tmp 18) _ rfl w.heap.size el_int O q C _ rfl ((HO.out.alloc _).alloc _) (wr.heap.size + 2) (some ⟨wr.heap.size + 1, 0, none⟩) 1 1 [i64v x.num] rfl (SL.of_block (heap_alloc2_new _ _ _) rfl (by omega)) (fun u hu => by obtain rfl := List.mem_singleton.1 hu; rfl) (by unfold maxLen; omega) (by omega) (by simp; omega) ?_; intro O' C' w3 ho3 hg3 hat3; have HO3 := mkHid ho3; have HG3 := mkHid hg3; clear ho3 hg3 hat3)
      go_roundw
      case rel => exact ⟨q + 1, O', C', by omega, by go_num, rfl, HSN.out ▸ HO3.out, ((HB.out.alloc hsz _).alloc (by simp; omega) _).grown HG3.out (by simp; omega) (own_base HO.out)⟩
      case measure => simp [intOf]; omega
    · obtain rfl : q = n := by omega
      have hl := HTK.out.len
      rw [List.take_of_length_le (by rw [List.length_map]; omega)] at ho
      have HO := mkHid ho
      have HB := mkHid hb
      have HL := mkHid (show (es.map En.num).length = q by rw [List.length_map, hl])
      clear ho hb hl
      go_wp2_with fail
      go_ret
      refine ⟨O, C, ?_, ?_, HB.out⟩
      · rw [HL.out]; rfl
      · rw [HL.out]; exact HO.out

/-- What is asked of a predicate on ints: in whatever world that left alone what lay below B in w0 it answers p and leaves alone all that lay. -/
def PredI (g : Nat) (fst caps : Array Value) (p : Int → Bool) (B : Nat) (w0 : World) : Prop :=
  ∀ (W : World) (x : Int), I64 x → Below B w0 W → Calls Try.prog g (fst.push (.int .i64 x) ++ caps) W fun e w' => e = .returned (.bool (p x)) ∧ Below W.heap.size W w'

set_option maxRecDepth 20000 in
set_option maxHeartbeats 1000000 in
theorem indexI_any (p : Int → Bool) (g : Nat) (fst caps : Array Value) (eg : ∀ args w, (callFunc g args).run Try.prog w = .ok (.enter g args) w) (A : Option Addr) (n c : Nat) (l : List Int) (B : Nat) (w0 w : World) (hp : PredI g fst caps p B w0) (hw : Below B w0 w) (hs : IS w w.heap.size A n l) (hc : CapOk n c) (hB : B ≤ w.heap.size) :
    Calls Try.prog 42 #[.slice A n c, .func (.func g) fst caps] w fun e w' => e = .returned (.int .i64 (idxOf p l)) ∧ Below w.heap.size w w' := by
  obtain ⟨hn1, hn2, hn3⟩ := hc
  have HW := mkHid hw
  have HLN := mkHid hs.len
  clear hw
  go_enter Try.func42, Try.ntmps42
  go_wp2_with fail
  go_loopw [8] (fun i wr => ∃ q : Nat, q ≤ n ∧ i = .int .i64 q ∧ Hid (Below w.heap.size w wr) ∧ Hid (∀ j y, j < q → l[j]? = some y → p y = false)) (fun i _ => n - (intOf i).toNat)
  case atStart => exact ⟨0, Nat.zero_le _, rfl, mkHid (Below.refl _ _), mkHid fun j _ hj => absurd hj (by omega)⟩
  case round =>
    obtain ⟨q, hq, rfl, HB, HN⟩ := hrel
    by_cases hlt : q < n
    · obtain ⟨b, o, rfl, hb, h0, hI⟩ := hs.at_ hlt
      have c0 := (HB.out.cell (p := ⟨b, o + q, none⟩) hb).trans h0
      have HX := mkHid (show l[q]? = some (l[q]?.getD 0) by rw [List.getElem?_eq_getElem (by have := HLN.out; omega)]; rfl)
      generalize l[q]?.getD 0 = x at *
      have hcall := hp wr x hI (HW.out.trans (HB.out.mono hB))
      have HS := mkHid hs
      clear h0 hs hp
      go_wp2_with fail
      refine hcall.mono ?_
      rintro e w1 ⟨rfl, hb1⟩
      have HB1 := mkHid (HB.out.trans (hb1.mono HB.out.size))
      clear hb1 hcall
      cases hpx : p x with
      | true =>
        go_wp2_with fail
        go_ret
        exact ⟨by rw [idxOf_hit HX.out hpx HN.out]; rfl, HB1.out⟩
      | false =>
        have HP := mkHid hpx
        clear hpx
        go_wp2_with fail
        go_round
        case measure => simp [intOf]; omega
        case rel =>
          refine ⟨q + 1, by omega, by go_num, HB1, mkHid fun j y hj hy => ?_⟩
          by_cases e : j < q
          · exact HN.out j y e hy
          · obtain rfl : j = q := by omega
            rw [HX.out] at hy
            injection hy with hy
            rw [← hy]; exact HP.out
    · obtain rfl : q = n := by omega
      clear hs hp
      go_wp2_with fail
      go_ret
      refine ⟨?_, HB.out⟩
      rw [idxOf_miss fun j y hy => HN.out j y (by have := (List.getElem?_eq_some_iff.1 hy).1; have := HLN.out; omega) hy]
      rfl

end Go.Proofs.Ytgabjgmimebelaa
