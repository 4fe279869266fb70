/- portagelaw15.ints, portageref15.Right, There, Without and Ahead by contract. -/
import Derived.Test.YtgabjgmimebelaaLkQ
import Derived.Test.YtgabjgmimebelaaErrIs
namespace Go.Proofs.Ytgabjgmimebelaa
open Go.RowKit Go.Shelf

section
variable {w wr w1 : World} {F F' : Nat → Prop} {A : Option Addr} {n c : Nat} {cells : List Value} {es : List En}
theorem AL.at_ (h : AL w wr F A n c cells es) {j : Nat} (hj : j < n) : ∃ r e a m k, A = some ⟨r, 0, none⟩ ∧ r < wr.heap.size ∧ es[j]? = some e ∧ I64 e.num ∧ wr.cell? ⟨r, j * 2, none⟩ = some (.int .i64 e.num) ∧ wr.cell? ⟨r, j * 2 + 1, none⟩ = some (.slice a m k) ∧ CapOk m k ∧ SS w (· < w.heap.size) a m e.spans := by
  have hl := h.len
  obtain ⟨a, m, k, h0, h1, hi, hc, hs⟩ := h.els j _ (List.getElem?_eq_getElem (by omega))
  obtain ⟨r, cap, hv, _, hlt⟩ := h.row.form (by omega)
  have ha : A = some ⟨r, 0, none⟩ := by injection hv
  subst ha
  have c0 := h.row.cells (g := r) rfl _ _ h0
  have c1 := h.row.cells (g := r) rfl _ _ h1
  have e1 : ∀ q, (⟨r, 0, none⟩ : Addr).add q = ⟨r, q, none⟩ := by intro q; unfold Addr.add; split <;> simp_all
  rw [e1] at c0 c1
  exact ⟨r, _, a, m, k, rfl, hlt, List.getElem?_eq_getElem (by omega), hi, c0, c1, hc, hs⟩
/-- Behind an append of an entry. -/
theorem AL.put (h : AL w wr F A n c cells es) {e : En} (hF : ∀ b, F b → b < wr.heap.size) {W : World} (hb : Below wr.heap.size wr W) {p : Option Addr} {m k : Nat} (hs : SS w (· < w.heap.size) p m e.spans) (hk : CapOk m k) (hI : I64 e.num)
    {A' : Option Addr} {c' : Nat} {w3 : World} (ho : w3.ownsRow w.heap.size 42 2 (.slice A' (n + 1) c') (n + 1) (cells ++ [.int .i64 e.num, .slice p m k]))
    (hat : (Value.slice A' (n + 1) c').ownBlock = (Value.slice A n c).ownBlock ∨ (Value.slice A' (n + 1) c').ownBlock = some W.heap.size) : AL w w3 F A' (n + 1) c' (cells ++ [.int .i64 e.num, .slice p m k]) (es ++ [e]) := by
  have hl := h.len
  have hcl : cells.length = n * 2 := h.row.1
  have hsz := hb.size
  refine ⟨ho, by simp [hl], fun j e' he => ?_, fun r hr hf => ?_⟩
  · by_cases hj : j < es.length
    · rw [List.getElem?_append_left hj] at he
      obtain ⟨a, m', k', h0, h1, h2⟩ := h.els j e' he
      exact ⟨a, m', k', by rw [List.getElem?_append_left (by omega)]; exact h0, by rw [List.getElem?_append_left (by omega)]; exact h1, h2⟩
    · have hjl := (List.getElem?_eq_some_iff.1 he).1
      rw [List.length_append, List.length_singleton] at hjl
      obtain rfl : j = n := by omega
      rw [List.getElem?_append_right (by omega), hl, Nat.sub_self] at he
      obtain rfl : e = e' := by simpa using he
      exact ⟨p, m, k, by rw [List.getElem?_append_right (by omega), hcl, Nat.sub_self]; rfl, by rw [List.getElem?_append_right (by omega), hcl, show j * 2 + 1 - j * 2 = 1 by omega]; rfl, hI, hk, hs⟩
  · rcases hat with h1 | h1
    · exact h.apart r (h1 ▸ hr) hf
    · rw [h1] at hr
      injection hr with hr
      have := hF r hf
      omega
end

set_option maxRecDepth 20000 in
theorem ints_any (a b : Option Addr) (n m c d : Nat) (l k : List Int) (w : World) (hx : IS w w.heap.size a n l) (hy : IS w w.heap.size b m k) (hn : n ≤ 1000000) (hlk : l = k) :
    Calls Try.prog 28 #[.slice a n c, .slice b m d] w fun e w' => e = .returned (.bool true) ∧ Below w.heap.size w w' := by
  subst hlk
  have hnm : n = m := by rw [← hx.len, ← hy.len]
  subst hnm
  have hnn : ((n : Int) != (n : Int)) = false := by simp
  go_enter Try.func28, Try.ntmps28
  go_wp2_with fail
  go_loopw [13] (fun i wr => ∃ q : Nat, q ≤ n ∧ i = .int .i64 q ∧ Below w.heap.size w wr) (fun i _ => n - (intOf i).toNat)
  case atStart => exact ⟨0, Nat.zero_le _, rfl, Below.refl _ _⟩
  case round =>
    obtain ⟨q, hq, rfl, hb⟩ := hrel
    by_cases hlt : q < n
    · obtain ⟨b1, o1, rfl, hb1, h1, hI⟩ := (hx.below hb).at_ hlt
      obtain ⟨b2, o2, rfl, hb2, h2, _⟩ := (hy.below hb).at_ hlt
      generalize l[q]?.getD 0 = x at *
      have hxx : (x != x) = false := by simp
      have HC := mkHid (And.intro h1 h2)
      have HB := mkHid hb
      have HX := mkHid hx
      have HY := mkHid hy
      clear hx hy hb
      go_wp2_with fail
      go_region_held3 (fun s => s.cell? ⟨b1, o1 + q, none⟩ = some (.int .i64 x) ∧ s.cell? ⟨b2, o2 + q, none⟩ = some (.int .i64 x)) (first | exact HC.out | assumption) (fail)
      go_wp2_with fail
      go_roundw
      case rel => exact ⟨q + 1, by omega, by go_num, HB.out.drew⟩
      case measure => simp [intOf]; omega
    · obtain rfl : q = n := by omega
      clear hx hy
      go_wp2_with fail
      go_ret
      exact ⟨rfl, hb⟩

set_option maxRecDepth 20000 in
set_option maxHeartbeats 1000000 in
theorem there_any (a : Option Addr) (n c : Nat) (es : List En) (num : Int) (w : World) (hs : ES w (· < w.heap.size) a n es) (hn : n ≤ 1000) :
    Calls Try.prog 25 #[.slice a n c, .int .i64 num] w fun e w' => e = .returned (.bool (es.any fun x => x.num == num)) ∧ Below w.heap.size w w' := by
  obtain rfl := hs.1
  have HS := mkHid hs
  clear hs
  go_enter Try.func25, Try.ntmps25
  go_wp2_with fail
  go_loopw [5] (fun i wr => ∃ q : Nat, q ≤ es.length ∧ i = .int .i64 q ∧ Hid (Below w.heap.size w wr) ∧ Hid (∀ x, x ∈ es.take q → (x.num == num) = false)) (fun i _ => es.length - (intOf i).toNat)
  case atStart => exact ⟨0, Nat.zero_le _, rfl, mkHid (Below.refl _ _), mkHid fun x hx => by simp at hx⟩
  case round =>
    obtain ⟨q, hq, rfl, HB, HN⟩ := hrel
    by_cases hlt : q < es.length
    · obtain ⟨b, o, e, p, m, k, rfl, hbs, hxq, hIe, h0, h1, hc, hss⟩ := HS.out.2 q hlt
      have c0 := (HB.out.cell (p := ⟨b, o + q * 2, none⟩) hbs).trans h0
      have HX := mkHid hxq
      clear h0 h1 hxq hss hc
      cases hnum : e.num == num with
      | true =>
        have hnn : e.num = num := by simpa using hnum
        go_wp2_with fail
        go_ret
        refine ⟨ret_bool ?_, HB.out⟩
        symm
        exact List.any_eq_true.2 ⟨e, List.mem_of_getElem? HX.out, by simpa using hnn⟩
      | false =>
        have HNN := mkHid hnum
        go_wp2_with fail
        go_roundw
        case rel => exact ⟨q + 1, by omega, by go_num, HB, mkHid fun z hz => by
          rw [List.take_add_one, HX.out] at hz
          rcases List.mem_append.1 hz with h | h
          · exact HN.out z h
          · obtain rfl := List.mem_singleton.1 h
            exact HNN.out⟩
        case measure => simp [intOf]; omega
    · obtain rfl : q = es.length := by omega
      go_wp2_with fail
      go_ret
      refine ⟨ret_bool ?_, HB.out⟩
      symm
      rw [List.any_eq_false]
      intro z hz
      rw [HN.out z (by rw [List.take_length]; exact hz)]
      decide

set_option maxRecDepth 20000 in
set_option maxHeartbeats 1000000 in
/-- 'Without' of the law's own row: a new row. -/
theorem without_any (w : World) (F : Nat → Prop) (a : Option Addr) (n c : Nat) (cells : List Value) (es : List En) (num : Int) (v : World) (h : AL w v F a n c cells es) (hb : Below w.heap.size w v) (hF : ∀ b, F b → b < v.heap.size) (hn : n ≤ 1000) :
    Calls Try.prog 27 #[.slice a n c, .int .i64 num] v fun e w' => ∃ A' c' cells', e = .returned (.slice A' (es.filter fun x => x.num != num).length c') ∧ AL w w' F A' (es.filter fun x => x.num != num).length c' cells' (es.filter fun x => x.num != num) ∧ Below v.heap.size v w' := by
  have HS := mkHid (h.list hb)
  have hbs := hb.size
  obtain rfl := h.len
  have HA := mkHid h
  have HBB := mkHid hb
  have HF := mkHid hF
  clear h hb hF
  go_enter Try.func27, Try.ntmps27
  go_wp2_with fail
  go_loopw [5, 6] (fun out i wr => ∃ (q : Nat) (O : Option Addr) (m C : Nat) (cs : List Value), q ≤ es.length ∧ i = .int .i64 q ∧ out = .slice O m C ∧ m ≤ q ∧ Hid (Below v.heap.size v wr) ∧ Hid (AL w wr F O m C cs ((es.take q).filter fun x => x.num != num)) ∧ Hid (∀ r, (Value.slice O m C).ownBlock = some r → v.heap.size ≤ r)) (fun _ i _ => es.length - (intOf i).toNat)
  case atStart => exact ⟨0, none, 0, 0, [], Nat.zero_le _, rfl, rfl, Nat.le_refl _, mkHid (Below.refl _ _), mkHid ⟨World.ownsRow_nil _ _ _ _, rfl, fun j e he => by simp at he, fun r hr => by cases hr⟩, mkHid fun r hr => by cases hr⟩
  case round =>
    obtain ⟨q, O, m, C, cs, hq, rfl, rfl, hm, HB, HO, HG⟩ := hrel
    have hcs := HO.out.len
    by_cases hlt : q < es.length
    · obtain ⟨r, e, p, m2, k2, rfl, hrl, hxq, hIe, h0, h1, hc, hss⟩ := HA.out.at_ hlt
      have c0 := (HB.out.cell (p := ⟨r, q * 2, none⟩) hrl).trans h0
      have c1 := (HB.out.cell (p := ⟨r, q * 2 + 1, none⟩) hrl).trans h1
      have HX := mkHid hxq
      have HSS := mkHid hss
      have HC := mkHid hc
      have HI := mkHid hIe
      have htk : es.take (q + 1) = es.take q ++ [e] := by rw [List.take_add_one, hxq]; rfl
      have HTK := mkHid htk
      clear h0 h1 hxq hss hc hIe htk
      cases hnum : e.num != num with
      | false =>
        have HNN := mkHid hnum
        go_wp2_with fail
        go_roundw
        case rel => exact ⟨q + 1, O, m, C, cs, by omega, by go_num, rfl, by omega, HB, mkHid (by rw [HTK.out, List.filter_append, List.filter_cons_of_neg (p := fun x : En => x.num != num) (by rw [HNN.out]; decide)]; simpa using HO.out), HG⟩
        case measure => simp [intOf]; omega
      | true =>
        have HNN := mkHid hnum
        have hsz2 := HB.out.size
        have HBA := mkHid ((Below.refl wr.heap.size wr).alloc (Nat.le_refl _) (.cells #[.int .i64 e.num, .slice p m2 k2] 42))
        have HRW := mkHid (own_below HO.out.row HBA.out)
        go_wp2_with (at_builtin; refine wpList_app _ rfl (.tmp 20) (.tmp 25) _ rfl w.heap.size el_rent O m C cs rfl HRW.out (wr.heap.size + 1) (some ⟨wr.heap.size, 0, none⟩) 1 1 [.int .i64 e.num, .slice p m2 k2] rfl (SL.of_block (heap_alloc_new wr _) rfl (by omega)) (fun u hu => by simp at hu; rcases hu with rfl | rfl <;> rfl) (by unfold maxLen; omega) (by omega) (by simp; omega) ?_; intro O4 C4 w4 ho4 hg4 hat4; have HO4 := mkHid (HO.out.put (fun b hb => Nat.lt_of_lt_of_le (HF.out b hb) HB.out.size) HBA.out HSS.out HC.out HI.out ho4 hat4); have HB4 := mkHid ((HB.out.alloc hsz2 (.cells #[.int .i64 e.num, .slice p m2 k2] 42)).grown hg4 (by simp; omega) HG.out); have HG4 := mkHid (show ∀ r, (Value.slice O4 (m + 1) C4).ownBlock = some r → v.heap.size ≤ r from fun r hr => by (rcases hat4 with h | h; exact HG.out r (h ▸ hr); rw [h] at hr; injection hr with hr; subst hr; simp; omega)); clear ho4 hg4 hat4)
        go_roundw
        case rel => exact ⟨q + 1, O4, m + 1, C4, _, by omega, by go_num, rfl, by omega, HB4, mkHid (by rw [HTK.out, List.filter_append, List.filter_cons_of_pos (p := fun x : En => x.num != num) HNN.out]; exact HO4.out), HG4⟩
        case measure => simp [intOf]; omega
    · obtain rfl : q = es.length := by omega
      rw [List.take_length] at HO hcs
      go_wp2_with fail
      go_ret
      rw [hcs]
      exact ⟨O, C, cs, rfl, HO.out, HB.out⟩

theorem ahead_idx {es : List En} (hup : Up es) (num : Int) : ∃ (i0 : Nat) (e0 : En), i0 ≤ es.length ∧ (∀ (j : Nat) e, es[j]? = some e → (e.num == num) = decide (j = i0)) ∧ (i0 < es.length → es[i0]? = some e0) ∧ aheadOf es num = if i0 < es.length then aheadAt es i0 e0 else [] := by
  unfold aheadOf
  rcases placeOf_cases es num with ⟨h1, h2⟩ | ⟨i, e, h1, h2, h3, _⟩
  · refine ⟨es.length, ⟨0, []⟩, Nat.le_refl _, fun j e he => ?_, fun h => absurd h (by omega), by rw [h1]; simp⟩
    have := (List.getElem?_eq_some_iff.1 he).1
    rw [decide_eq_false (by omega)]
    simpa using h2 j e he
  · have hl := (List.getElem?_eq_some_iff.1 h2).1
    refine ⟨i, e, by omega, fun j e' he => ?_, fun _ => h2, by rw [h1, if_neg (by omega), if_pos hl, Int.toNat_natCast, h2]; rfl⟩
    by_cases hj : j = i
    · subst hj
      rw [h2] at he
      cases he
      simp [h3]
    · rw [decide_eq_false hj]
      rw [beq_eq_false_iff_ne]
      intro h
      exact hj (hup.inj he h2 (by rw [h, h3]))
end Go.Proofs.Ytgabjgmimebelaa
