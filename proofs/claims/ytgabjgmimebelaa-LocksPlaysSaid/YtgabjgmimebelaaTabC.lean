/- Table.Ahead and Table.May by contract. -/
import Derived.Test.YtgabjgmimebelaaTabB
namespace Go.Proofs.Ytgabjgmimebelaa
open Go.RowKit Go.Shelf

theorem placeOf_cases (es : List En) (num : Int) : (placeOf es num = -1 ∧ ∀ (j : Nat) e, es[j]? = some e → e.num ≠ num) ∨ ∃ (i : Nat) (e : En), placeOf es num = i ∧ es[i]? = some e ∧ e.num = num ∧ ∀ (j : Nat) e', j < i → es[j]? = some e' → e'.num ≠ num := by
  unfold placeOf idxOf
  cases h : es.findIdx? (fun x => x.num == num) with
  | none =>
    rw [List.findIdx?_eq_none_iff] at h
    exact .inl ⟨rfl, fun j e he => by simpa using h e (List.mem_of_getElem? he)⟩
  | some i =>
    rw [List.findIdx?_eq_some_iff_getElem] at h
    obtain ⟨hi, h1, h2⟩ := h
    refine .inr ⟨i, es[i], rfl, List.getElem?_eq_getElem hi, by simpa using h1, fun j e' hj he => ?_⟩
    have := h2 j hj
    obtain ⟨hjl, rfl⟩ := List.getElem?_eq_some_iff.1 he
    simpa using this

/-- The numbers of those among the first i that clash with e. -/
def aheadAt (es : List En) (i : Nat) (e : En) : List Int := ((es.take i).filter fun x => enClash x e).map En.num
/-- What an entry waits for. -/
def aheadOf (es : List En) (num : Int) : List Int := if placeOf es num < 0 then [] else aheadAt es (placeOf es num).toNat (es[(placeOf es num).toNat]?.getD ⟨0, []⟩)
theorem aheadAt_succ {es : List En} {i : Nat} {x : En} (e : En) (hx : es[i]? = some x) : aheadAt es (i + 1) e = aheadAt es i e ++ (if enClash x e then [x.num] else []) := by
  unfold aheadAt
  obtain ⟨hi, rfl⟩ := List.getElem?_eq_some_iff.1 hx
  rw [List.take_add_one, List.getElem?_eq_getElem hi, List.filter_append, List.map_append]
  congr 1
  by_cases hc : enClash es[i] e = true
  · simp [hc]
  · simp [hc]
theorem aheadAt_len (es : List En) (i : Nat) (e : En) : (aheadAt es i e).length ≤ i := by
  unfold aheadAt
  rw [List.length_map]
  exact Nat.le_trans (List.length_filter_le _ _) (by rw [List.length_take]; omega)

/-- A new slice of ints is answered; what was there is as it was. -/
def RetI (w : World) (l : List Int) (e : Ending) (w' : World) : Prop :=
  ∃ A c, e = .returned (.slice A l.length c) ∧ w'.ownsRow w.heap.size 3 1 (.slice A l.length c) l.length (l.map i64v) ∧ Below w.heap.size w w'

set_option maxRecDepth 20000 in
set_option maxHeartbeats 4000000 in
theorem ahead_any (F : Nat → Prop) (g : Nat) (es : List En) (last : Nat) (num : Int) (w : World) (h : T w F g es last) (hn : I64 num) :
    Calls Try.prog 22 #[.pointer (some ⟨g, 0, none⟩), .int .i64 num] w (RetI w (aheadOf es num)) := by
  have HP := mkHid (fun W hW => place_any F g es last num W hW hn)
  have HT := mkHid h
  rcases placeOf_cases es num with ⟨hp, -⟩ | ⟨at_, e, hp, he, -, -⟩
  · rw [hp] at HP
    rw [show aheadOf es num = [] by unfold aheadOf; rw [hp, if_pos (by omega)]]
    clear hp h
    go_enter Try.func22, Try.ntmps22
    go_wp2_with fail
    refine (HP.out _ HT.out).mono ?_
    rintro e w1 ⟨rfl, hb1⟩
    have HB := mkHid hb1
    clear hb1
    go_wp2_with fail
    go_ret
    exact ⟨none, 0, rfl, World.ownsRow_nil _ _ _ _, HB.out⟩
  · have hres : aheadOf es num = aheadAt es at_ e := by unfold aheadOf; rw [hp, if_neg (by omega), Int.toNat_natCast, he]; rfl
    rw [hp] at HP
    rw [hres]
    clear hp hres
    obtain ⟨A, n, c, cells, h⟩ := h
    have hat : at_ < n := by rw [← h.len]; exact (List.getElem?_eq_some_iff.1 he).1
    have hnl := h.nl
    obtain ⟨hc1, hc2⟩ := own_cap h.row
    obtain ⟨r, cap, hv, _, hr⟩ := h.row.form (by omega)
    obtain ⟨rfl, rfl⟩ : A = some ⟨r, 0, none⟩ ∧ c = cap := by injection hv with h1 h2 h3; exact ⟨h1, h3⟩
    clear hv
    have HTK := mkHid h
    have HE := mkHid he
    clear h he
    go_enter Try.func22, Try.ntmps22
    go_wp2_with fail
    refine (HP.out _ HT.out).mono ?_
    rintro e1 w1 ⟨rfl, hb1⟩
    have c0 := cell_of_row w1 g 0 _ _ _ (HTK.out.below hb1).blk
    have hsz1 := hb1.size
    simp at c0
    have HB := mkHid hb1
    clear hb1
    go_wp2_with fail
    go_loopw [21, 6] (fun i out wr => ∃ (q : Nat) (O : Option Addr) (L C : Nat), q ≤ at_ ∧ i = .int .i64 q ∧ out = .slice O L C ∧ L = (aheadAt es q e).length ∧ wr.ownsRow w.heap.size 3 1 (.slice O L C) L ((aheadAt es q e).map i64v) ∧ Below w.heap.size w wr) (fun i _ _ => at_ - (intOf i).toNat)
    case atStart => exact ⟨0, none, 0, 0, Nat.zero_le _, rfl, rfl, by simp [aheadAt], by simpa [aheadAt] using World.ownsRow_nil _ _ _ _, HB.out⟩
    case round =>
      clear c0
      obtain ⟨q, O, L, C, hq, rfl, rfl, hL, ho, hb⟩ := hrel
      by_cases hlt : q < at_
      · have tk := HTK.out.below hb
        have hsz := hb.size
        obtain ⟨b, o, x, p, m, k, hA, _, hx, hI, h0, h1, hcx, hsx⟩ := tk.list.2 q (by omega)
        obtain ⟨b', o', x', p', m', k', hA', _, hx', hI', h0', h1', hcx', hsx'⟩ := tk.list.2 at_ hat
        injection hA with hA; injection hA with e1 e2; subst e1; subst e2
        injection hA' with hA; injection hA with e1 e2; subst e1; subst e2
        obtain rfl : x' = e := by rw [HE.out] at hx'; injection hx' with hx'; exact hx'.symm
        have hg := cell_of_row wr g 0 _ _ _ tk.blk
        simp at hg
        rw [Nat.zero_add] at h0 h1 h0' h1'
        have tlt := tk.lt
        have hglt := tlt g tk.fg
        have hrlt := tlt r (tk.fr r rfl)
        have HPC := mkHid (show ∀ s : World, (∀ b, b < wr.heap.size + 1 → s.heap[b]? = (wr.alloc (.cells #[.int .i64 x.num, .slice p m k] 69)).heap[b]?) → s.cell? ⟨g, 0, none⟩ = some (.slice (some ⟨r, 0, none⟩) n c) ∧ s.cell? ⟨r, at_ * 2, none⟩ = some (.int .i64 x'.num) ∧ s.cell? ⟨r, at_ * 2 + 1, none⟩ = some (.slice p' m' k') ∧ s.cell? ⟨wr.heap.size, 0, none⟩ = some (.int .i64 x.num) ∧ s.cell? ⟨wr.heap.size, 1, none⟩ = some (.slice p m k) from fun s hs => by
          have hw : ∀ b, b < wr.heap.size → s.heap[b]? = wr.heap[b]? := fun b hb => (hs b (by omega)).trans (Below.heap_alloc _ _ _ hb)
          have hnew := (hs wr.heap.size (by omega)).trans (heap_alloc_new wr _)
          exact ⟨(World.cell?_of_block (w := wr) (hw g hglt)).trans hg, (World.cell?_of_block (w := wr) (hw r hrlt)).trans h0', (World.cell?_of_block (w := wr) (hw r hrlt)).trans h1', cell_of_row s _ 0 _ _ _ hnew, cell_of_row s _ 1 _ _ _ hnew⟩)
        have HSX := mkHid (show ∀ W : World, W.heap = (wr.alloc (.cells #[.int .i64 x.num, .slice p m k] 69)).heap → SS W (· < W.heap.size) p m x.spans from fun W hW => hsx.keep (fun b hb => by rw [hW]; exact Below.heap_alloc _ _ _ (tlt b hb)) fun b hb => by rw [hW]; have := tlt b hb; simp; omega)
        have HSX' := mkHid (show ∀ W : World, W.heap = (wr.alloc (.cells #[.int .i64 x.num, .slice p m k] 69)).heap → SS W (· < W.heap.size) p' m' x'.spans from fun W hW => hsx'.keep (fun b hb => by rw [hW]; exact Below.heap_alloc _ _ _ (tlt b hb)) fun b hb => by rw [hW]; have := tlt b hb; simp; omega)
        have HC0 := mkHid (HPC.out _ fun _ _ => rfl)
        have HCX := mkHid hcx
        have HCX' := mkHid hcx'
        have HX := mkHid hx
        have HO := mkHid ho
        have HL := mkHid hL
        have HBW := mkHid hb
        clear tk hsx hsx' hcx hcx' hx hx' ho hL hb tlt hI hI'
        go_wp2_with fail
        go_region_held3 (fun s => s.cell? ⟨g, 0, none⟩ = some (.slice (some ⟨r, 0, none⟩) n c) ∧ s.cell? ⟨r, at_ * 2, none⟩ = some (.int .i64 x'.num) ∧ s.cell? ⟨r, at_ * 2 + 1, none⟩ = some (.slice p' m' k') ∧ s.cell? ⟨wr.heap.size, 0, none⟩ = some (.int .i64 x.num) ∧ s.cell? ⟨wr.heap.size, 1, none⟩ = some (.slice p m k)) (first | exact HC0.out | assumption) (first | (go_at_call 39; refine (eclash_any x.num x'.num p p' m k m' k' x.spans x'.spans _ (HSX.out _ (by rfl)) HCX.out (HSX'.out _ (by rfl)) HCX'.out).mono ?_; rintro e w2 ⟨rfl, hb2⟩; have hpc := HPC.out w2 (fun b hb => hb2.block b (by simpa [World.drew] using hb)); have HB2 := mkHid hb2; clear hb2))
        rename_i hheld
        clear hheld
        have hk2 : ∀ b, b < wr.heap.size → w2.heap[b]? = wr.heap[b]? := fun b hb => (HB2.out.block b (by simp [World.drew]; omega)).trans (Below.heap_alloc wr _ b hb)
        have hs2 : wr.heap.size + 1 ≤ w2.heap.size := by have := HB2.out.size; simpa [World.drew] using this
        have HBW2 := mkHid ((HBW.out.alloc HBW.out.size (.cells #[.int .i64 x.num, .slice p m k] 69)).drew.trans (HB2.out.mono (by have := HBW.out.size; simp [World.drew]; omega)))
        have HO2 := mkHid (own_keep HO.out hk2)
        have hc0 := hpc.2.2.2.1
        clear hk2 HBW HB2 HO hpc
        cases hcl : (x.spans.any fun x => x'.spans.any fun y => clashOf x y) with
        | false =>
          have HCL := mkHid hcl
          clear hcl
          go_wp2_with fail
          go_roundw
          case rel =>
            refine ⟨q + 1, O, L, C, by omega, by go_num, rfl, ?_, ?_, HBW2.out⟩
            · rw [aheadAt_succ _ HX.out, show enClash x x' = false from HCL.out]; simpa using HL.out
            · rw [aheadAt_succ _ HX.out, show enClash x x' = false from HCL.out]; simpa using HO2.out
          case measure => simp [intOf]; omega
        | true =>
          have HCL := mkHid hcl
          clear hcl
          have hLq : L ≤ q := by rw [HL.out]; exact aheadAt_len es q x'
          have hbase := HBW2.out.size
          go_wp2_with (at_builtin; refine wpList_app _ rfl (.tmp 34) (.tmp 37) _ rfl w.heap.size el_int O L C _ rfl (HO2.out.alloc _) (w2.heap.size + 1) (some ⟨w2.heap.size, 0, none⟩) 1 1 [i64v x.num] rfl (SL.one _ _) (fun u hu => by obtain rfl := List.mem_singleton.1 hu; rfl) (by unfold maxLen; omega) (by omega) (by simp; omega) ?_; intro O' C' w3 ho3 hg3 hat3; have HO3 := mkHid ho3; have HG3 := mkHid hg3; clear ho3 hg3 hat3)
          go_roundw
          case rel =>
            refine ⟨q + 1, O', L + 1, C', by omega, by go_num, rfl, ?_, ?_, (HBW2.out.alloc hbase _).grown HG3.out (by simp; omega) (own_base HO2.out)⟩
            · rw [aheadAt_succ _ HX.out, show enClash x x' = true from HCL.out]; simpa using HL.out
            · rw [aheadAt_succ _ HX.out, show enClash x x' = true from HCL.out]; simpa using HO3.out
          case measure => simp [intOf]; omega
      · obtain rfl : q = at_ := by omega
        have HO := mkHid ho
        have HL := mkHid hL
        have HBW := mkHid hb
        clear ho hL hb
        go_wp2_with fail
        go_ret
        obtain rfl := HL.out
        exact ⟨O, C, rfl, HO.out, HBW.out⟩

def mayOf (es : List En) (num : Int) : Bool := decide (0 ≤ placeOf es num) && (aheadOf es num).isEmpty

set_option maxRecDepth 20000 in
theorem may_any (F : Nat → Prop) (g : Nat) (es : List En) (last : Nat) (num : Int) (w : World) (h : T w F g es last) (hn : I64 num) :
    Calls Try.prog 21 #[.pointer (some ⟨g, 0, none⟩), .int .i64 num] w fun e w' => e = .returned (.bool (mayOf es num)) ∧ Below w.heap.size w w' := by
  have HP := mkHid (place_any F g es last num w h hn)
  have HA := mkHid (fun W hW => ahead_any F g es last num W hW hn)
  have HT := mkHid h
  clear h
  cases hp : decide (0 ≤ placeOf es num) with
  | false =>
    rw [show mayOf es num = false by unfold mayOf; rw [hp]; rfl]
    have hp := of_decide_eq_false hp
    go_enter Try.func21, Try.ntmps21
    go_wp2_with fail
    refine HP.out.mono ?_
    rintro e w1 ⟨rfl, hb1⟩
    go_wp2_with fail
    go_ret
    exact ⟨rfl, hb1⟩
  | true =>
    rw [show mayOf es num = (aheadOf es num).isEmpty by unfold mayOf; rw [hp]; rfl]
    have hp := of_decide_eq_true hp
    go_enter Try.func21, Try.ntmps21
    go_wp2_with fail
    refine HP.out.mono ?_
    rintro e w1 ⟨rfl, hb1⟩
    have HB := mkHid hb1
    clear hb1
    go_wp2_with fail
    refine (HA.out _ (HT.out.below HB.out)).mono ?_
    rintro e w2 ⟨A, c, rfl, _, hb2⟩
    have HB2 := mkHid hb2
    clear hb2
    go_wp2_with fail
    go_ret
    refine ⟨ret_bool ?_, HB.out.trans (HB2.out.mono HB.out.size)⟩
    cases aheadOf es num <;> simp; omega

end Go.Proofs.Ytgabjgmimebelaa
