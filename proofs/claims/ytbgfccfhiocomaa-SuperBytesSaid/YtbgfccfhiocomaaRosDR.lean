/- Roster's those, Members, Actives, Room, State by contract. -/
import Derived.Test.YtbgfccfhiocomaaRosCR
namespace Go.Proofs.Ytbgfccfhiocomaa
open Go.RowKit Go.Shelf

/-- The places, of the first k, of those that p takes. -/
def placesOf (p : Int × Int → Bool) (xs : List (Int × Int)) (k : Nat) : List Int := ((List.range k).filter fun j => p (xs[j]?.getD (0, 0))).map fun j => ((j : Nat) : Int)
theorem places_yes {p : Int × Int → Bool} {xs : List (Int × Int)} {k : Nat} {x : Int × Int} (hx : xs[k]? = some x) (hp : p x = true) : placesOf p xs (k + 1) = placesOf p xs k ++ [(k : Int)] := by
  unfold placesOf
  rw [List.range_succ, List.filter_append, List.map_append]
  simp [hx, hp]
theorem places_no {p : Int × Int → Bool} {xs : List (Int × Int)} {k : Nat} {x : Int × Int} (hx : xs[k]? = some x) (hp : p x = false) : placesOf p xs (k + 1) = placesOf p xs k := by
  unfold placesOf
  rw [List.range_succ, List.filter_append, List.map_append]
  simp [hx, hp]
theorem places_len (p : Int × Int → Bool) (xs : List (Int × Int)) (k : Nat) : (placesOf p xs k).length ≤ k := by
  unfold placesOf
  rw [List.length_map]
  have := List.length_filter_le (fun j => p (xs[j]?.getD (0, 0))) (List.range k)
  simpa using this
theorem places_mem {p : Int × Int → Bool} {xs : List (Int × Int)} {k : Nat} {v : Int} (h : v ∈ placesOf p xs k) : ∃ j : Nat, v = j ∧ j < k ∧ p (xs[j]?.getD (0, 0)) = true := by
  unfold placesOf at h
  obtain ⟨j, hj, rfl⟩ := List.mem_map.1 h
  obtain ⟨h1, h2⟩ := List.mem_filter.1 hj
  exact ⟨j, rfl, List.mem_range.1 h1, h2⟩

/-- A new slice of ints is answered; what was there is as it was. -/
def RetI (w : World) (l : List Int) (e : Ending) (w' : World) : Prop :=
  ∃ A C, e = .returned (.slice A l.length C) ∧ IS w' w'.heap.size A l.length l ∧ CapOk l.length C ∧ Below w.heap.size w w'
theorem el_int : ElemOk Try.prog 56 3 1 8 := .mk' Try.underlying56 (z := .int .i64 0) (by kernel_rfl) rfl (by decide)
theorem one_int (x : Int) : ∀ u ∈ [Value.int .i64 x], u.oneCell' = true := by
  intro u hu
  obtain rfl := List.mem_singleton.1 hu
  rfl

set_option maxRecDepth 20000 in
set_option maxHeartbeats 1000000 in
theorem those_ok (p : Int × Int → Bool) (g : Nat) (fst caps : Array Value) (eg : ∀ args w, (callFunc g args).run Try.prog w = .ok (.enter g args) w) (a : Option Addr) (n c : Nat) (xs : List (Int × Int)) (w : World) (hp : PredE g fst caps p w) (hs : ES w w.heap.size a n xs) (hc : CapOk n c) (hr : rightL xs = true) :
    Calls Try.prog 57 #[.agg #[.slice a n c], .func (.func g) fst caps] w (RetI w (placesOf p xs xs.length)) := by
  have hln := hs.len
  have hn8 : n ≤ 8 := by
    unfold rightL at hr
    rw [Bool.and_eq_true] at hr
    have := of_decide_eq_true hr.1
    omega
  obtain ⟨W, hW⟩ : ∃ W, w.alloc (.cells #[.slice a n c] 33) = W := ⟨_, rfl⟩
  have hal : Below w.heap.size w W := by rw [← hW]; exact (Below.refl _ _).alloc (Nat.le_refl _) _
  have hsz : W.heap.size = w.heap.size + 1 := by rw [← hW]; simp
  have hbx : W.heap[w.heap.size]? = some (.cells #[.slice a n c] 33) := by rw [← hW]; exact heap_alloc_new _ _
  have HBX := mkHid (cell_of_row W w.heap.size 0 _ _ _ hbx)
  have HSZ := mkHid hsz
  have HAL := mkHid hal
  have HES := mkHid (hs.next hal)
  have HP := mkHid (hp.next hal)
  have HC := mkHid hc
  have HR := mkHid hr
  have HLN := mkHid hln
  obtain ⟨hc1, hc2, hc3⟩ := hc
  clear hp hs hr hbx hsz hal hln
  have c1 : W.cell? ⟨w.heap.size, 0, none⟩ = some (.slice a n c) := HBX.out
  go_enter Try.func57, Try.ntmps57
  go_wp2_with fail
  clear hW
  go_loopw [5, 11] (fun v i wr => ∃ (k : Nat) (A : Option Addr) (C : Nat), k ≤ n ∧ i = .int .i64 k ∧ v = .slice A (placesOf p xs k).length C ∧ Hid (wr.ownsRow W.heap.size 3 1 (.slice A (placesOf p xs k).length C) (placesOf p xs k).length ((placesOf p xs k).map i64v)) ∧ Hid (Below W.heap.size W wr)) (fun _ i _ => n - (intOf i).toNat)
  case atStart => exact ⟨0, none, 0, Nat.zero_le _, rfl, by simp [placesOf], mkHid (World.ownsRow_nil _ _ _ _), mkHid (Below.refl _ _)⟩
  case round =>
    obtain ⟨k, A, C, hk, rfl, rfl, HO, HB⟩ := hrel
    have hlen := places_len p xs k
    by_cases hlt : k < n
    · obtain ⟨b, o, x, rfl, hb, hx, hok, h0, h1⟩ := HES.out.at_ hlt
      have c0 := (HB.out.cell (p := ⟨b, o + k * 2, none⟩) hb).trans h0
      have c1' := (HB.out.cell (p := ⟨b, o + k * 2 + 1, none⟩) hb).trans h1
      have cb := (HB.out.cell (p := ⟨w.heap.size, 0, none⟩) (by rw [HSZ.out]; show w.heap.size < _; omega)).trans HBX.out
      have hws : w.heap.size < wr.heap.size := by have := HB.out.size; rw [HSZ.out] at this; omega
      simp at cb
      have HX := mkHid hx
      have HOK := mkHid hok
      clear h0 h1 hx c1 hok
      go_wp2_with fail
      refine (check_ok _ n c xs _ ((HES.out.next HB.out).next ((Below.refl _ _).alloc (Nat.le_refl _) _)) HC.out HR.out).mono ?_
      rintro e w1 ⟨rfl, hb1⟩
      have hew : w1.heap[wr.heap.size]? = some (.cells #[.int .i64 x.1, .int .i64 x.2] 74) := (hb1.block _ (by simp)).trans (heap_alloc_new _ _)
      have d0 := cell_of_row w1 wr.heap.size 0 _ _ _ hew
      have d1 := cell_of_row w1 wr.heap.size 1 _ _ _ hew
      simp at d0 d1
      have hb1' : Below wr.heap.size wr w1 := ((Below.refl _ _).alloc (Nat.le_refl _) _).trans (hb1.mono (by simp))
      have HB1 := mkHid (HB.out.trans (hb1'.mono HB.out.size))
      have HO1 := mkHid (own_below HO.out hb1')
      have hcall := HP.out w1 x HOK.out HB1.out
      unfold enV at hcall
      clear hew hb1 hb1'
      go_wp2_with fail
      refine hcall.mono ?_
      rintro e w2 ⟨rfl, hb2⟩
      have HB2 := mkHid (HB1.out.trans (hb2.mono HB1.out.size))
      have HO2 := mkHid (own_below HO1.out hb2)
      clear hb2 hcall
      cases hpx : p x with
      | true =>
        have HPL := mkHid (places_yes HX.out hpx)
        have hsz2 := HB2.out.size
        clear hpx
        generalize hL : placesOf p xs k = L at *
        have HL := mkHid hL
        clear hL
        go_wp2_with (at_builtin; refine wpList_app _ rfl (.tmp 24) (.tmp 26) _ rfl W.heap.size el_int A L.length C _ rfl (HO2.out.alloc _) (w2.heap.size + 1) (some ⟨w2.heap.size, 0, none⟩) 1 1 [.int .i64 k] rfl (SL.one _ _) (one_int _) (by unfold maxLen; omega) (by omega) (by simp; omega) ?_; intro A' C' w3 hown hg hat)
        have HO3 := mkHid hown
        have HB3 := mkHid ((HB2.out.alloc hsz2 _).grown hg (by simp; omega) (own_base HO2.out))
        clear hown hg hat
        go_roundw
        case measure => simp [intOf]; omega
        case rel =>
          refine ⟨k + 1, A', C', by omega, by go_num, by rw [HPL.out]; simp, mkHid ?_, HB3⟩
          rw [HPL.out, List.length_append, List.map_append]
          exact HO3.out
      | false =>
        have HPL := mkHid (places_no HX.out hpx)
        clear hpx
        go_wp2_with fail
        go_roundw
        case measure => simp [intOf]; omega
        case rel => exact ⟨k + 1, A, C, by omega, by go_num, by rw [HPL.out], by rw [HPL.out]; exact HO2, HB2⟩
    · obtain rfl : k = n := by omega
      have HBW := mkHid (HAL.out.trans (HB.out.mono HAL.out.size))
      clear c1
      go_wp2_with fail
      go_ret
      rw [HLN.out]
      refine ⟨A, C, rfl, ⟨SL.of_own HO.out, fun v hv => ?_⟩, ⟨(own_cap HO.out).1, (own_cap HO.out).2, by omega⟩, HBW.out⟩
      obtain ⟨j, rfl, hj, _⟩ := places_mem hv
      unfold I64
      omega

set_option maxRecDepth 20000 in
set_option maxHeartbeats 1000000 in
theorem those_no (g : Nat) (fst caps : Array Value) (a : Option Addr) (n c : Nat) (xs : List (Int × Int)) (w : World) (hs : ES w w.heap.size a n xs) (hc : CapOk n c) (hr : rightL xs = false) :
    Calls Try.prog 57 #[.agg #[.slice a n c], .func (.func g) fst caps] w (RetI w []) := by
  obtain ⟨W, hW⟩ : ∃ W, w.alloc (.cells #[.slice a n c] 33) = W := ⟨_, rfl⟩
  have hal : Below w.heap.size w W := by rw [← hW]; exact (Below.refl _ _).alloc (Nat.le_refl _) _
  have hsz : W.heap.size = w.heap.size + 1 := by rw [← hW]; simp
  have hbx : W.heap[w.heap.size]? = some (.cells #[.slice a n c] 33) := by rw [← hW]; exact heap_alloc_new _ _
  have HBX := mkHid (cell_of_row W w.heap.size 0 _ _ _ hbx)
  have HSZ := mkHid hsz
  have HAL := mkHid hal
  have HES := mkHid (hs.next hal)
  have HC := mkHid hc
  have HR := mkHid hr
  obtain ⟨hc1, hc2, hc3⟩ := hc
  clear hs hr hbx hsz hal
  have c1 : W.cell? ⟨w.heap.size, 0, none⟩ = some (.slice a n c) := HBX.out
  go_enter Try.func57, Try.ntmps57
  go_wp2_with fail
  clear hW
  go_loopw [5, 11] (fun v i wr => ∃ (k : Nat), k ≤ n ∧ i = .int .i64 k ∧ v = .slice none 0 0 ∧ Hid (Below W.heap.size W wr)) (fun _ i _ => n - (intOf i).toNat)
  case atStart => exact ⟨0, Nat.zero_le _, rfl, rfl, mkHid (Below.refl _ _)⟩
  case round =>
    obtain ⟨k, hk, rfl, rfl, HB⟩ := hrel
    by_cases hlt : k < n
    · obtain ⟨b, o, x, rfl, hb, hx, hok, h0, h1⟩ := HES.out.at_ hlt
      have c0 := (HB.out.cell (p := ⟨b, o + k * 2, none⟩) hb).trans h0
      have c1' := (HB.out.cell (p := ⟨b, o + k * 2 + 1, none⟩) hb).trans h1
      have cb := (HB.out.cell (p := ⟨w.heap.size, 0, none⟩) (by rw [HSZ.out]; show w.heap.size < _; omega)).trans HBX.out
      have hws : w.heap.size < wr.heap.size := by have := HB.out.size; rw [HSZ.out] at this; omega
      simp at cb
      clear h0 h1 hx c1 hok
      go_wp2_with fail
      refine (check_no _ n c xs _ ((HES.out.next HB.out).next ((Below.refl _ _).alloc (Nat.le_refl _) _)) HC.out HR.out).mono ?_
      rintro e w1 ⟨rfl, hb1⟩
      have hb1' : Below wr.heap.size wr w1 := ((Below.refl _ _).alloc (Nat.le_refl _) _).trans (hb1.mono (by simp))
      have HB1 := mkHid (HB.out.trans (hb1'.mono HB.out.size))
      clear hb1 hb1'
      go_wp2_with fail
      go_roundw
      case measure => simp [intOf]; omega
      case rel => exact ⟨k + 1, by omega, by go_num, rfl, HB1⟩
    · obtain rfl : k = n := by omega
      have HBW := mkHid (HAL.out.trans (HB.out.mono HAL.out.size))
      clear c1
      go_wp2_with fail
      go_ret
      exact ⟨none, 0, rfl, IS.nil, ⟨by simp, by unfold maxLen; omega, by simp⟩, HBW.out⟩
def thoseOf (p : Int × Int → Bool) (xs : List (Int × Int)) : List Int := if rightL xs = true then placesOf p xs xs.length else []
theorem those_any (p : Int × Int → Bool) (g : Nat) (fst caps : Array Value) (eg : ∀ args w, (callFunc g args).run Try.prog w = .ok (.enter g args) w) (a : Option Addr) (n c : Nat) (xs : List (Int × Int)) (w : World) (hp : PredE g fst caps p w) (hs : ES w w.heap.size a n xs) (hc : CapOk n c) :
    Calls Try.prog 57 #[.agg #[.slice a n c], .func (.func g) fst caps] w (RetI w (thoseOf p xs)) := by
  unfold thoseOf
  cases hr : rightL xs with
  | true => exact those_ok p g fst caps eg a n c xs w hp hs hc hr
  | false => exact those_no g fst caps a n c xs w hs hc hr

set_option maxRecDepth 20000 in
theorem members_any (a : Option Addr) (n c : Nat) (xs : List (Int × Int)) (w : World) (hs : ES w w.heap.size a n xs) (hc : CapOk n c) :
    Calls Try.prog 23 #[.agg #[.slice a n c]] w (RetI w (thoseOf memberB xs)) := by
  have hal : Below w.heap.size w (w.alloc (.cells #[.slice a n c] 33)) := (Below.refl _ _).alloc (Nat.le_refl _) _
  have HT := mkHid (those_any memberB _ #[] #[] eg_member a n c xs _ (pred_member _) (hs.next hal) hc)
  have HAL := mkHid hal
  clear hs hc hal
  go_enter Try.func23, Try.ntmps23
  go_wp2_with fail
  refine HT.out.mono ?_
  rintro e w1 ⟨A, C, rfl, his, hcap, hb1⟩
  go_wp2_with fail
  go_ret
  exact ⟨A, C, rfl, his, hcap, HAL.out.trans (hb1.mono HAL.out.size)⟩



theorem rightL_ok {xs : List (Int × Int)} (h : rightL xs = true) : xs.length ≤ 8 ∧ ∀ x ∈ xs, rightE x = true := by
  unfold rightL at h
  rw [Bool.and_eq_true] at h
  exact ⟨of_decide_eq_true h.1, fun x hx => List.all_eq_true.1 h.2 x hx⟩


end Go.Proofs.Ytbgfccfhiocomaa
