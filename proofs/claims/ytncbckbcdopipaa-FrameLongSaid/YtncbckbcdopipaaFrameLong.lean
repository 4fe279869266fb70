/- FrameLong: the walk of the law. -/
import Derived.Test.YtncbckbcdopipaaPacks
import Derived.Test.YtncbckbcdopipaaAwake02
import Derived.Test.YtncbckbcdopipaaSame
namespace Go.Proofs.Ytncbckbcdopipaa
open Go.RowKit

theorem three_ok {x : Int} (h : I64 x) : ∀ y ∈ [x], I64 y := by
  intro y hy
  obtain rfl := List.mem_singleton.1 hy
  exact h
theorem two_ok {x y : Int} (h : I64 x) (k : I64 y) : ∀ z ∈ [x, y], I64 z := by
  intro z hz
  simp only [List.mem_cons, List.not_mem_nil, or_false] at hz
  rcases hz with rfl | rfl
  · exact h
  · exact k

set_option maxRecDepth 20000 in
set_option maxHeartbeats 2000000 in
theorem long_any (x y z : Int) (w : World) (hx : I64 x) (hy : I64 y) (hz : I64 z) :
    Calls Try.prog 9 #[.int .i64 x, .int .i64 y, .int .i64 z] w fun e w' => e = .returned (.bool true) ∧ Below w.heap.size w w' := by
  have HX := mkHid hx
  have HY := mkHid hy
  have HZ := mkHid hz
  clear hx hy hz
  go_enter Try.func9, Try.ntmps9
  go_wp2_with fail
  refine (newPacker_any w).mono ?_
  rintro e w1 ⟨rfl, hp1, hb1⟩
  have HP1 := mkHid (hp1.alloc (.cells #[.int .i64 x] 3))
  have HB1 := mkHid (hb1.alloc hb1.size (.cells #[.int .i64 x] 3))
  clear hp1 hb1
  go_wp2_with fail
  refine (pLong_any w.heap.size w.heap.size none 0 0 [] false w1.heap.size 1 1 [x] (0, 0) _ HP1.out (heap_alloc_new w1 _) rfl (three_ok HX.out) (by omega)).mono ?_
  rintro e w2 ⟨rfl, ⟨A2, n2, C2, hp2⟩, hb2⟩
  have hn2 : n2 = 8 := by have := hp2.len; simp [packs_len] at this; omega
  subst hn2
  have HP2 := mkHid (hp2.alloc (.cells #[.int .i64 y] 3))
  have hbb2 := HB1.out.trans hb2
  have HB2 := mkHid (hbb2.alloc hbb2.size (.cells #[.int .i64 y] 3))
  clear hp2 hb2 hbb2 HP1 HB1
  go_wp2_with fail
  refine (pLong_any w.heap.size w.heap.size A2 8 C2 _ _ w2.heap.size 1 1 [y] (0, 0) _ HP2.out (heap_alloc_new w2 _) rfl (three_ok HY.out) (by omega)).mono ?_
  rintro e w3 ⟨rfl, ⟨A3, n3, C3, hp3⟩, hb3⟩
  have hn3 : n3 = 16 := by have := hp3.len; simp [packs_len] at this; omega
  subst hn3
  have HP3 := mkHid (hp3.alloc (.cells #[.int .i64 z] 3))
  have hbb3 := HB2.out.trans hb3
  have HB3 := mkHid (hbb3.alloc hbb3.size (.cells #[.int .i64 z] 3))
  clear hp3 hb3 hbb3 HP2 HB2
  go_wp2_with fail
  refine (pWord_any w.heap.size w.heap.size A3 16 C3 _ _ w3.heap.size 1 1 [z] (0, 0) _ HP3.out (heap_alloc_new w3 _) rfl (three_ok HZ.out) (by omega)).mono ?_
  rintro e w4 ⟨rfl, ⟨A4, n4, C4, hp4⟩, hb4⟩
  have hn4 : n4 = 20 := by have := hp4.len; simp [packs_len] at this; omega
  subst hn4
  have HP4 := mkHid hp4
  have HB4 := mkHid (HB3.out.trans hb4)
  clear hp4 hb4 HP3 HB3
  go_wp2_with fail
  refine (newPacker_any w4).mono ?_
  rintro e w5 ⟨rfl, hp5, hb5⟩
  have HQ5 := mkHid (hp5.alloc (.cells #[.int .i64 x, .int .i64 y] 3))
  have HC5 := mkHid (hb5.alloc hb5.size (.cells #[.int .i64 x, .int .i64 y] 3))
  clear hp5 hb5
  go_wp2_with fail
  refine (pLong_any w4.heap.size w4.heap.size none 0 0 [] false w5.heap.size 2 2 [x, y] (0, 0) _ HQ5.out (heap_alloc_new w5 _) rfl (two_ok HX.out HY.out) (by omega)).mono ?_
  rintro e w6 ⟨rfl, ⟨A6, n6, C6, hp6⟩, hb6⟩
  have hn6 : n6 = 16 := by have := hp6.len; simp [packs_len] at this; omega
  subst hn6
  have HQ6 := mkHid (hp6.alloc (.cells #[.int .i64 z] 3))
  have hcc6 := HC5.out.trans hb6
  have HC6 := mkHid (hcc6.alloc hcc6.size (.cells #[.int .i64 z] 3))
  clear hp6 hb6 hcc6 HQ5 HC5
  go_wp2_with fail
  refine (pWord_any w4.heap.size w4.heap.size A6 16 C6 _ _ w6.heap.size 1 1 [z] (0, 0) _ HQ6.out (heap_alloc_new w6 _) rfl (three_ok HZ.out) (by omega)).mono ?_
  rintro e w7 ⟨rfl, ⟨A7, n7, C7, hp7⟩, hb7⟩
  have hn7 : n7 = 20 := by have := hp7.len; simp [packs_len] at this; omega
  subst hn7
  have hcc7 := HC6.out.trans hb7
  have hlow := HP4.out.below hcc7 (Nat.le_refl _)
  have hbW7 := HB4.out.trans (hcc7.mono HB4.out.size)
  have eb1 : (((([] : List Int) ++ packs 8 [x]) ++ packs 8 [y]) ++ packs 4 [z]) = nb 8 x ++ (nb 8 y ++ (nb 4 z ++ [])) := by simp [packs]
  have eb2 : (([] : List Int) ++ packs 8 [x, y]) ++ packs 4 [z] = nb 8 x ++ (nb 8 y ++ (nb 4 z ++ [])) := by simp [packs]
  have ef1 : (((false || !([x] : List Int).all (fits 8)) || !([y] : List Int).all (fits 8)) || !([z] : List Int).all (fits 4)) = !(fits 8 x && fits 8 y && fits 4 z) := by
    simp only [List.all_cons, List.all_nil, Bool.and_true]
    cases fits 8 x <;> cases fits 8 y <;> cases fits 4 z <;> rfl
  have ef2 : ((false || !([x, y] : List Int).all (fits 8)) || !([z] : List Int).all (fits 4)) = !(fits 8 x && fits 8 y && fits 4 z) := by
    simp only [List.all_cons, List.all_nil, Bool.and_true]
    cases fits 8 x <;> cases fits 8 y <;> cases fits 4 z <;> rfl
  rw [eb1, ef1] at hlow
  rw [eb2, ef2] at hp7
  have HP7 := mkHid hlow
  have HQ7 := mkHid hp7
  have HB7 := mkHid hbW7
  have fin : ∀ e w2 w3, Ending.returned (.bool true) = e → Below w.heap.size w w2 → Below w2.heap.size w2 w3 → e = .returned (.bool true) ∧ Below w.heap.size w w3 := fun e w2 w3 he h2 h3 => ⟨he.symm, h2.trans (h3.mono h2.size)⟩
  have FIN := mkHid fin
  clear fin hlow hp7 hbW7 hcc7 hb7 eb1 eb2 ef1 ef2 HQ6 HC6 HP4 HB4
  by_cases hall : (fits 8 x && fits 8 y && fits 4 z) = true
  · have hfx : fits 8 x = true ∧ fits 8 y = true ∧ fits 4 z = true := by simpa [Bool.and_eq_true, and_assoc] using hall
    obtain ⟨hfx, hfy, hfz⟩ := hfx
    rw [hall, Bool.not_true] at HP7 HQ7
    have FX := mkHid hfx
    have FY := mkHid hfy
    have FZ := mkHid hfz
    clear hall hfx hfy hfz
    go_wp2_with fail
    refine (bytes_ok_any _ _ _ _ _ _ _ HP7.out (by omega)).mono ?_
    rintro e w8 ⟨A8, n8, C8, rfl, hown8, hb8⟩
    have hn8 : n8 = 20 := by have h1 := hown8.1; simp [nb_len] at h1; omega
    subst hn8
    have HX8 := mkHid (show BS w8 w8.heap.size A8 20 _ from ⟨SL.of_own hown8, HP7.out.ok⟩)
    have HQ8 := mkHid (HQ7.out.below hb8 (Nat.le_refl _))
    have HB8 := mkHid (HB7.out.trans (hb8.mono HB7.out.size))
    clear hown8 hb8 HP7 HQ7 HB7
    go_wp2_with fail
    refine (bytes_ok_any _ _ _ _ _ _ _ HQ8.out (by omega)).mono ?_
    rintro e w9 ⟨A9, n9, C9, rfl, hown9, hb9⟩
    have hn9 : n9 = 20 := by have h1 := hown9.1; simp [nb_len] at h1; omega
    subst hn9
    have HY9 := mkHid (show BS w9 w9.heap.size A9 20 _ from ⟨SL.of_own hown9, HQ8.out.ok⟩)
    have HX9 := mkHid ((HX8.out.below hb9).more hb9.size)
    have HB9 := mkHid (HB8.out.trans (hb9.mono HB8.out.size))
    clear hown9 hb9 HX8 HQ8 HB8
    go_wp2_with fail
    refine (rfits_any x 8 (by omega) _ HX.out).mono ?_
    rintro e w' ⟨rfl, rfl⟩
    rw [FX.out]
    go_wp2_with fail
    refine (rfits_any y 8 (by omega) _ HY.out).mono ?_
    rintro e w' ⟨rfl, rfl⟩
    rw [FY.out]
    go_wp2_with fail
    refine (rfits_any z 4 (by omega) _ HZ.out).mono ?_
    rintro e w' ⟨rfl, rfl⟩
    rw [FZ.out]
    go_wp2_with fail
    refine (newUnpacker_any A8 20 C8 _ _ HX9.out (by omega)).mono ?_
    rintro e w10 ⟨g, rfl, hg, ⟨a1, m1, c1, hu1⟩, hb10⟩
    have HX10 := mkHid ((HX9.out.below hb10).more hb10.size)
    have HY10 := mkHid ((HY9.out.below hb10).more hb10.size)
    have HB10 := mkHid (HB9.out.trans (hb10.mono HB9.out.size))
    have HU10 := mkHid hu1
    have hgw : w.heap.size ≤ g := by have := HB9.out.size; omega
    clear hu1 hb10 hg HX9 HY9 HB9
    go_wp2_with fail
    refine (same_any A8 A9 20 20 C8 C9 _ _ _ _ _ HX10.out HY10.out).mono ?_
    rintro e w' ⟨rfl, rfl⟩
    rw [decide_eq_true rfl]
    clear HX10 HY10
    go_wp2_with fail
    refine (uLong_any g a1 m1 c1 _ _ _ HU10.out).mono ?_
    rintro e w11 ⟨rfl, ⟨a2, m2, c2, hu2⟩, hg2⟩
    rw [take_nb (by omega) FX.out] at hu2 ⊢
    have HB11 := mkHid (HB10.out.grown hg2 HB10.out.size (fun q hq => by injection hq with hq; omega))
    have HU11 := mkHid hu2
    clear hu2 hg2 HB10 HU10
    go_wp2_with fail
    refine (uLong_any g a2 m2 c2 _ _ _ HU11.out).mono ?_
    rintro e w12 ⟨rfl, ⟨a3, m3, c3, hu3⟩, hg3⟩
    rw [take_nb (by omega) FY.out] at hu3 ⊢
    have HB12 := mkHid (HB11.out.grown hg3 HB11.out.size (fun q hq => by injection hq with hq; omega))
    have HU12 := mkHid hu3
    clear hu3 hg3 HB11 HU11
    go_wp2_with fail
    refine (uWord_any g a3 m3 c3 _ _ _ HU12.out).mono ?_
    rintro e w13 ⟨rfl, ⟨a4, m4, c4, hu4⟩, hg4⟩
    rw [take_nb (by omega) FZ.out] at hu4 ⊢
    have HB13 := mkHid (HB12.out.grown hg4 HB12.out.size (fun q hq => by injection hq with hq; omega))
    have HU13 := mkHid hu4
    clear hu4 hg4 HB12 HU12
    go_wp2_with fail
    refine (done_any g a4 m4 c4 _ _ _ HU13.out).mono ?_
    rintro e w' ⟨rfl, rfl⟩
    rw [show (if doneOf ([] : List Int) false = true then Value.nilIface else codeV 14) = .nilIface from rfl]
    go_wp2_with fail
    refine (awake_any _).mono ?_
    rintro e w9 ⟨rfl, hb9⟩
    go_wp2_with fail
    go_ret
    exact FIN.out _ _ _ rfl HB13.out hb9
  · have hno : (fits 8 x && fits 8 y && fits 4 z) = false := by simpa using hall
    rw [hno, Bool.not_false] at HP7 HQ7
    have HNO := mkHid hno
    clear hno hall
    go_wp2_with fail
    refine (bytes_bad _ _ _ _ _ _ _ HP7.out).mono ?_
    rintro e w' ⟨rfl, rfl⟩
    go_wp2_with fail
    refine (bytes_bad _ _ _ _ _ _ _ HQ7.out).mono ?_
    rintro e w' ⟨rfl, rfl⟩
    clear HP7 HQ7
    go_wp2_with fail
    refine (rfits_any x 8 (by omega) _ HX.out).mono ?_
    rintro e w' ⟨rfl, rfl⟩
    cases hfx : fits 8 x with
    | false =>
      clear hfx HNO
      go_wp2_with fail
      refine (is_code 20 20 _).mono ?_
      rintro e w' ⟨rfl, rfl⟩
      rw [show ((20 : Int) != 0 && (20 : Int) == 20) = true from rfl]
      go_wp2_with fail
      refine (is_code 20 20 _).mono ?_
      rintro e w' ⟨rfl, rfl⟩
      rw [show ((20 : Int) != 0 && (20 : Int) == 20) = true from rfl]
      go_wp2_with fail
      refine (awake_any _).mono ?_
      rintro e w9 ⟨rfl, hb9⟩
      go_wp2_with fail
      go_ret
      exact FIN.out _ _ _ rfl HB7.out hb9
    | true =>
      rw [hfx] at HNO
      clear hfx
      go_wp2_with fail
      refine (rfits_any y 8 (by omega) _ HY.out).mono ?_
      rintro e w' ⟨rfl, rfl⟩
      cases hfy : fits 8 y with
      | false =>
        clear hfy HNO
        go_wp2_with fail
        refine (is_code 20 20 _).mono ?_
        rintro e w' ⟨rfl, rfl⟩
        rw [show ((20 : Int) != 0 && (20 : Int) == 20) = true from rfl]
        go_wp2_with fail
        refine (is_code 20 20 _).mono ?_
        rintro e w' ⟨rfl, rfl⟩
        rw [show ((20 : Int) != 0 && (20 : Int) == 20) = true from rfl]
        go_wp2_with fail
        refine (awake_any _).mono ?_
        rintro e w9 ⟨rfl, hb9⟩
        go_wp2_with fail
        go_ret
        exact FIN.out _ _ _ rfl HB7.out hb9
      | true =>
        rw [hfy] at HNO
        clear hfy
        go_wp2_with fail
        refine (rfits_any z 4 (by omega) _ HZ.out).mono ?_
        rintro e w' ⟨rfl, rfl⟩
        cases hfz : fits 4 z with
        | false =>
          clear hfz HNO
          go_wp2_with fail
          refine (is_code 20 20 _).mono ?_
          rintro e w' ⟨rfl, rfl⟩
          rw [show ((20 : Int) != 0 && (20 : Int) == 20) = true from rfl]
          go_wp2_with fail
          refine (is_code 20 20 _).mono ?_
          rintro e w' ⟨rfl, rfl⟩
          rw [show ((20 : Int) != 0 && (20 : Int) == 20) = true from rfl]
          go_wp2_with fail
          refine (awake_any _).mono ?_
          rintro e w9 ⟨rfl, hb9⟩
          go_wp2_with fail
          go_ret
          exact FIN.out _ _ _ rfl HB7.out hb9
        | true =>
          rw [hfz] at HNO
          exact absurd HNO.out (by decide)

end Go.Proofs.Ytncbckbcdopipaa
