/- portagelaw05.RosterBack answers true. -/
import Derived.Test.YtlpgeocoddehgaaRosI
import Derived.IntWalk
namespace Go.Proofs.Ytlpgeocoddehgaa
open Go.RowKit Go.Shelf

theorem those_len {p : Int × Int → Bool} {xs : List (Int × Int)} (h : rightL xs = true) : (thoseOf p xs).length = (xs.filter p).length := by
  unfold thoseOf
  rw [if_pos h]
  have := congrArg List.length (places_map p xs xs.length (Nat.le_refl _))
  rwa [List.length_map, List.take_length] at this
theorem filter_set (p : Int × Int → Bool) : ∀ (xs : List (Int × Int)) (k : Nat) (x y : Int × Int), xs[k]? = some x → ((xs.set k y).filter p).length + (if p x = true then 1 else 0) = (xs.filter p).length + (if p y = true then 1 else 0)
  | [], k, x, y, h => by simp at h
  | u :: us, 0, x, y, h => by
    simp at h
    subst h
    rw [List.set_cons_zero, List.filter_cons, List.filter_cons]
    cases hu : p u <;> cases hy : p y <;> simp
  | u :: us, k + 1, x, y, h => by
    have ih := filter_set p us k x y (by simpa using h)
    rw [List.set_cons_succ, List.filter_cons, List.filter_cons]
    cases hu : p u <;> simp <;> omega
theorem sumM_set' : ∀ (xs : List (Int × Int)) (k : Nat) (x y : Int × Int), xs[k]? = some x → memberB x = true → memberB y = false → sumM (xs.set k y) = sumM xs - (x.2 - 2)
  | [], k, x, y, h, _, _ => by simp at h
  | u :: us, 0, x, y, h, hx, hy => by
    simp at h
    subst h
    rw [List.set_cons_zero, sumM_cons, sumM_cons, if_pos hx, if_neg (by rw [hy]; decide)]
    omega
  | u :: us, k + 1, x, y, h, hx, hy => by
    rw [List.set_cons_succ, sumM_cons, sumM_cons, sumM_set' us k x y (by simpa using h) hx hy]
    omega
theorem turnF_of {s t : Int} {x : Int × Int} (h : (turnF s t x).1 = 0) : x.1 = s ∧ turnF s t x = (0, (t, x.2)) := by
  by_cases hs : x.1 = s
  · exact ⟨hs, if_pos hs⟩
  · rw [show turnF s t x = (30, x) from if_neg hs] at h
    simp at h
theorem drainOf_bad {xs : List (Int × Int)} {d : Int} (h : (drainOf xs d).1 ≠ 0) : (drainOf xs d).2 = [] := by
  unfold drainOf at h ⊢
  split
  · rfl
  · rename_i h0
    rw [if_neg h0] at h
    unfold withOf at h ⊢
    split
    · rfl
    · split
      · rfl
      · split
        · rename_i h1 h2 h3
          rw [if_neg h1, if_neg h2, if_pos h3] at h
          simp at h
        · rfl
theorem with_at {xs : List (Int × Int)} (hr : rightL xs = true) {k : Nat} {x : Int × Int} (hx : xs[k]? = some x) (f : Chg) : withOf xs k f = if (f x).1 = 0 then (0, xs.set k (f x).2) else ((f x).1, []) := by
  have hk := (List.getElem?_eq_some_iff.1 hx).1
  unfold withOf
  rw [if_neg (by rw [hr]; decide), if_neg (by omega), Int.toNat_natCast, hx]
  rfl
/-- What a drained device is, and what comes of it. -/
theorem back_plain {xs : List (Int × Int)} {d : Int} (h : (drainOf xs d).1 = 0) : ∃ (k : Nat) (z : Int), d = k ∧ xs[k]? = some (1, z) ∧ 3 ≤ z ∧ z ≤ 4096 ∧ rightL xs = true ∧
    drainOf xs d = (0, xs.set k (2, z)) ∧ rightL (xs.set k (2, z)) = true ∧ rightL (xs.set k (3, z)) = true ∧
    withOf (xs.set k (2, z)) d (turnF 2 1) = (0, xs) ∧ withOf (xs.set k (2, z)) d (turnF 2 3) = (0, xs.set k (3, z)) ∧
    roomOf (xs.set k (2, z)) = roomOf xs ∧ roomOf (xs.set k (3, z)) = roomOf xs - (z - 2) ∧
    (thoseOf memberB (xs.set k (3, z))).length + 1 = (thoseOf memberB xs).length ∧ (thoseOf activeB (xs.set k (2, z))).length + 1 = (thoseOf activeB xs).length ∧
    withOf (xs.set k (3, z)) d (turnF 2 1) = (30, []) ∧ drainOf (xs.set k (2, z)) d = (30, []) := by
  have hd : drainOf xs d = withOf xs d (turnF 1 2) := by
    unfold drainOf at h ⊢
    split
    · rename_i h0
      rw [if_pos h0] at h
      simp at h
    · rfl
  rw [hd] at h ⊢
  obtain ⟨hr, k, ⟨s, z⟩, rfl, hx, hf, he⟩ := withOf_ok h
  obtain ⟨hs, hf2⟩ := turnF_of hf
  simp only at hs
  subst hs
  have hk := (List.getElem?_eq_some_iff.1 hx).1
  have hxr := of_decide_eq_true ((rightL_ok hr).2 _ (List.mem_of_getElem? hx))
  simp only at hxr
  have hz3 : 3 ≤ z := by omega
  have hz4 : z ≤ 4096 := by omega
  have h2r : rightE (2, z) = true := decide_eq_true (.inl ⟨.inr rfl, hz3, hz4⟩)
  have h3r : rightE (3, z) = true := decide_eq_true (.inr ⟨rfl, by show (0 : Int) ≤ z; omega, hz4⟩)
  have hr2 := rightL_set hr k h2r
  have hr3 := rightL_set hr k h3r
  have hx2 : (xs.set k (2, z))[k]? = some (2, z) := List.getElem?_set_self hk
  have hx3 : (xs.set k (3, z))[k]? = some (3, z) := List.getElem?_set_self hk
  have hself : xs.set k (1, z) = xs := by
    apply List.ext_getElem?
    intro j
    by_cases e : k = j
    · subst e; rw [List.getElem?_set_self hk, hx]
    · rw [List.getElem?_set_ne e]
  refine ⟨k, z, rfl, hx, hz3, hz4, hr, ?_, hr2, hr3, ?_, ?_, ?_, ?_, ?_, ?_, ?_, ?_⟩
  · rw [with_at hr hx, if_pos hf, hf2]
  · rw [with_at hr2 hx2]
    show (0, (xs.set k (2, z)).set k (1, z)) = (0, xs)
    rw [List.set_set, hself]
  · rw [with_at hr2 hx2]
    show (0, (xs.set k (2, z)).set k (3, z)) = (0, xs.set k (3, z))
    rw [List.set_set]
  · rw [room_eq hr2, room_eq hr, sumM_set xs k _ _ hx rfl rfl]; simp only; omega
  · rw [room_eq hr3, room_eq hr, sumM_set' xs k _ _ hx rfl rfl]
  · rw [those_len hr3, those_len hr]
    have := filter_set memberB xs k _ (3, z) hx
    simpa [memberB] using this
  · rw [those_len hr2, those_len hr]
    have := filter_set activeB xs k _ (2, z) hx
    simpa [activeB] using this
  · rw [with_at hr3 hx3]; rfl
  · have hw : withOf (xs.set k (2, z)) k (turnF 1 2) = (30, []) := by rw [with_at hr2 hx2]; rfl
    unfold drainOf
    rw [hw]
    rfl

set_option maxRecDepth 20000 in
set_option maxHeartbeats 4000000 in
theorem rosterBack_any (a : Option Addr) (n c : Nat) (xs : List (Int × Int)) (d : Int) (w : World) (hs : ES w w.heap.size a n xs) (hc : CapOk n c) (hd : I64 d) :
    Calls Try.prog 6 #[.slice a n c, .int .i64 d] w fun e w' => e = .returned (.bool true) ∧ Below w.heap.size w w' := by
  have HS := mkHid hs
  have HL := mkHid hs.len
  have HC := mkHid hc
  have HD := mkHid hd
  obtain ⟨hd0, hd1⟩ := hd
  obtain ⟨hc1, hc2, hc3⟩ := hc
  clear hs
  cases hr : rightL xs with
  | false =>
    have HR := mkHid hr
    clear hr
    go_enter Try.func6, Try.ntmps6
    go_wp2_with fail
    refine (rright_any a n c xs w HS.out HC.out).mono ?_
    rintro e w' ⟨rfl, rfl⟩
    rw [HR.out]
    go_wp2_with fail
    refine (awake_any _).mono ?_
    rintro e w1 ⟨rfl, hb1⟩
    go_wp2_with fail
    go_ret
    exact ⟨rfl, hb1⟩
  | true =>
    have hn8 : n ≤ 8 := by have := (rightL_ok hr).1; have := HL.out; omega
    have HR := mkHid hr
    clear hr
    go_enter Try.func6, Try.ntmps6
    go_wp2_with fail
    refine (rright_any a n c xs w HS.out HC.out).mono ?_
    rintro e w' ⟨rfl, rfl⟩
    rw [HR.out]
    go_wp2_with fail
    refine (of_any a n c xs w HS.out HC.out (by omega)).mono ?_
    rintro e w1 ⟨A0, c0, rfl, hes0, hcap0, hb1⟩
    rw [HL.out] at hes0 hcap0 ⊢
    have hal1 : Below w1.heap.size w1 (w1.alloc (.cells #[.slice A0 n c0] 27)) := (Below.refl _ _).alloc (Nat.le_refl _) _
    have HA := mkHid (drain_any A0 n c0 xs d _ (hes0.next hal1) hcap0 HD.out)
    have hx1 : (w1.alloc (.cells #[.slice A0 n c0] 27)).heap[w1.heap.size]? = some (.cells #[.slice A0 n c0] 27) := heap_alloc_new _ _
    have HX1 := mkHid hx1
    have HES1 := mkHid (hes0.next hal1)
    have HCAP0 := mkHid hcap0
    have HB1 := mkHid (hb1.trans (hal1.mono hb1.size))
    clear hes0 hal1 hx1 hb1 hcap0
    go_wp2_with fail
    refine HA.out.mono ?_
    rintro e w2 ⟨Ad, cd, rfl, hesd, hcapd, hb2⟩
    by_cases h0 : (drainOf xs d).1 = 0
    · obtain ⟨k, z, rfl, hxk, hz3, hz4, hr, hdr, hr2, hr3, hca, hre, hro2, hro3, hme, hac, hcx, hdd⟩ := back_plain h0
      clear h0
      have hkn : k < n := by have := (List.getElem?_eq_some_iff.1 hxk).1; have := HL.out; omega
      rw [hdr] at hesd hcapd ⊢
      rw [errV_no]
      simp only at hesd hcapd ⊢
      have hl2 : (xs.set k (2, z)).length = n := by rw [List.length_set, HL.out]
      have hl3 : (xs.set k (3, z)).length = n := by rw [List.length_set, HL.out]
      rw [hl2] at hesd hcapd ⊢
      have halD : Below w2.heap.size w2 (w2.alloc (.cells #[.slice Ad n cd] 27)) := (Below.refl _ _).alloc (Nat.le_refl _) _
      obtain ⟨W3, hW3⟩ : ∃ W3, w2.alloc (.cells #[.slice Ad n cd] 27) = W3 := ⟨_, rfl⟩
      rw [hW3] at halD
      have h6 : W3.heap[w2.heap.size]? = some (.cells #[.slice Ad n cd] 27) := by rw [← hW3]; exact heap_alloc_new _ _
      have hB13 := below_next hb2 halD
      have h5 : W3.heap[w1.heap.size]? = some (.cells #[.slice A0 n c0] 27) := (hB13.block _ (by simp)).trans HX1.out
      have HES0 := mkHid (HES1.out.next hB13)
      have HESD := mkHid (hesd.next halD)
      have HCAPD := mkHid hcapd
      clear hesd hcapd hb2 HA
      have c6 := cell_of_row W3 w2.heap.size 0 _ _ _ h6
      simp at c6
      go_wp2_with fail
      refine (cancel_any Ad n cd _ k W3 HESD.out HCAPD.out HD.out).mono ?_
      rintro e w4 ⟨Ac, cc, rfl, hesc, hcapc, hb4⟩
      rw [hca] at hesc hcapc ⊢
      rw [errV_no]
      simp only at hesc hcapc ⊢
      rw [HL.out] at hesc hcapc ⊢
      clear hW3 c6
      obtain ⟨W5, hW5⟩ : ∃ W5, w4.alloc (.cells #[.slice Ac n cc] 27) = W5 := ⟨_, rfl⟩
      have halC : Below w4.heap.size w4 W5 := by rw [← hW5]; exact (Below.refl _ _).alloc (Nat.le_refl _) _
      have h8 : W5.heap[w4.heap.size]? = some (.cells #[.slice Ac n cc] 27) := by rw [← hW5]; exact heap_alloc_new _ _
      have hB35 := below_next hb4 halC
      have h6' : W5.heap[w2.heap.size]? = some (.cells #[.slice Ad n cd] 27) := (hB35.block _ (Array.getElem?_eq_some_iff.1 h6).1).trans h6
      have h5' : W5.heap[w1.heap.size]? = some (.cells #[.slice A0 n c0] 27) := (hB35.block _ (Array.getElem?_eq_some_iff.1 h5).1).trans h5
      have c6 := cell_of_row W5 w2.heap.size 0 _ _ _ h6'
      simp at c6
      have HESC := mkHid (hesc.next halC)
      have HCAPC := mkHid hcapc
      clear hesc hcapc h6 h5 halC hb4
      have HESD5 := mkHid (HESD.out.next hB35)
      have HES05 := mkHid (HES0.out.next hB35)
      have HB15 := mkHid (hB13.trans (hB35.mono hB13.size))
      clear hB13 hB35
      go_wp2_with fail
      refine (remove_any Ad n cd _ k W5 HESD5.out HCAPD.out HD.out).mono ?_
      rintro e w6 ⟨Ax, cx, rfl, hesx, hcapx, hb6⟩
      rw [hre] at hesx hcapx ⊢
      rw [errV_no]
      simp only at hesx hcapx ⊢
      rw [hl3] at hesx hcapx ⊢
      clear hW5 c6
      obtain ⟨W7, hW7⟩ : ∃ W7, w6.alloc (.cells #[.slice Ax n cx] 27) = W7 := ⟨_, rfl⟩
      have halX : Below w6.heap.size w6 W7 := by rw [← hW7]; exact (Below.refl _ _).alloc (Nat.le_refl _) _
      have h10 : W7.heap[w6.heap.size]? = some (.cells #[.slice Ax n cx] 27) := by rw [← hW7]; exact heap_alloc_new _ _
      have hB57 := below_next hb6 halX
      have h8' : W7.heap[w4.heap.size]? = some (.cells #[.slice Ac n cc] 27) := (hB57.block _ (Array.getElem?_eq_some_iff.1 h8).1).trans h8
      have h6 : W7.heap[w2.heap.size]? = some (.cells #[.slice Ad n cd] 27) := (hB57.block _ (Array.getElem?_eq_some_iff.1 h6').1).trans h6'
      have h5 : W7.heap[w1.heap.size]? = some (.cells #[.slice A0 n c0] 27) := (hB57.block _ (Array.getElem?_eq_some_iff.1 h5').1).trans h5'
      have HX := mkHid (hesx.next halX)
      have HDD := mkHid (HESD5.out.next hB57)
      have HCC := mkHid (HESC.out.next hB57)
      have HRR := mkHid (HES05.out.next hB57)
      have HCAPX := mkHid hcapx
      have HB17 := mkHid (HB15.out.trans (hB57.mono HB15.out.size))
      have HBW := mkHid (HB1.out.trans (HB17.out.mono HB1.out.size))
      obtain ⟨b, o, y, hab, hb, hy, _, _, hcell⟩ := HS.out.at_ (j := k) hkn
      rw [hxk] at hy
      injection hy with hy
      subst hy
      subst hab
      simp only at hcell
      have hcl := (HBW.out.cell (p := ⟨b, o + k * 2 + 1, none⟩) hb).trans hcell
      have hbl : b < W7.heap.size := Nat.lt_of_lt_of_le hb HBW.out.size
      have hkz : (k : Int) < n := by omega
      have hk0 : (0 : Int) ≤ k := by omega
      have HK := mkHid (show ∀ Z, Below W7.heap.size W7 Z → (Z.cell? ⟨w1.heap.size, 0, none⟩ = some (.slice A0 n c0) ∧ Z.cell? ⟨w2.heap.size, 0, none⟩ = some (.slice Ad n cd) ∧ Z.cell? ⟨w4.heap.size, 0, none⟩ = some (.slice Ac n cc) ∧ Z.cell? ⟨w6.heap.size, 0, none⟩ = some (.slice Ax n cx) ∧ Z.cell? ⟨b, o + k * 2 + 1, none⟩ = some (.int .i64 z)) from fun Z hZ =>
        ⟨cell_of_row Z w1.heap.size 0 _ _ _ ((hZ.block _ (Array.getElem?_eq_some_iff.1 h5).1).trans h5), cell_of_row Z w2.heap.size 0 _ _ _ ((hZ.block _ (Array.getElem?_eq_some_iff.1 h6).1).trans h6), cell_of_row Z w4.heap.size 0 _ _ _ ((hZ.block _ (Array.getElem?_eq_some_iff.1 h8').1).trans h8'), cell_of_row Z w6.heap.size 0 _ _ _ ((hZ.block _ (Array.getElem?_eq_some_iff.1 h10).1).trans h10), (hZ.cell (p := ⟨b, o + k * 2 + 1, none⟩) hbl).trans hcl⟩)
      have HSame := mkHid (show ∀ Z, Below W7.heap.size W7 Z → Calls Try.prog 27 #[.agg #[.slice Ac n cc], .agg #[.slice A0 n c0]] Z (fun e w' => e = .returned (.bool true) ∧ Below Z.heap.size Z w') from fun Z hZ => by
        have := rosSame_any Ac n cc xs A0 n c0 xs Z (HCC.out.next hZ) HCAPC.out (HRR.out.next hZ) HCAP0.out
        rwa [hr, decide_eq_true rfl] at this)
      have HRoom0 := mkHid (fun Z (hZ : Below W7.heap.size W7 Z) => room_any A0 n c0 xs Z (HRR.out.next hZ) HCAP0.out)
      have HRoomD := mkHid (fun Z (hZ : Below W7.heap.size W7 Z) => room_any Ad n cd _ Z (HDD.out.next hZ) HCAPD.out)
      have HRoomX := mkHid (fun Z (hZ : Below W7.heap.size W7 Z) => room_any Ax n cx _ Z (HX.out.next hZ) HCAPX.out)
      rw [hro2] at HRoomD
      rw [hro3] at HRoomX
      have HMemX := mkHid (show ∀ Z, Below W7.heap.size W7 Z → Calls Try.prog 28 #[.agg #[.slice Ax n cx]] Z (fun e w' => ∃ A C, e = .returned (.slice A (thoseOf memberB (xs.set k (3, z))).length C) ∧ Below Z.heap.size Z w') from fun Z hZ => (members_any Ax n cx _ Z (HX.out.next hZ) HCAPX.out).mono fun e w' ⟨A, C, h1, _, _, h2⟩ => ⟨A, C, h1, h2⟩)
      have HMem0 := mkHid (show ∀ Z, Below W7.heap.size W7 Z → Calls Try.prog 28 #[.agg #[.slice A0 n c0]] Z (fun e w' => ∃ A C, e = .returned (.slice A (thoseOf memberB xs).length C) ∧ Below Z.heap.size Z w') from fun Z hZ => (members_any A0 n c0 _ Z (HRR.out.next hZ) HCAP0.out).mono fun e w' ⟨A, C, h1, _, _, h2⟩ => ⟨A, C, h1, h2⟩)
      have HActD := mkHid (show ∀ Z, Below W7.heap.size W7 Z → Calls Try.prog 21 #[.agg #[.slice Ad n cd]] Z (fun e w' => ∃ A C, e = .returned (.slice A (thoseOf activeB (xs.set k (2, z))).length C) ∧ Below Z.heap.size Z w') from fun Z hZ => (actives_any Ad n cd _ Z (HDD.out.next hZ) HCAPD.out).mono fun e w' ⟨A, C, h1, _, _, h2⟩ => ⟨A, C, h1, h2⟩)
      have HAct0 := mkHid (show ∀ Z, Below W7.heap.size W7 Z → Calls Try.prog 21 #[.agg #[.slice A0 n c0]] Z (fun e w' => ∃ A C, e = .returned (.slice A (thoseOf activeB xs).length C) ∧ Below Z.heap.size Z w') from fun Z hZ => (actives_any A0 n c0 _ Z (HRR.out.next hZ) HCAP0.out).mono fun e w' ⟨A, C, h1, _, _, h2⟩ => ⟨A, C, h1, h2⟩)
      rw [← hme] at HMem0
      rw [← hac] at HAct0
      have hroom := room_le hr
      obtain ⟨hro0, hro1⟩ := hroom
      have hm8 := (members_each (xs.set k (3, z))).1
      have hq8 : (thoseOf activeB (xs.set k (2, z))).length ≤ 8 := by rw [those_len hr2]; have := List.length_filter_le activeB (xs.set k (2, z)); omega
      have HCX := mkHid hcx
      have HDDR := mkHid hdd
      clear hro2 hro3 hme hac hcx hdd hca hre hdr hr2 hr3 hl2 hl3 hesx hcapx h5 h6 h8 h10 h5' h6' h8' halX hb6 hB57 hcell hcl hxk hr
      generalize roomOf xs = R at *
      generalize (thoseOf memberB (xs.set k (3, z))).length = M at *
      generalize (thoseOf activeB (xs.set k (2, z))).length = Q at *
      have e1 : IntKind.i64.wrap (z - 2) = z - 2 := IntWalk.i64_in _ (by omega)
      have e2 : IntKind.i64.wrap (R - (z - 2)) = R - (z - 2) := IntWalk.i64_in _ (by omega)
      obtain ⟨M1, hM1⟩ : ∃ M1, M + 1 = M1 := ⟨_, rfl⟩
      obtain ⟨Q1, hQ1⟩ : ∃ Q1, Q + 1 = Q1 := ⟨_, rfl⟩
      rw [hM1] at HMem0
      rw [hQ1] at HAct0
      have hM2 : M1 ≤ 9 := by omega
      have hQ2 : Q1 ≤ 9 := by omega
      have hM3 : 1 ≤ M1 := by omega
      have hQ3 : 1 ≤ Q1 := by omega
      have e3 : IntKind.i64.wrap ((M1 : Int) - 1) = M := (IntWalk.i64_in _ (by omega)).trans (by omega)
      have e4 : IntKind.i64.wrap ((Q1 : Int) - 1) = Q := (IntWalk.i64_in _ (by omega)).trans (by omega)
      have e5 : ((M : Int) != (M1 : Int) - 1) = false := by simp; omega
      have e6 : ((Q : Int) != (Q1 : Int) - 1) = false := by simp; omega
      clear hM1 hQ1
      go_wp2_with fail
      clear hW7
      have hk0' := HK.out W7 (Below.refl _ _)
      go_region_held3 (fun Z => Z.cell? ⟨w1.heap.size, 0, none⟩ = some (.slice A0 n c0) ∧ Z.cell? ⟨w2.heap.size, 0, none⟩ = some (.slice Ad n cd) ∧ Z.cell? ⟨w4.heap.size, 0, none⟩ = some (.slice Ac n cc) ∧ Z.cell? ⟨w6.heap.size, 0, none⟩ = some (.slice Ax n cx) ∧ Z.cell? ⟨b, o + k * 2 + 1, none⟩ = some (.int .i64 z)) (first | exact hky | exact HK.out _ (by first | exact HBY.out | exact HBY.out.drew | exact (Below.refl _ _).drew | exact Below.refl _ _)) (first
        | (go_at_call 27; (with_reducible refine (HSame.out _ (by first | exact HBY.out | exact HBY.out.drew | exact (Below.refl _ _).drew | exact Below.refl _ _)).mono ?_); rintro e wy ⟨rfl, hby⟩; have HBY := mkHid (below_next (show Below W7.heap.size W7 _ from (by first | exact HBY.out | exact HBY.out.drew | exact (Below.refl _ _).drew | exact Below.refl _ _)) hby); have hky := HK.out _ HBY.out; clear hby)
        | (go_at_call 14; (with_reducible refine (HRoomX.out _ (by first | exact HBY.out | exact HBY.out.drew | exact (Below.refl _ _).drew | exact Below.refl _ _)).mono ?_); rintro e wy ⟨rfl, hby⟩; have HBY := mkHid (below_next (show Below W7.heap.size W7 _ from (by first | exact HBY.out | exact HBY.out.drew | exact (Below.refl _ _).drew | exact Below.refl _ _)) hby); have hky := HK.out _ HBY.out; clear hby)
        | (go_at_call 14; (with_reducible refine (HRoomD.out _ (by first | exact HBY.out | exact HBY.out.drew | exact (Below.refl _ _).drew | exact Below.refl _ _)).mono ?_); rintro e wy ⟨rfl, hby⟩; have HBY := mkHid (below_next (show Below W7.heap.size W7 _ from (by first | exact HBY.out | exact HBY.out.drew | exact (Below.refl _ _).drew | exact Below.refl _ _)) hby); have hky := HK.out _ HBY.out; clear hby)
        | (go_at_call 14; (with_reducible refine (HRoom0.out _ (by first | exact HBY.out | exact HBY.out.drew | exact (Below.refl _ _).drew | exact Below.refl _ _)).mono ?_); rintro e wy ⟨rfl, hby⟩; have HBY := mkHid (below_next (show Below W7.heap.size W7 _ from (by first | exact HBY.out | exact HBY.out.drew | exact (Below.refl _ _).drew | exact Below.refl _ _)) hby); have hky := HK.out _ HBY.out; clear hby)
        | (go_at_call 28; (with_reducible refine (HMemX.out _ (by first | exact HBY.out | exact HBY.out.drew | exact (Below.refl _ _).drew | exact Below.refl _ _)).mono ?_); rintro e wy ⟨Ay, Cy, rfl, hby⟩; have HBY := mkHid (below_next (show Below W7.heap.size W7 _ from (by first | exact HBY.out | exact HBY.out.drew | exact (Below.refl _ _).drew | exact Below.refl _ _)) hby); have hky := HK.out _ HBY.out; clear hby)
        | (go_at_call 28; (with_reducible refine (HMem0.out _ (by first | exact HBY.out | exact HBY.out.drew | exact (Below.refl _ _).drew | exact Below.refl _ _)).mono ?_); rintro e wy ⟨Ay, Cy, rfl, hby⟩; have HBY := mkHid (below_next (show Below W7.heap.size W7 _ from (by first | exact HBY.out | exact HBY.out.drew | exact (Below.refl _ _).drew | exact Below.refl _ _)) hby); have hky := HK.out _ HBY.out; clear hby)
        | (go_at_call 21; (with_reducible refine (HActD.out _ (by first | exact HBY.out | exact HBY.out.drew | exact (Below.refl _ _).drew | exact Below.refl _ _)).mono ?_); rintro e wy ⟨Ay, Cy, rfl, hby⟩; have HBY := mkHid (below_next (show Below W7.heap.size W7 _ from (by first | exact HBY.out | exact HBY.out.drew | exact (Below.refl _ _).drew | exact Below.refl _ _)) hby); have hky := HK.out _ HBY.out; clear hby)
        | (go_at_call 21; (with_reducible refine (HAct0.out _ (by first | exact HBY.out | exact HBY.out.drew | exact (Below.refl _ _).drew | exact Below.refl _ _)).mono ?_); rintro e wy ⟨Ay, Cy, rfl, hby⟩; have HBY := mkHid (below_next (show Below W7.heap.size W7 _ from (by first | exact HBY.out | exact HBY.out.drew | exact (Below.refl _ _).drew | exact Below.refl _ _)) hby); have hky := HK.out _ HBY.out; clear hby))
      have HBF := mkHid HBY.out
      obtain ⟨_, c6, _, c10, _⟩ := HK.out wy HBF.out
      clear e1 e2 e3 e4 e5 e6 HSame HRoom0 HRoomD HRoomX HMemX HMem0 HActD HAct0 hk0'
      go_wp2_with fail
      refine (cancel_any Ax n cx _ k wy (HX.out.next HBF.out) HCAPX.out HD.out).mono ?_
      rintro e w8 ⟨Ae, ce, rfl, hese, _, hb8⟩
      rw [HCX.out, errV_of (by omega)]
      simp only [List.length_nil]
      have HB8 := mkHid (below_next HBF.out (hb8.alloc hb8.size (.cells #[.slice Ae 0 ce] 27)))
      clear hese c10 c6 hb8
      obtain ⟨W9, hW9⟩ : ∃ W9, w8.alloc (.cells #[.slice Ae 0 ce] 27) = W9 := ⟨_, rfl⟩
      rw [hW9] at HB8
      obtain ⟨_, c6, _, _, _⟩ := HK.out W9 HB8.out
      go_wp2_with fail
      refine (drain_any Ad n cd _ k W9 (HDD.out.next HB8.out) HCAPD.out HD.out).mono ?_
      rintro e w10 ⟨Af, cf, rfl, hesf, _, hb10⟩
      rw [HDDR.out, errV_of (by omega)]
      simp only [List.length_nil]
      have HB10 := mkHid (below_next HB8.out (hb10.alloc hb10.size (.cells #[.slice Af 0 cf] 27)))
      clear hesf c6 hb10 hW9
      go_wp2_with fail
      refine (is_code 30 30 _).mono ?_
      rintro e wz ⟨rfl, rfl⟩
      rw [show ((30 : Int) != 0 && (30 : Int) == 30) = true from rfl]
      go_wp2_with fail
      refine (is_code 30 30 _).mono ?_
      rintro e wz ⟨rfl, rfl⟩
      rw [show ((30 : Int) != 0 && (30 : Int) == 30) = true from rfl]
      go_wp2_with fail
      refine (awake_any _).mono ?_
      rintro e w12 ⟨rfl, hb12⟩
      go_wp2_with fail
      go_ret
      exact ⟨rfl, HBW.out.trans ((below_next HB10.out hb12).mono HBW.out.size)⟩
    · rw [errV_of h0]
      have hnil := drainOf_bad h0
      rw [hnil] at hesd hcapd ⊢
      have hal2 : Below w2.heap.size w2 (w2.alloc (.cells #[.slice Ad ([] : List (Int × Int)).length cd] 27)) := (Below.refl _ _).alloc (Nat.le_refl _) _
      have HB2 := mkHid (hb2.trans (hal2.mono hb2.size))
      have HK := mkHid (check_ok Ad _ cd [] _ (hesd.next hal2) hcapd rfl)
      have hx2 : (w2.alloc (.cells #[.slice Ad ([] : List (Int × Int)).length cd] 27)).heap[w2.heap.size]? = some (.cells #[.slice Ad ([] : List (Int × Int)).length cd] 27) := heap_alloc_new _ _
      have HX2 := mkHid hx2
      clear hesd hcapd hb2 hal2 hx2 HA hnil h0
      simp only [List.length_nil] at HB2 HK HX2 ⊢
      go_wp2_with fail
      refine HK.out.mono ?_
      rintro e w3 ⟨rfl, hb3⟩
      have c3 : w3.cell? ⟨w2.heap.size, 0, none⟩ = some (.slice Ad 0 cd) := cell_of_row _ _ 0 _ _ _ ((hb3.block _ (by simp)).trans HX2.out)
      have HB3 := mkHid (below_next HB2.out hb3)
      clear hb3
      go_wp2_with fail
      refine (awake_any _).mono ?_
      rintro e w4 ⟨rfl, hb4⟩
      go_wp2_with fail
      go_ret
      exact ⟨rfl, HB1.out.trans ((below_next HB3.out hb4).mono HB1.out.size)⟩

end Go.Proofs.Ytlpgeocoddehgaa
