/- portagelaw05.RosterGrows answers true. -/
import Derived.Test.YtlpgeocoddehgaaRosP
import Derived.IntWalk
namespace Go.Proofs.Ytlpgeocoddehgaa
open Go.RowKit Go.Shelf

/-- An entry's list in every world that is w with blocks laid behind it. -/
theorem ES.class_ {w : World} {a : Option Addr} {n : Nat} {xs : List (Int × Int)} (h : ES w w.heap.size a n xs) (d : Nat) (os : Array Obj) : ES (Sort.grow (redrawn w d) os) (Sort.grow (redrawn w d) os).heap.size a n xs := h.next (below_regrown w d os)

set_option maxRecDepth 20000 in
set_option maxHeartbeats 4000000 in
theorem rosterGrows_any (a : Option Addr) (n c : Nat) (xs : List (Int × Int)) (d size : Int) (w : World) (hs : ES w w.heap.size a n xs) (hc : CapOk n c) (hd : I64 d) (hz : I64 size) :
    Calls Try.prog 3 #[.slice a n c, .int .i64 d, .int .i64 size] w fun e w' => e = .returned (.bool true) ∧ Below w.heap.size w w' := by
  have HS := mkHid hs
  have HL := mkHid hs.len
  have HC := mkHid hc
  have HZ := mkHid hz
  have HD := mkHid hd
  obtain ⟨hz0, hz1⟩ := hz
  obtain ⟨hd0, hd1⟩ := hd
  obtain ⟨hc1, hc2, hc3⟩ := hc
  clear hs
  cases hr : rightL xs with
  | false =>
    have HR := mkHid hr
    clear hr
    go_enter Try.func3, Try.ntmps3
    go_wp2_with fail
    refine (rright_any a n c xs w HS.out HC.out).mono ?_
    rintro e w' ⟨rfl, rfl⟩
    rw [HR.out]
    go_wp2_with fail
    refine (awake_any _).mono ?_
    rintro e w1 ⟨rfl, hb1⟩
    go_wp2_with fail
    go_ret
    exact ⟨rfl, hb1⟩
  | true =>
    have hn8 : n ≤ 8 := by have := (rightL_ok hr).1; have := HL.out; omega
    have hroom := room_le hr
    obtain ⟨hro0, hro1⟩ := hroom
    have HR := mkHid hr
    clear hr
    go_enter Try.func3, Try.ntmps3
    go_wp2_with fail
    refine (rright_any a n c xs w HS.out HC.out).mono ?_
    rintro e w' ⟨rfl, rfl⟩
    rw [HR.out]
    go_wp2_with fail
    refine (of_any a n c xs w HS.out HC.out (by omega)).mono ?_
    rintro e w1 ⟨A0, c0, rfl, hes0, hcap0, hb1⟩
    rw [HL.out] at hes0 hcap0 ⊢
    have hal1 : Below w1.heap.size w1 (w1.alloc (.cells #[.slice A0 n c0] 27)) := (Below.refl _ _).alloc (Nat.le_refl _) _
    have HA := mkHid (add_any A0 n c0 xs size _ (hes0.next hal1) hcap0 HZ.out)
    have hx1 : (w1.alloc (.cells #[.slice A0 n c0] 27)).heap[w1.heap.size]? = some (.cells #[.slice A0 n c0] 27) := heap_alloc_new _ _
    have HX1 := mkHid hx1
    have HES1 := mkHid (hes0.next hal1)
    have HCAP0 := mkHid hcap0
    have HB1 := mkHid (hb1.trans (hal1.mono hb1.size))
    clear hes0 hal1 hx1 hb1 hcap0
    go_wp2_with fail
    refine HA.out.mono ?_
    rintro e w3 ⟨A1, c1, rfl, hes1, hcap1, hb3⟩
    have hb3' := hb3
    by_cases h0 : (addOf xs size).1 = 0
    · rw [h0, errV_no]
      obtain ⟨_, hn7, hs3, hs4, he1, hat1, hr1⟩ := addOf_ok h0
      have hlen1 : (xs ++ [((1 : Int), size)]).length = n + 1 := by rw [List.length_append, HL.out]; rfl
      rw [he1, hlen1] at hes1 hcap1
      rw [he1, hat1, hlen1, HL.out]
      have hrm1 : roomOf (xs ++ [(1, size)]) = roomOf xs + size - 2 := by rw [room_eq hr1, room_eq HR.out, sumM_append, sumM_cons, if_pos (by rfl)]; simp [sumM]; omega
      have hst1 : stateOf (xs ++ [(1, size)]) n = 1 := by
        unfold stateOf
        rw [if_neg (by rw [hlen1]; omega), Int.toNat_natCast, ← HL.out, List.getElem?_append_right (Nat.le_refl _), Nat.sub_self]
        rfl
      obtain ⟨W5, hW5⟩ : ∃ W5, w3.alloc (.cells #[.slice A1 (n + 1) c1] 27) = W5 := ⟨_, rfl⟩
      have hb35 : Below w3.heap.size w3 W5 := by rw [← hW5]; exact (Below.refl _ _).alloc (Nat.le_refl _) _
      have h8 : W5.heap[w3.heap.size]? = some (.cells #[.slice A1 (n + 1) c1] 27) := by rw [← hW5]; exact heap_alloc_new _ _
      have HB5 := mkHid (below_next hb3 hb35)
      have h7 : W5.heap[w1.heap.size]? = some (.cells #[.slice A0 n c0] 27) := (HB5.out.block _ (by simp)).trans HX1.out
      have hd7 : ∀ d os, (Sort.grow (redrawn W5 d) os).cell? ⟨w1.heap.size, 0, none⟩ = some (.slice A0 n c0) := fun d os => cell_regrown (cell_of_row W5 w1.heap.size 0 _ _ _ h7) d os
      have hd8 : ∀ d os, (Sort.grow (redrawn W5 d) os).cell? ⟨w3.heap.size, 0, none⟩ = some (.slice A1 (n + 1) c1) := fun d os => cell_regrown (cell_of_row W5 w3.heap.size 0 _ _ _ h8) d os
      have HRA := mkHid (fun d os => Calls.regrown_of (room_any A1 (n + 1) c1 _ (Sort.grow (redrawn W5 d) os) ((hes1.next hb35).class_ d os) hcap1))
      have HSA := mkHid (fun d os => Calls.regrown_of (state_any A1 (n + 1) c1 _ n (Sort.grow (redrawn W5 d) os) ((hes1.next hb35).class_ d os) hcap1 (by unfold I64; omega)))
      have HRB := mkHid (fun d os => Calls.regrown_of (room_any A0 n c0 _ (Sort.grow (redrawn W5 d) os) ((HES1.out.next HB5.out).class_ d os) HCAP0.out))
      rw [hrm1] at HRA
      rw [hst1] at HSA
      clear h0 he1 hat1 hr1 hlen1 hrm1 hst1 hes1 hcap1 h7 h8 hb35 hb3 hb3' HA
      have hR := hro0
      generalize hRg : roomOf xs = R at *
      have HRg := mkHid hRg
      clear hRg
      have e1 : IntKind.i64.wrap (R + size) = R + size := IntWalk.i64_in _ (by omega)
      have e2 : IntKind.i64.wrap (R + size - 2) = R + size - 2 := IntWalk.i64_in _ (by omega)
      have e3 : IntKind.i64.wrap ((n : Int) + 1) = (n : Int) + 1 := IntWalk.i64_in _ (by omega)
      go_wp2_with fail
      clear hW5
      refine wp_region_quiet_below (by kernel_rfl) (by kernel_rfl) ?_
      repeat (go_big_quiet_step (first | (with_reducible exact HRA.out _ _) | (with_reducible exact HRB.out _ _) | (with_reducible exact HSA.out _ _)))
      refine wpQuiet_nil ?_
      intro w6 hw'
      obtain ⟨p, hw''⟩ := hw'
      have hB6 := below_regrown W5 p.d p.os
      rw [← hw''] at hB6
      clear hw'' p
      have HB6 := mkHid (below_next HB5.out hB6)
      clear hB6 e1 e2 e3 hd7 hd8 HRA HSA HRB
      have hrg := HRg.out
      clear HRg
      subst hrg
      have c7 : w6.cell? ⟨w1.heap.size, 0, none⟩ = some (.slice A0 n c0) := cell_of_row w6 w1.heap.size 0 _ _ _ ((HB6.out.block _ (by simp)).trans HX1.out)
      have hgr := grow_any A0 n c0 xs d size w6 (HES1.out.next HB6.out) HCAP0.out HD.out HZ.out
      have HBW := mkHid (HB1.out.trans (HB6.out.mono HB1.out.size))
      go_wp2_with fail
      refine hgr.mono ?_
      rintro e w7 ⟨A2, c2, rfl, hes2, hcap2, hb7⟩
      clear hgr c7
      by_cases h1 : (withOf xs d (growF size)).1 = 0
      · rw [h1, errV_no]
        obtain ⟨k, x, rfl, hx, hx1, hx2, hx3, he2, hr2, hrm2, hst2⟩ := grow_plain h1
        rw [he2] at hes2 hcap2 ⊢
        obtain ⟨b, o, y, hab, hb, hy, _, _, hcell⟩ := HS.out.at_ (j := k) (by have := (List.getElem?_eq_some_iff.1 hx).1; have := HL.out; omega)
        rw [hx] at hy
        injection hy with hy
        subst hy
        subst hab
        have hkn : k < n := by have := (List.getElem?_eq_some_iff.1 hx).1; have := HL.out; omega
        have hkz : (k : Int) < n := by omega
        have hk0 : (0 : Int) ≤ k := by omega
        rw [List.length_set, HL.out] at hes2 hcap2 ⊢
        have hroom2 := room_le hr2
        obtain ⟨hrp0, hrp1⟩ := hroom2
        rw [hrm2] at hrp0 hrp1
        obtain ⟨W8, hW8⟩ : ∃ W8, w7.alloc (.cells #[.slice A2 n c2] 27) = W8 := ⟨_, rfl⟩
        have hb78 : Below w7.heap.size w7 W8 := by rw [← hW8]; exact (Below.refl _ _).alloc (Nat.le_refl _) _
        have HBW8 := mkHid (HBW.out.trans ((hb7.mono HBW.out.size).trans (hb78.mono (Nat.le_trans HBW.out.size hb7.size))))
        have h11 : W8.heap[w7.heap.size]? = some (.cells #[.slice A2 n c2] 27) := by rw [← hW8]; exact heap_alloc_new _ _
        have h7 : W8.heap[w1.heap.size]? = some (.cells #[.slice A0 n c0] 27) := (hb78.block _ (by have := HB6.out.size; have := hb7.size; simp at *; omega)).trans ((hb7.block _ (by have := HB6.out.size; simp at *; omega)).trans ((HB6.out.block _ (by simp)).trans HX1.out))
        have hd7 : ∀ d os, (Sort.grow (redrawn W8 d) os).cell? ⟨w1.heap.size, 0, none⟩ = some (.slice A0 n c0) := fun d os => cell_regrown (cell_of_row W8 w1.heap.size 0 _ _ _ h7) d os
        have hd11 : ∀ d os, (Sort.grow (redrawn W8 d) os).cell? ⟨w7.heap.size, 0, none⟩ = some (.slice A2 n c2) := fun d os => cell_regrown (cell_of_row W8 w7.heap.size 0 _ _ _ h11) d os
        have hdl : ∀ d os, (Sort.grow (redrawn W8 d) os).cell? ⟨b, o + k * 2 + 1, none⟩ = some (.int .i64 x.2) := fun d os => cell_regrown ((HBW8.out.cell (p := ⟨b, o + k * 2 + 1, none⟩) hb).trans hcell) d os
        have HRA := mkHid (fun d os => Calls.regrown_of (room_any A2 n c2 _ (Sort.grow (redrawn W8 d) os) ((hes2.next hb78).class_ d os) hcap2))
        have HSA := mkHid (fun dd os => Calls.regrown_of (state_any A2 n c2 _ k (Sort.grow (redrawn W8 dd) os) ((hes2.next hb78).class_ dd os) hcap2 HD.out))
        have hes0 : ES W8 W8.heap.size A0 n xs := ((HES1.out.next HB6.out).next hb7).next hb78
        have HRB := mkHid (fun d os => Calls.regrown_of (room_any A0 n c0 _ (Sort.grow (redrawn W8 d) os) (hes0.class_ d os) HCAP0.out))
        have HSB := mkHid (fun dd os => Calls.regrown_of (state_any A0 n c0 _ k (Sort.grow (redrawn W8 dd) os) (hes0.class_ dd os) HCAP0.out HD.out))
        rw [hrm2] at HRA
        rw [hst2] at HSA
        have HX := mkHid hx
        have H1 := mkHid h1
        clear hx h1 he2 hr2 hrm2 hst2 hes2 hcap2 hes0 h7 h11 hb78 hcell
        generalize roomOf xs = R at *
        generalize stateOf xs k = ST at *
        obtain ⟨xs1, xz⟩ := x
        simp only at *
        have e1 : IntKind.i64.wrap (R + size) = R + size := IntWalk.i64_in _ (by omega)
        have e2 : IntKind.i64.wrap (R + size - xz) = R + size - xz := IntWalk.i64_in _ (by omega)
        go_wp2_with fail
        clear hW8
        refine wp_region_quiet_below (by kernel_rfl) (by kernel_rfl) ?_
        repeat (go_big_quiet_step (first | (with_reducible exact HRA.out _ _) | (with_reducible exact HRB.out _ _) | (with_reducible exact HSA.out _ _) | (with_reducible exact HSB.out _ _)))
        refine wpQuiet_nil ?_
        intro _ hw'
        obtain ⟨p, hw''⟩ := hw'
        have hB6 := below_regrown W8 p.d p.os
        rw [← hw''] at hB6
        clear hw'' p
        have HBQ := mkHid (HBW8.out.trans (hB6.mono HBW8.out.size))
        clear hB6 e1 e2 hd7 hd11 hdl
        go_wp2_with fail
        refine (awake_any _).mono ?_
        rintro e w9 ⟨rfl, hb9⟩
        go_wp2_with fail
        go_ret
        exact ⟨rfl, HBQ.out.trans (hb9.mono HBQ.out.size)⟩
      · rw [errV_of h1]
        have H1 := mkHid h1
        have HB8 := mkHid (hb7.alloc hb7.size (.cells #[.slice A2 (withOf xs d (growF size)).2.length c2] 27))
        have HBW8 := mkHid (HBW.out.trans (HB8.out.mono HBW.out.size))
        clear h1 hes2 hcap2 hb7
        generalize (withOf xs d (growF size)).1 = E7 at *
        generalize (withOf xs d (growF size)).2.length = N7 at *
        go_wp2_with fail
        go_quiet (fail)
        go_wp2_with fail
        refine (awake_any _).mono ?_
        rintro e w9 ⟨rfl, hb9⟩
        go_wp2_with fail
        go_ret
        exact ⟨rfl, (below_drewN HBW8.out nq).trans (hb9.mono HBW8.out.size)⟩
    · rw [errV_of h0]
      have H0 := mkHid h0
      have HB5 := mkHid (hb3.alloc hb3.size (.cells #[.slice A1 (addOf xs size).2.length c1] 27))
      clear h0 hes1 hcap1 hb3 hb3' HA
      generalize (addOf xs size).1 = E3 at *
      generalize (addOf xs size).2.length = N3 at *
      go_wp2_with fail
      go_quiet (fail)
      obtain ⟨w6, hw6⟩ : ∃ w6, (w3.alloc (.cells #[.slice A1 N3 c1] 27)).drewN nq = w6 := ⟨_, rfl⟩
      have HB6 := mkHid (show Below (w1.alloc (.cells #[.slice A0 n c0] 27)).heap.size (w1.alloc (.cells #[.slice A0 n c0] 27)) w6 by rw [← hw6]; exact below_drewN HB5.out nq)
      rw [hw6]
      clear hw6
      have c7 : w6.cell? ⟨w1.heap.size, 0, none⟩ = some (.slice A0 n c0) := cell_of_row w6 w1.heap.size 0 _ _ _ ((HB6.out.block _ (by simp)).trans HX1.out)
      have hgr := grow_any A0 n c0 xs d size w6 (HES1.out.next HB6.out) HCAP0.out HD.out HZ.out
      have HBW := mkHid (HB1.out.trans (HB6.out.mono HB1.out.size))
      go_wp2_with fail
      refine hgr.mono ?_
      rintro e w7 ⟨A2, c2, rfl, hes2, hcap2, hb7⟩
      clear hgr c7
      by_cases h1 : (withOf xs d (growF size)).1 = 0
      · rw [h1, errV_no]
        obtain ⟨k, x, rfl, hx, hx1, hx2, hx3, he2, hr2, hrm2, hst2⟩ := grow_plain h1
        rw [he2] at hes2 hcap2 ⊢
        obtain ⟨b, o, y, hab, hb, hy, _, _, hcell⟩ := HS.out.at_ (j := k) (by have := (List.getElem?_eq_some_iff.1 hx).1; have := HL.out; omega)
        rw [hx] at hy
        injection hy with hy
        subst hy
        subst hab
        have hkn : k < n := by have := (List.getElem?_eq_some_iff.1 hx).1; have := HL.out; omega
        have hkz : (k : Int) < n := by omega
        have hk0 : (0 : Int) ≤ k := by omega
        rw [List.length_set, HL.out] at hes2 hcap2 ⊢
        have hroom2 := room_le hr2
        obtain ⟨hrp0, hrp1⟩ := hroom2
        rw [hrm2] at hrp0 hrp1
        obtain ⟨W8, hW8⟩ : ∃ W8, w7.alloc (.cells #[.slice A2 n c2] 27) = W8 := ⟨_, rfl⟩
        have hb78 : Below w7.heap.size w7 W8 := by rw [← hW8]; exact (Below.refl _ _).alloc (Nat.le_refl _) _
        have HBW8 := mkHid (HBW.out.trans ((hb7.mono HBW.out.size).trans (hb78.mono (Nat.le_trans HBW.out.size hb7.size))))
        have h11 : W8.heap[w7.heap.size]? = some (.cells #[.slice A2 n c2] 27) := by rw [← hW8]; exact heap_alloc_new _ _
        have h7 : W8.heap[w1.heap.size]? = some (.cells #[.slice A0 n c0] 27) := (hb78.block _ (by have := HB6.out.size; have := hb7.size; simp at *; omega)).trans ((hb7.block _ (by have := HB6.out.size; simp at *; omega)).trans ((HB6.out.block _ (by simp)).trans HX1.out))
        have hd7 : ∀ d os, (Sort.grow (redrawn W8 d) os).cell? ⟨w1.heap.size, 0, none⟩ = some (.slice A0 n c0) := fun d os => cell_regrown (cell_of_row W8 w1.heap.size 0 _ _ _ h7) d os
        have hd11 : ∀ d os, (Sort.grow (redrawn W8 d) os).cell? ⟨w7.heap.size, 0, none⟩ = some (.slice A2 n c2) := fun d os => cell_regrown (cell_of_row W8 w7.heap.size 0 _ _ _ h11) d os
        have hdl : ∀ d os, (Sort.grow (redrawn W8 d) os).cell? ⟨b, o + k * 2 + 1, none⟩ = some (.int .i64 x.2) := fun d os => cell_regrown ((HBW8.out.cell (p := ⟨b, o + k * 2 + 1, none⟩) hb).trans hcell) d os
        have HRA := mkHid (fun d os => Calls.regrown_of (room_any A2 n c2 _ (Sort.grow (redrawn W8 d) os) ((hes2.next hb78).class_ d os) hcap2))
        have HSA := mkHid (fun dd os => Calls.regrown_of (state_any A2 n c2 _ k (Sort.grow (redrawn W8 dd) os) ((hes2.next hb78).class_ dd os) hcap2 HD.out))
        have hes0 : ES W8 W8.heap.size A0 n xs := ((HES1.out.next HB6.out).next hb7).next hb78
        have HRB := mkHid (fun d os => Calls.regrown_of (room_any A0 n c0 _ (Sort.grow (redrawn W8 d) os) (hes0.class_ d os) HCAP0.out))
        have HSB := mkHid (fun dd os => Calls.regrown_of (state_any A0 n c0 _ k (Sort.grow (redrawn W8 dd) os) (hes0.class_ dd os) HCAP0.out HD.out))
        rw [hrm2] at HRA
        rw [hst2] at HSA
        have HX := mkHid hx
        have H1 := mkHid h1
        clear hx h1 he2 hr2 hrm2 hst2 hes2 hcap2 hes0 h7 h11 hb78 hcell
        generalize roomOf xs = R at *
        generalize stateOf xs k = ST at *
        obtain ⟨xs1, xz⟩ := x
        simp only at *
        have e1 : IntKind.i64.wrap (R + size) = R + size := IntWalk.i64_in _ (by omega)
        have e2 : IntKind.i64.wrap (R + size - xz) = R + size - xz := IntWalk.i64_in _ (by omega)
        go_wp2_with fail
        clear hW8
        refine wp_region_quiet_below (by kernel_rfl) (by kernel_rfl) ?_
        repeat (go_big_quiet_step (first | (with_reducible exact HRA.out _ _) | (with_reducible exact HRB.out _ _) | (with_reducible exact HSA.out _ _) | (with_reducible exact HSB.out _ _)))
        refine wpQuiet_nil ?_
        intro _ hw'
        obtain ⟨p, hw''⟩ := hw'
        have hB6 := below_regrown W8 p.d p.os
        rw [← hw''] at hB6
        clear hw'' p
        have HBQ := mkHid (HBW8.out.trans (hB6.mono HBW8.out.size))
        clear hB6 e1 e2 hd7 hd11 hdl
        go_wp2_with fail
        refine (awake_any _).mono ?_
        rintro e w9 ⟨rfl, hb9⟩
        go_wp2_with fail
        go_ret
        exact ⟨rfl, HBQ.out.trans (hb9.mono HBQ.out.size)⟩
      · rw [errV_of h1]
        have H1 := mkHid h1
        have HB8 := mkHid (hb7.alloc hb7.size (.cells #[.slice A2 (withOf xs d (growF size)).2.length c2] 27))
        have HBW8 := mkHid (HBW.out.trans (HB8.out.mono HBW.out.size))
        clear h1 hes2 hcap2 hb7
        generalize (withOf xs d (growF size)).1 = E7 at *
        generalize (withOf xs d (growF size)).2.length = N7 at *
        go_wp2_with fail
        go_quiet (fail)
        go_wp2_with fail
        refine (awake_any _).mono ?_
        rintro e w9 ⟨rfl, hb9⟩
        go_wp2_with fail
        go_ret
        exact ⟨rfl, (below_drewN HBW8.out nq).trans (hb9.mono HBW8.out.size)⟩

end Go.Proofs.Ytlpgeocoddehgaa
