/- portagelaw15.LocksReaders answers true. -/
import Derived.Test.YtgabjgmimebelaaReaders
namespace Go.Proofs.Ytgabjgmimebelaa
open Go.RowKit Go.Shelf

theorem i64_nat {n : Nat} (h : n ≤ 1000000) : I64 ((n : Int) + 1) := ⟨by omega, by omega⟩

/-- The table's state while readers come: what of the call's own blocks it has, and what was there is as it was. -/
structure RD (w wr : World) (F : Nat → Prop) (g d : Nat) (X : List Sp) (last : Nat) : Prop where
  t : T wr F g (ens d X) last
  lo : ∀ b, F b → w.heap.size ≤ b
  bel : Below w.heap.size w wr
theorem RD.below {w wr w1 : World} {F : Nat → Prop} {g d : Nat} {X : List Sp} {last : Nat} (h : RD w wr F g d X last) (hb : Below wr.heap.size wr w1) : RD w w1 F g d X last := ⟨h.t.below hb, h.lo, h.bel.trans (hb.mono h.bel.size)⟩
/-- Behind an Add of one span. -/
theorem RD.add {w w1 w2 : World} {F F' : Nat → Prop} {g : Nat} {X : List Sp} {x : Sp} (h : RD w w1 F g 0 X X.length) (ht : Turn F w1 w2) (hT : T w2 F' g (ens 0 X ++ [⟨(X.length : Int) + 1, [x]⟩]) (X.length + 1)) (hF : ∀ b, F' b → F b ∨ w1.heap.size ≤ b) :
    RD w w2 F' g 0 (X ++ [x]) (X ++ [x]).length := by
  refine ⟨?_, fun b hb => ?_, h.bel.trans (ht.below h.lo h.bel.size)⟩
  · rw [ens_snoc, List.length_append]
    simpa using hT
  · rcases hF b hb with e | e
    · exact h.lo b e
    · exact Nat.le_trans h.bel.size e

theorem RD.add1 {w wr W : World} {F : Nat → Prop} {g k : Nat} {X : List Sp} {x : Sp} {t : TypeId} (h : RD w wr F g 0 X X.length) (hb : Below wr.heap.size wr W) (hk : wr.heap.size ≤ k) (hW : W.heap[k]? = some (.cells #[.int .i64 x.vol, .int .i64 x.frm, .int .i64 x.len, .bool x.wr] t (0, 0))) (hx : SpOk x) (hl : X.length < 1000) (hr : rightOf x = true) :
    Calls Try.prog 14 #[.pointer (some ⟨g, 0, none⟩), .slice (some ⟨k, 0, none⟩) 1 1] W fun e w' => e = .returned (.tuple #[.int .i64 ((X.length : Int) + 1), .nilIface]) ∧ ∃ F', RD w w' F' g 0 (X ++ [x]) (X ++ [x]).length := by
  have hlt : k < W.heap.size := (Array.getElem?_eq_some_iff.1 hW).1
  refine (add_ok F g (ens 0 X) X.length (some ⟨k, 0, none⟩) 1 1 [x] W (h.below hb).t (SS.one hW hx ⟨hlt, fun hf => by have := h.t.lt k hf; omega⟩) ⟨by omega, by unfold maxLen; omega, by omega⟩ (by omega) (by omega) (by rw [ens_len]; omega) (by simp [hr])).mono ?_
  rintro e w' ⟨rfl, ht, F', hT, hF⟩
  exact ⟨rfl, F', (h.below hb).add ht hT hF⟩
theorem RD.add0 {w wr W : World} {F : Nat → Prop} {g k : Nat} {X : List Sp} {x : Sp} {t : TypeId} (h : RD w wr F g 0 X X.length) (hb : Below wr.heap.size wr W) (hW : W.heap[k]? = some (.cells #[.int .i64 x.vol, .int .i64 x.frm, .int .i64 x.len, .bool x.wr] t (0, 0))) (hx : SpOk x) (hr : rightOf x = false) :
    Calls Try.prog 14 #[.pointer (some ⟨g, 0, none⟩), .slice (some ⟨k, 0, none⟩) 1 1] W fun e w' => e = .returned (.tuple #[.int .i64 0, .iface 66 (.int .i64 20)]) ∧ RD w w' F g 0 X X.length := by
  refine (add_bad g (some ⟨k, 0, none⟩) 1 1 [x] W (SS.one hW hx (Array.getElem?_eq_some_iff.1 hW).1) ⟨by omega, by unfold maxLen; omega, by omega⟩ (by simp [hr])).mono ?_
  rintro e w' ⟨rfl, hb'⟩
  exact ⟨rfl, (h.below hb).below hb'⟩
theorem RD.may {w wr : World} {F : Nat → Prop} {g d : Nat} {X : List Sp} {last : Nat} (h : RD w wr F g d X last) (num : Int) (hn : I64 num) : Calls Try.prog 21 #[.pointer (some ⟨g, 0, none⟩), .int .i64 num] wr fun e w' => e = .returned (.bool (mayOf (ens d X) num)) ∧ RD w w' F g d X last :=
  (may_any F g _ last num wr h.t hn).mono fun _ _ k => ⟨k.1, h.below k.2⟩
theorem aheadOf_len (es : List En) (num : Int) : (aheadOf es num).length ≤ es.length := by
  unfold aheadOf
  split
  · simp
  · unfold aheadAt
    rw [List.length_map]
    exact Nat.le_trans (List.length_filter_le _ _) (by rw [List.length_take]; omega)
theorem RD.ahead {w wr : World} {F : Nat → Prop} {g d : Nat} {X : List Sp} {last : Nat} (h : RD w wr F g d X last) (num : Int) (hn : I64 num) : Calls Try.prog 22 #[.pointer (some ⟨g, 0, none⟩), .int .i64 num] wr fun e w' => ∃ A c, e = .returned (.slice A (aheadOf (ens d X) num).length c) ∧ IS w' w'.heap.size A (aheadOf (ens d X) num).length (aheadOf (ens d X) num) ∧ (aheadOf (ens d X) num).length ≤ 1000000 ∧ RD w w' F g d X last :=
  (ahead_any F g _ last num wr h.t hn).mono fun _ w' ⟨A, c, k1, k2, k3⟩ => ⟨A, c, k1, ⟨SL.of_own k2, fun y hy => by
    have hN := h.t.nums.1
    unfold aheadOf at hy
    split at hy
    · cases hy
    · unfold aheadAt at hy
      obtain ⟨e, he, rfl⟩ := List.mem_map.1 hy
      exact hN _ (List.mem_map.2 ⟨e, List.mem_of_mem_take (List.mem_filter.1 he).1, rfl⟩)⟩, Nat.le_trans (aheadOf_len _ _) h.t.nums.2, h.below k3⟩
theorem RD.done {w wr : World} {F : Nat → Prop} {g d : Nat} {X : List Sp} {last : Nat} (h : RD w wr F g d X last) (hX : 0 < X.length) (hd : d ≤ 1000) : Calls Try.prog 18 #[.pointer (some ⟨g, 0, none⟩), .int .i64 ((d : Int) + 1)] wr fun e w' => e = .returned .nilIface ∧ RD w w' F g (d + 1) (X.drop 1) last := by
  have hp := ens_place (l := X) (d := d) (j := 0) hX
  rw [Nat.add_zero] at hp
  refine (done_ok F g _ last _ wr h.t (i64_nat (by omega)) 0 (by rw [ens_len]; exact hX) hp (ens_first hX)).mono ?_
  rintro e w' ⟨rfl, ht, hT⟩
  rw [ens_tail] at hT
  exact ⟨rfl, hT, h.lo, h.bel.trans (ht.below h.lo h.bel.size)⟩

theorem ready_one {d : Nat} {Y : List Sp} (hY : ∀ y ∈ Y, rightOf y = true) : readyOf (ens d (allW :: Y)) = [(d : Int) + 1] := by
  unfold readyOf
  have hf : mayOf (ens d (allW :: Y)) ((d : Int) + 1) = true := ens_first (by simp)
  rw [show (ens d (allW :: Y)).map En.num = ((d : Int) + 1) :: (ens (d + 1) Y).map En.num from rfl, List.filter_cons_of_pos hf]
  congr 1
  rw [List.filter_eq_nil_iff]
  intro x hx
  obtain ⟨e, he, rfl⟩ := List.mem_map.1 hx
  obtain ⟨j, hj, rfl⟩ := List.getElem_of_mem he
  rw [ens_len] at hj
  have hg := List.getElem?_eq_getElem (l := ens (d + 1) Y) (i := j) (by rw [ens_len]; exact hj)
  rw [ens_get, List.getElem?_eq_getElem hj] at hg
  simp only [Option.map_some, Option.some.injEq] at hg
  rw [← hg]
  have hl : (allW :: Y)[j + 1]? = some Y[j] := by rw [List.getElem?_cons_succ, List.getElem?_eq_getElem hj]
  have hw := ens_waits (d := d) (l := allW :: Y) (j := j + 1) (p := 0) hl (by omega) rfl (allW_clash (hY _ (List.getElem_mem hj)))
  have hm := ens_may (d := d) (l := allW :: Y) (j := j + 1) (by simp; omega)
  rw [show d + (j + 1) = d + 1 + j by omega] at hm hw
  simp only at hm ⊢
  rw [hm]
  cases h : aheadOf (ens d (allW :: Y)) (((d + 1 + j : Nat) : Int) + 1) with
  | nil => rw [h] at hw; cases hw
  | cons => simp

set_option maxRecDepth 20000 in
set_option maxHeartbeats 4000000 in
theorem locksReaders_any (a : Option Addr) (n c : Nat) (xs : List Sp) (a' : Option Addr) (n' c' : Nat) (ys : List Sp) (w : World) (hx : SS w (· < w.heap.size) a n xs) (hn : n ≤ c ∧ c * 32 ≤ 140737488351232) (hy : SS w (· < w.heap.size) a' n' ys) (hn' : n' ≤ c' ∧ c' * 32 ≤ 140737488351232) :
    Calls Try.prog 7 #[.slice a n c, .slice a' n' c'] w fun e w' => e = .returned (.bool true) ∧ Below w.heap.size w w' := by
  obtain ⟨hn1, hn2⟩ := hn
  obtain ⟨hn1', hn2'⟩ := hn'
  go_enter Try.func7, Try.ntmps7
  go_wp2_with fail
  refine (new_any w).mono ?_
  rintro e w1 ⟨rfl, ht1, hb1⟩
  have HR := mkHid (show RD w w1 (fun b => b = w.heap.size) w.heap.size 0 [] ([] : List Sp).length from ⟨ht1, fun b hb => by omega, hb1⟩)
  clear ht1 hb1
  obtain ⟨M, hM⟩ : ∃ M : Int, (if n < n' then (n' : Int) else (n : Int)) = M := ⟨_, rfl⟩
  have HM := mkHid hM
  by_cases hbig : 60 < M
  · go_wp2_with fail
    refine (awake_any _).mono ?_
    rintro e w2 ⟨rfl, hb2⟩
    go_wp2_with fail
    go_ret
    exact ⟨rfl, HR.out.bel.trans (hb2.mono HR.out.bel.size)⟩
  have hn60 : n ≤ 60 := by have := HM.out; split at this <;> omega
  have hn60' : n' ≤ 60 := by have := HM.out; split at this <;> omega
  go_wp2_with fail
  clear hM hbig
  go_loopw [6, 37] (fun cnt i wr => ∃ (q : Nat) (X : List Sp) (F : Nat → Prop), q ≤ n ∧ i = .int .i64 q ∧ cnt = .int .i64 X.length ∧ X.length ≤ q ∧ Hid (∀ x ∈ X, rightR x) ∧ RD w wr F w.heap.size 0 X X.length) (fun _ i _ => n - (intOf i).toNat)
  case atStart => exact ⟨0, [], _, Nat.zero_le _, rfl, rfl, Nat.le_refl _, mkHid (fun x hx => by cases hx), HR.out⟩
  case round =>
    clear HR
    obtain ⟨q, X, F, hq, rfl, rfl, hX, HX, hr⟩ := hrel
    have hglt := hr.t.glt
    by_cases hlt : q < n
    · obtain ⟨b, o, x, rfl, hb, hxq, hok, h0, h1, h2, h3⟩ := hx.2 q hlt
      obtain ⟨xv, xf, xl, xw⟩ := x
      have c0 := (hr.bel.cell (p := ⟨b, o + q * 4, none⟩) hb).trans h0
      have c1 := (hr.bel.cell (p := ⟨b, o + q * 4 + 1, none⟩) hb).trans h1
      have c2 := (hr.bel.cell (p := ⟨b, o + q * 4 + 2, none⟩) hb).trans h2
      have c3 := (hr.bel.cell (p := ⟨b, o + q * 4 + 3, none⟩) hb).trans h3
      simp only at c0 c1 c2 c3
      have HS := mkHid hx
      have HS' := mkHid hy
      have HRR := mkHid hr
      have hok' : SpOk ⟨xv, xf, xl, false⟩ := hok
      have HOK := mkHid hok'
      clear h0 h1 h2 h3 hx hy hr hok hok' hxq
      go_wp2_with fail
      have hbW : Below wr.heap.size wr ((wr.alloc (.cells #[.int .i64 xv, .int .i64 xf, .int .i64 xl, .bool false] 23)).alloc (.cells #[.int .i64 xv, .int .i64 xf, .int .i64 xl, .bool false] 24)) := ((Below.refl _ _).alloc (Nat.le_refl _) _).alloc (by simp) _
      cases hrx : rightOf ⟨xv, xf, xl, false⟩ with
      | false =>
        refine (HRR.out.add0 (x := ⟨xv, xf, xl, false⟩) hbW (heap_alloc2_new _ _ _) HOK.out hrx).mono ?_
        rintro e w2 ⟨rfl, hr2⟩
        have HR2 := mkHid hr2
        clear hr2 hbW hrx c0 c1 c2 c3
        go_wp2_with fail
        go_roundw
        case rel => exact ⟨q + 1, X, F, by omega, by go_num, rfl, by omega, HX, HR2.out⟩
        case measure => simp [intOf]; omega
      | true =>
        refine (HRR.out.add1 (x := ⟨xv, xf, xl, false⟩) hbW (by omega) (heap_alloc2_new _ _ _) HOK.out (by omega) hrx).mono ?_
        rintro e w2 ⟨rfl, F2, hr2⟩
        have HR2 := mkHid hr2
        have HRX := mkHid hrx
        clear hr2 hbW hrx c0 c1 c2 c3
        have hne : ((X.length : Int) + 1 != (X.length : Int) + 1) = false := by simp
        go_wp2_with fail
        refine (HR2.out.may _ (i64_nat (by omega))).mono ?_
        rintro e w3 ⟨rfl, hr3⟩
        have hm : mayOf (ens 0 (X ++ [⟨xv, xf, xl, false⟩])) ((X.length : Int) + 1) = true := by
          have h1 := ens_may (d := 0) (l := X ++ [⟨xv, xf, xl, false⟩]) (j := X.length) (by simp)
          have h2 := ens_free (d := 0) (l := X ++ [⟨xv, xf, xl, false⟩]) (j := X.length) (s := ⟨xv, xf, xl, false⟩) (by simp) fun p y hp hy => by
            rw [List.getElem?_append_left hp] at hy
            exact clash_read (HX.out y (List.mem_of_getElem? hy)).2 rfl
          rw [Nat.zero_add] at h1 h2
          rw [h1, h2]
          rfl
        rw [hm]
        have HR3 := mkHid hr3
        clear hr3 hm HR2
        go_wp2_with fail
        go_roundw
        case rel => exact ⟨q + 1, X ++ [⟨xv, xf, xl, false⟩], F2, by omega, by go_num, by simp, by simp; omega, mkHid fun y hy => (by rcases List.mem_append.1 hy with h | h; exact HX.out y h; rw [List.mem_singleton.1 h]; exact ⟨HRX.out, rfl⟩), HR3.out⟩
        case measure => simp [intOf]; omega
    · obtain rfl : q = n := by omega
      have HRR := mkHid hr
      clear hr
      go_wp2_with fail
      refine (HRR.out.add1 (x := allW) ((Below.refl _ _).alloc (Nat.le_refl _) _) (Nat.le_refl _) (heap_alloc_new wr _) (by unfold SpOk allW I64; simp) (by omega) rfl).mono ?_
      rintro e w2 ⟨rfl, F2, hr2⟩
      have HR2 := mkHid hr2
      clear hr2 HRR
      obtain ⟨N, hN⟩ : ∃ N, N = X.length := ⟨_, rfl⟩
      have hgw : (X ++ [allW])[X.length]? = some allW := by simp
      have hall := ens_all (d := 0) hgw fun p y hp hy => by
        rw [List.getElem?_append_left hp] at hy
        exact clash_allW (HX.out y (List.mem_of_getElem? hy)).1
      have hmay := ens_may (d := 0) (l := X ++ [allW]) (j := X.length) (by simp)
      rw [Nat.zero_add] at hall hmay
      have hmay2 : mayOf (ens 0 (X ++ [allW])) ((X.length : Int) + 1) = ((X.length : Int) == 0) := by
        rw [hmay]
        cases hA : aheadOf (ens 0 (X ++ [allW])) ((X.length : Int) + 1) with
        | nil => rw [hA] at hall; rw [← hall]; rfl
        | cons y l => rw [hA] at hall; rw [← hall]; simp; omega
      rw [← hN] at hall hmay2 ⊢
      have HALL := mkHid hall
      have HMAY := mkHid hmay2
      have HNX := mkHid hN
      have hN1000 : N ≤ 60 := by omega
      clear hgw hall hmay hmay2 hN
      have hnn : ((N : Int) != (N : Int)) = false := by simp
      go_wp2_with fail
      refine (HR2.out.ahead _ (i64_nat (n := N) (by omega))).mono ?_
      rintro e w3 ⟨A3, c3, rfl, _, _, hr3⟩
      rw [HALL.out]
      have HR3 := mkHid hr3
      clear hr3 HR2
      go_wp2_with fail
      refine (HR3.out.may _ (i64_nat (n := N) (by omega))).mono ?_
      rintro e w4 ⟨rfl, hr4⟩
      rw [HMAY.out]
      have HR4 := mkHid hr4
      clear hr4 HR3
      generalize hz : ((N : Int) == 0) = z
      have hzz : (z != z) = false := by simp
      go_wp2_with fail
      clear hz hzz
      go_loopw [90] (fun i wr => ∃ (q : Nat) (Y : List Sp) (F : Nat → Prop), q ≤ n' ∧ i = .int .i64 q ∧ Y.length ≤ q ∧ Hid (∀ y ∈ Y, rightOf y = true) ∧ RD w wr F w.heap.size 0 ((X ++ [allW]) ++ Y) ((X ++ [allW]) ++ Y).length) (fun i _ => n' - (intOf i).toNat)
      case atStart => exact ⟨0, [], F2, Nat.zero_le _, rfl, Nat.le_refl _, mkHid (fun x hx => by cases hx), by simpa using HR4.out⟩
      case round =>
        clear HR4
        obtain ⟨p, Y, F4, hp, rfl, hY, HY, hr⟩ := hrel
        have hglt4 := hr.t.glt
        have HRR := mkHid hr
        by_cases hlt2 : p < n'
        · obtain ⟨b, o, x, rfl, hb, hxq, hok, h0, h1, h2, h3⟩ := hy.2 p hlt2
          obtain ⟨xv, xf, xl, xw⟩ := x
          have c0 := (hr.bel.cell (p := ⟨b, o + p * 4, none⟩) hb).trans h0
          have c1 := (hr.bel.cell (p := ⟨b, o + p * 4 + 1, none⟩) hb).trans h1
          have c2 := (hr.bel.cell (p := ⟨b, o + p * 4 + 2, none⟩) hb).trans h2
          have c3 := (hr.bel.cell (p := ⟨b, o + p * 4 + 3, none⟩) hb).trans h3
          simp only at c0 c1 c2 c3
          have HS' := mkHid hy
          have HOK := mkHid hok
          clear h0 h1 h2 h3 hy hr hok hxq
          go_wp2_with fail
          have hbW : Below wr.heap.size wr ((wr.alloc (.cells #[.int .i64 xv, .int .i64 xf, .int .i64 xl, .bool xw] 23)).alloc (.cells #[.int .i64 xv, .int .i64 xf, .int .i64 xl, .bool xw] 24)) := ((Below.refl _ _).alloc (Nat.le_refl _) _).alloc (by simp) _
          cases hrx : rightOf ⟨xv, xf, xl, xw⟩ with
          | false =>
            refine (HRR.out.add0 (x := ⟨xv, xf, xl, xw⟩) hbW (heap_alloc2_new _ _ _) HOK.out hrx).mono ?_
            rintro e w5 ⟨rfl, hr5⟩
            have HR5 := mkHid hr5
            clear hr5 hbW hrx c0 c1 c2 c3
            go_wp2_with fail
            go_roundw
            case rel => exact ⟨p + 1, Y, F4, by omega, by go_num, by omega, HY, HR5.out⟩
            case measure => simp [intOf]; omega
          | true =>
            refine (HRR.out.add1 (x := ⟨xv, xf, xl, xw⟩) hbW (by omega) (heap_alloc2_new _ _ _) HOK.out (by simp; have := HNX.out; omega) hrx).mono ?_
            rintro e w5 ⟨rfl, F5, hr5⟩
            have HRX := mkHid hrx
            obtain ⟨K, hK⟩ : ∃ K, K = ((X ++ [allW]) ++ Y).length := ⟨_, rfl⟩
            have hgs : (((X ++ [allW]) ++ Y) ++ [⟨xv, xf, xl, xw⟩])[((X ++ [allW]) ++ Y).length]? = some (⟨xv, xf, xl, xw⟩ : Sp) := by simp
            have hg0 : (((X ++ [allW]) ++ Y) ++ [(⟨xv, xf, xl, xw⟩ : Sp)])[X.length]? = some allW := by
              rw [List.append_assoc, List.getElem?_append_left (by simp)]; simp
            have hwt := ens_waits (d := 0) hgs (p := X.length) (by simp) hg0 (allW_clash hrx)
            have hmy := ens_may (d := 0) (l := ((X ++ [allW]) ++ Y) ++ [(⟨xv, xf, xl, xw⟩ : Sp)]) (j := ((X ++ [allW]) ++ Y).length) (by simp)
            rw [Nat.zero_add, Nat.zero_add] at hwt
            rw [Nat.zero_add] at hmy
            have hKl : K ≤ 130 := by rw [hK]; simp; have := HNX.out; omega
            rw [← hK] at hwt hmy ⊢
            rw [← HNX.out] at hwt
            have HR5 := mkHid hr5
            have hmf : mayOf (ens 0 (((X ++ [allW]) ++ Y) ++ [⟨xv, xf, xl, xw⟩])) ((K : Int) + 1) = false := by
              rw [hmy]
              cases h : aheadOf (ens 0 (((X ++ [allW]) ++ Y) ++ [⟨xv, xf, xl, xw⟩])) ((K : Int) + 1) with
              | nil => rw [h] at hwt; cases hwt
              | cons => rfl
            have HMF := mkHid hmf
            have HWT := mkHid hwt
            have HRX := mkHid hrx
            have HK := mkHid hK
            clear hr5 hbW hrx c0 c1 c2 c3 hgs hg0 hwt hmy hmf hK
            go_wp2_with fail
            refine (HR5.out.ahead _ (i64_nat (n := K) (by omega))).mono ?_
            rintro e w6 ⟨A6, c6, rfl, his, hD6, hr6⟩
            generalize aheadOf (ens 0 (((X ++ [allW]) ++ Y) ++ [⟨xv, xf, xl, xw⟩])) ((K : Int) + 1) = D at his HWT hD6 ⊢
            have hD0 : ((D.length : Int) == 0) = false := by
              have : 0 < D.length := List.length_pos_of_mem HWT.out
              exact beq_eq_false_iff_ne.2 (by omega)
            have HIS := mkHid his
            have HR6 := mkHid hr6
            clear his hr6 HR5
            go_wp2_with fail
            refine (may_any _ _ _ _ _ _ HR6.out.t (i64_nat (n := K) (by omega))).mono ?_
            rintro e w7 ⟨rfl, hb7⟩
            rw [HMF.out]
            have HIS7 := mkHid ((HIS.out.below hb7).more hb7.size)
            have HR7 := mkHid (HR6.out.below hb7)
            clear hb7 HIS HR6
            go_wp2_with fail
            refine (in_any A6 D.length c6 D _ w7 HIS7.out hD6 (i64_nat (n := N) (by omega))).mono ?_
            rintro e w8 ⟨rfl, rfl⟩
            have hin : (D.any fun y => y == (N : Int) + 1) = true := List.any_eq_true.2 ⟨_, HWT.out, by simp⟩
            rw [hin]
            clear hin
            go_wp2_with fail
            go_roundw
            case rel => exact ⟨p + 1, Y ++ [⟨xv, xf, xl, xw⟩], F5, by omega, by go_num, by simp; omega, mkHid fun y hy => (by rcases List.mem_append.1 hy with h | h; exact HY.out y h; rw [List.mem_singleton.1 h]; exact HRX.out), by rw [← List.append_assoc]; exact HR7.out⟩
            case measure => simp [intOf]; omega
        · obtain rfl : p = n' := by omega
          have hZl : N < ((X ++ [allW]) ++ Y).length := by simp; have := HNX.out; omega
          have hZd : ((X ++ [allW]) ++ Y).drop N = allW :: Y := by rw [HNX.out, List.append_assoc, List.drop_left]; rfl
          have HZD := mkHid hZd
          generalize ((X ++ [allW]) ++ Y) = Z at *
          have hZL : Z.length ≤ 1000000 := HRR.out.t.nums.2 |> (fun h => by rwa [ens_len] at h)
          clear hy hr hZd
          go_wp2_with fail
          go_loopw [18] (fun i wr => ∃ d : Nat, d ≤ N ∧ i = .int .i64 ((d : Int) + 1) ∧ RD w wr F4 w.heap.size d (Z.drop d) Z.length) (fun i _ => N + 1 - (intOf i).toNat)
          case atStart => exact ⟨0, Nat.zero_le _, rfl, by simpa using HRR.out⟩
          case round =>
            clear HRR
            obtain ⟨d, hd, rfl, hr⟩ := hrel
            have HRR := mkHid hr
            clear hr
            by_cases hlt3 : d < N
            · have hle : (d : Int) + 1 ≤ (N : Int) := by omega
              go_wp2_with fail
              refine (HRR.out.done (by rw [List.length_drop]; omega) (by omega)).mono ?_
              rintro e w9 ⟨rfl, hr9⟩
              rw [List.drop_drop] at hr9
              have HR9 := mkHid hr9
              clear hr9 HRR
              go_wp2_with fail
              go_roundw
              case rel => exact ⟨d + 1, by omega, by go_num, HR9.out⟩
              case measure => simp [intOf]; omega
            · obtain rfl : d = N := by omega
              have hle : ¬ (d : Int) + 1 ≤ (d : Int) := by omega
              rw [HZD.out] at HRR
              go_wp2_with fail
              refine (HRR.out.may _ (i64_nat (by omega))).mono ?_
              rintro e w9 ⟨rfl, hr9⟩
              rw [ens_first (by simp)]
              have HR9 := mkHid hr9
              clear hr9 HRR
              go_wp2_with fail
              refine (ready_any _ _ _ _ _ HR9.out.t).mono ?_
              rintro e w10 ⟨A10, c10, rfl, _, hb10⟩
              rw [ready_one HY.out]
              have HR10 := mkHid (HR9.out.below hb10)
              clear hb10 HR9
              go_wp2_with fail
              refine (HR10.out.done (by simp) (by omega)).mono ?_
              rintro e w11 ⟨rfl, hr11⟩
              have HR11 := mkHid hr11
              clear hr11 HR10
              go_wp2_with fail
              refine (awake_any _).mono ?_
              rintro e w12 ⟨rfl, hb12⟩
              have HB12 := mkHid (HR11.out.bel.trans (hb12.mono HR11.out.bel.size))
              clear hb12 HR11
              go_wp2_with fail
              go_ret
              exact ⟨rfl, HB12.out⟩

end Go.Proofs.Ytgabjgmimebelaa
