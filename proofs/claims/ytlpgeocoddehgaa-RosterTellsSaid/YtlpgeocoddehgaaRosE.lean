/- Roster's Add by contract. -/
import Derived.Test.YtlpgeocoddehgaaRosD
namespace Go.Proofs.Ytlpgeocoddehgaa
open Go.RowKit Go.Shelf

/-- A roster, a place and an error are answered; what was there is as it was. -/
def RetA (w : World) (code i : Int) (ys : List (Int × Int)) (e : Ending) (w' : World) : Prop :=
  ∃ A c, e = .returned (.tuple #[.agg #[.slice A ys.length c], .int .i64 i, errV code]) ∧ ES w' w'.heap.size A ys.length ys ∧ CapOk ys.length c ∧ Below w.heap.size w w'
theorem drew_size (w : World) : w.drew.heap.size = w.heap.size := rfl
theorem below_next {W Z w2 : World} (h : Below W.heap.size W Z) (k : Below Z.heap.size Z w2) : Below W.heap.size W w2 := h.trans (k.mono h.size)
/-- An operation's own law for append, for a region that draws its order. -/
theorem step_app {P : Program} (w : World) {ops : Array Oper} {o : Oper} {a : Act} {K : Act → World → Prop} {Q : Exit → Act → World → Prop} {E : Prop} (hgd : o.guard = none) (s x : Operand) (t : TypeId)
    (ho : o.op = .call { callee := .builtin .append, args := #[s, x], argTypes := #[t, t] })
    (base : Nat) {e : TypeId} {size bytes : Nat} (he : ElemOk P t e size bytes) (A : Option Addr) (n c : Nat) (xs : List Value) (hs : a.eval s = .slice A n c) (hown : w.ownsRow base e size (.slice A n c) n xs)
    (B : Nat) (A2 : Option Addr) (m c2 : Nat) (news : List Value) (hx : a.eval x = .slice A2 m c2) (hr : SL w B size A2 m news) (h1 : ∀ u ∈ news, u.oneCell' = true)
    (h63 : n + m ≤ maxLen) (hbytes : (n + m) * bytes ≤ 140737488355328) (hbase : base ≤ w.heap.size)
    (h : ∀ A' c' w', w'.ownsRow base e size (.slice A' (n + m) c') (n + m) (xs ++ news) → w.grownBy w' (Value.slice A n c).ownBlock →
      ((Value.slice A' (n + m) c').ownBlock = (Value.slice A n c).ownBlock ∨ (Value.slice A' (n + m) c').ownBlock = some w.heap.size) → K (a.put o.dst (.slice A' (n + m) c')) w') :
    if Region.wanted o (yielded ops a.tmps) = true then Oper.wp P o a w K Q else E := by
  have hw : Region.wanted o (yielded ops a.tmps) = true := by simp [Region.wanted, hgd]
  rw [if_pos hw]
  obtain ⟨A', c', w', hrun, h2, h3, h4⟩ := run_app (P := P) w base (ty := o.type) he A n c xs hown B A2 m c2 news hr h1 h63 hbytes hbase
  unfold Oper.wp execOp
  simp only [ho, resolve, invoke, builtin, Sem.run_bind, Sem.run_pure, Result.andThen_ok, List.map_toArray, List.map_cons, List.map_nil, hs, hx, hrun]
  exact h A' c' w' h2 h3 h4
def addOf (xs : List (Int × Int)) (size : Int) : Int × List (Int × Int) :=
  if rightL xs = false then (14, []) else if xs.length = 8 then (24, []) else if size < 3 ∨ 4096 < size then (20, []) else (0, xs ++ [(1, size)])
def addAt (xs : List (Int × Int)) (size : Int) : Int := if (addOf xs size).1 = 0 then xs.length else 0

set_option maxRecDepth 20000 in
set_option maxHeartbeats 2000000 in
theorem add_any (a : Option Addr) (n c : Nat) (xs : List (Int × Int)) (size : Int) (w : World) (hs : ES w w.heap.size a n xs) (hc : CapOk n c) (hz : I64 size) :
    Calls Try.prog 13 #[.agg #[.slice a n c], .int .i64 size] w (RetA w (addOf xs size).1 (addAt xs size) (addOf xs size).2) := by
  have hl := hs.len
  obtain ⟨W, hW⟩ : ∃ W, (w.alloc (.cells #[.slice a n c] 27)).alloc (.cells #[.slice none 0 0] 27) = W := ⟨_, rfl⟩
  have HAL := mkHid (show Below w.heap.size w W from by rw [← hW]; exact ((Below.refl _ _).alloc (Nat.le_refl _) _).alloc (by simp) _)
  have hsz : W.heap.size = w.heap.size + 1 + 1 := by rw [← hW]; simp
  have hbx : W.heap[w.heap.size]? = some (.cells #[.slice a n c] 27) := by rw [← hW]; exact (Below.heap_alloc _ _ _ (by simp)).trans (heap_alloc_new _ _)
  have hrs : W.heap[w.heap.size + 1]? = some (.cells #[.slice none 0 0] 27) := by rw [← hW]; have := heap_alloc_new (w.alloc (.cells #[.slice a n c] 27)) (.cells #[.slice none 0 0] 27); simpa using this
  have HBX := mkHid (cell_of_row W w.heap.size 0 _ _ _ hbx)
  have HRS := mkHid hrs
  have HSZ := mkHid hsz
  have HES := mkHid (hs.next HAL.out)
  have HC := mkHid hc
  have HK := mkHid (show ∀ s : World, Below W.heap.size W s → s.cell? ⟨w.heap.size, 0, none⟩ = some (.slice a n c) from fun s hs => (hs.cell (p := ⟨w.heap.size, 0, none⟩) (by rw [HSZ.out]; show w.heap.size < _; omega)).trans HBX.out)
  have HKR := mkHid (show ∀ s : World, Below W.heap.size W s → s.heap[w.heap.size + 1]? = some (.cells #[.slice none 0 0] 27) from fun s hs => (hs.block (w.heap.size + 1) (by rw [HSZ.out]; omega)).trans HRS.out)
  have c1 : W.cell? ⟨w.heap.size, 0, none⟩ = some (.slice a n c) := HBX.out
  obtain ⟨hc1, hc2, hc3⟩ := id hc
  obtain ⟨hz0, hz1⟩ := id hz
  cases hr : rightL xs with
  | false =>
    have HV := mkHid (show addOf xs size = (14, []) by unfold addOf; rw [if_pos hr])
    have HV2 := mkHid (show addAt xs size = 0 by unfold addAt; rw [HV.out]; rfl)
    have HK1 := mkHid (check_no a _ c xs W HES.out HC.out hr)
    clear hs hc hr hrs hbx hsz hl
    go_enter Try.func13, Try.ntmps13
    go_wp2_with fail
    refine HK1.out.mono ?_
    rintro e w1 ⟨rfl, hb1⟩
    have hk1 := HK.out w1 hb1
    have hr1 := HKR.out w1 hb1
    have c2 := cell_of_row w1 (w.heap.size + 1) 0 _ _ _ hr1
    have z2 := frozen_of_row w1 (w.heap.size + 1) 0 _ _ hr1
    simp at c2
    have HB1 := mkHid hb1
    clear hb1 hr1
    go_wp2_with fail
    refine bodyPost_ret (v := .tuple #[.agg #[.slice none 0 0], .int .i64 0, codeV 14]) (by simp [results, Try.results13, go_sem, c2]) rfl ?_
    rw [HV.out, HV2.out]
    exact ⟨none, 0, rfl, ES.nil, ⟨by simp, by unfold maxLen; omega, by simp⟩, (HAL.out.trans (HB1.out.mono HAL.out.size)).setCell (by simp) _⟩
  | true =>
    obtain ⟨h8, _⟩ := rightL_ok hr
    have hn8 : n ≤ 8 := by omega
    by_cases he : n = 8
    · subst he
      have HV := mkHid (show addOf xs size = (24, []) by unfold addOf; rw [if_neg (by rw [hr]; decide), if_pos hl])
      have HV2 := mkHid (show addAt xs size = 0 by unfold addAt; rw [HV.out]; rfl)
      have HK1 := mkHid (check_ok a _ c xs W HES.out HC.out hr)
      clear hs hc hr hrs hbx hsz hl h8
      go_enter Try.func13, Try.ntmps13
      go_wp2_with fail
      refine HK1.out.mono ?_
      rintro e w1 ⟨rfl, hb1⟩
      have hk1 := HK.out w1 hb1
      have hr1 := HKR.out w1 hb1
      have c2 := cell_of_row w1 (w.heap.size + 1) 0 _ _ _ hr1
      have z2 := frozen_of_row w1 (w.heap.size + 1) 0 _ _ hr1
      simp at c2
      have HB1 := mkHid hb1
      clear hb1 hr1
      go_wp2_with fail
      refine bodyPost_ret (v := .tuple #[.agg #[.slice none 0 0], .int .i64 0, codeV 24]) (by simp [results, Try.results13, go_sem, c2]) rfl ?_
      rw [HV.out, HV2.out]
      exact ⟨none, 0, rfl, ES.nil, ⟨by simp, by unfold maxLen; omega, by simp⟩, (HAL.out.trans (HB1.out.mono HAL.out.size)).setCell (by simp) _⟩
    · have hne : ((n : Int) == 8) = false := by simp; omega
      by_cases hz2 : size ≤ 2
      · skip
        have HV := mkHid (show addOf xs size = (20, []) by unfold addOf; rw [if_neg (by rw [hr]; decide), if_neg (by omega), if_pos (by omega)])
        have HV2 := mkHid (show addAt xs size = 0 by unfold addAt; rw [HV.out]; rfl)
        have HK1 := mkHid (check_ok a _ c xs W HES.out HC.out hr)
        clear hs hc hr hrs hbx hsz hl h8
        go_enter Try.func13, Try.ntmps13
        go_wp2_with fail
        refine HK1.out.mono ?_
        rintro e w1 ⟨rfl, hb1⟩
        have hk1 := HK.out w1 hb1
        have hr1 := HKR.out w1 hb1
        have c2 := cell_of_row w1 (w.heap.size + 1) 0 _ _ _ hr1
        have z2 := frozen_of_row w1 (w.heap.size + 1) 0 _ _ hr1
        simp at c2
        have HB1 := mkHid hb1
        clear hb1 hr1
        go_wp2_with fail
        refine bodyPost_ret (v := .tuple #[.agg #[.slice none 0 0], .int .i64 0, codeV 20]) (by simp [results, Try.results13, go_sem, c2]) rfl ?_
        rw [HV.out, HV2.out]
        exact ⟨none, 0, rfl, ES.nil, ⟨by simp, by unfold maxLen; omega, by simp⟩, (HAL.out.trans (HB1.out.mono HAL.out.size)).setCell (by simp) _⟩
      by_cases hz3 : 4096 < size
      · skip
        have HV := mkHid (show addOf xs size = (20, []) by unfold addOf; rw [if_neg (by rw [hr]; decide), if_neg (by omega), if_pos (by omega)])
        have HV2 := mkHid (show addAt xs size = 0 by unfold addAt; rw [HV.out]; rfl)
        have HK1 := mkHid (check_ok a _ c xs W HES.out HC.out hr)
        clear hs hc hr hrs hbx hsz hl h8
        go_enter Try.func13, Try.ntmps13
        go_wp2_with fail
        refine HK1.out.mono ?_
        rintro e w1 ⟨rfl, hb1⟩
        have hk1 := HK.out w1 hb1
        have hr1 := HKR.out w1 hb1
        have c2 := cell_of_row w1 (w.heap.size + 1) 0 _ _ _ hr1
        have z2 := frozen_of_row w1 (w.heap.size + 1) 0 _ _ hr1
        simp at c2
        have HB1 := mkHid hb1
        clear hb1 hr1
        go_wp2_with fail
        refine bodyPost_ret (v := .tuple #[.agg #[.slice none 0 0], .int .i64 0, codeV 20]) (by simp [results, Try.results13, go_sem, c2]) rfl ?_
        rw [HV.out, HV2.out]
        exact ⟨none, 0, rfl, ES.nil, ⟨by simp, by unfold maxLen; omega, by simp⟩, (HAL.out.trans (HB1.out.mono HAL.out.size)).setCell (by simp) _⟩
      have HV := mkHid (show addOf xs size = (0, xs ++ [(1, size)]) by unfold addOf; rw [if_neg (by rw [hr]; decide), if_neg (by omega), if_neg (by omega)])
      have HV2 := mkHid (show addAt xs size = n by unfold addAt; rw [HV.out, if_pos rfl, hl])
      have HK1 := mkHid (check_ok a n c xs W HES.out HC.out hr)
      have HL := mkHid hl
      have HOK := mkHid (show ∀ x ∈ xs ++ [(1, size)], EnOk x from fun x hx => by
        rcases List.mem_append.1 hx with hx | hx
        · exact hs.2 x hx
        · obtain rfl := List.mem_singleton.1 hx
          exact ⟨by unfold I64; omega, hz⟩)
      clear hs hc hr hrs hbx hsz hl h8 hz
      go_enter Try.func13, Try.ntmps13
      go_wp2_with fail
      refine HK1.out.mono ?_
      rintro e w1 ⟨rfl, hb1⟩
      have hk1 := HK.out w1 hb1
      have HB1 := mkHid hb1
      clear hb1 hW c1
      go_wp2_with fail
      have HKS := mkHid (show ∀ (s : World) (v : Value), s.cell? ⟨w.heap.size, 0, none⟩ = some (.slice a n c) → (s.setCell ⟨w.heap.size + 1, 0, none⟩ v).cell? ⟨w.heap.size, 0, none⟩ = some (.slice a n c) from fun s v hs => (World.cell?_of_block (w := s) (heap_setCell_other _ _ _ _ (by simp))).trans hs)
      have HESZ := mkHid (show ∀ Z, Below W.heap.size W Z → ES Z Z.heap.size a n xs from fun Z hZ => HES.out.next hZ)
      go_region_held3 (fun s => s.cell? ⟨w.heap.size, 0, none⟩ = some (.slice a n c)) (first | assumption | exact HK.out _ (by first | exact HB2.out | exact HB1.out.drew | exact (HB1.out.alloc HB1.out.size _).drew | exact HB2.out.alloc HB2.out.size _ | exact (HB1.out.drew).alloc HB1.out.size _) | exact HKS.out _ _ (by assumption)) (first
        | (go_at_call 37; refine (cloneE_any a n c xs _ (HESZ.out _ (by first | exact HB1.out.drew | exact (HB1.out.drew).alloc HB1.out.size _ | exact (HB1.out.alloc HB1.out.size _).drew)) (by omega)).mono ?_; rintro e w2 ⟨A2, C2, rfl, ho2, hb2⟩; rw [HL.out] at ho2 ⊢; have HB2 := mkHid (below_next (show Below W.heap.size W _ by first | exact HB1.out.drew | exact (HB1.out.drew).alloc HB1.out.size _ | exact (HB1.out.alloc HB1.out.size _).drew) hb2); have hk2 := HK.out w2 HB2.out; have HO2 := mkHid (own_weaken (base' := W.heap.size) ho2 (show Below W.heap.size W _ by first | exact HB1.out.drew | exact (HB1.out.drew).alloc HB1.out.size _ | exact (HB1.out.alloc HB1.out.size _).drew).size); have HBR := mkHid hb2; have hsz2 := HB2.out.size; clear ho2 hb2)
        | (refine step_app _ rfl (.tmp 31) (.tmp 34) _ rfl W.heap.size el_en A2 n C2 _ rfl (HO2.out.alloc _) (w2.heap.size + 1) (some ⟨w2.heap.size, 0, none⟩) 1 1 [.int .i64 1, .int .i64 size] rfl (SL.of_block (heap_alloc_new w2 _) rfl (by omega)) (enC_one [(1, size)]) (by unfold maxLen; omega) (by omega) (by simp; omega) ?_; intro A' c' w3 ho3 hg3 _; have HB3 := mkHid ((HB2.out.alloc hsz2 _).grown hg3 (by simp; omega) (own_base HO2.out)); have hk3 := HK.out w3 HB3.out; have HO3 := mkHid ho3; have hr3 := HKR.out w3 HB3.out; have c2 := cell_of_row w3 (w.heap.size + 1) 0 _ _ _ hr3; have z2 := frozen_of_row w3 (w.heap.size + 1) 0 _ _ hr3; simp at c2; have HR3 := mkHid hr3; clear ho3 hg3 hr3)
        | (refine step_app _ rfl (.tmp 31) (.tmp 34) _ rfl W.heap.size el_en A2 n C2 _ rfl HO2.out w2.heap.size (some ⟨w1.heap.size, 0, none⟩) 1 1 [.int .i64 1, .int .i64 size] rfl (SL.of_block (cur := #[.int .i64 1, .int .i64 size]) ((HBR.out.block _ (by simp)).trans (heap_alloc_new _ _)) rfl (by have := HBR.out.size; simp at this; omega)) (enC_one [(1, size)]) (by unfold maxLen; omega) (by omega) (by omega) ?_; intro A' c' w3 ho3 hg3 _; have HB3 := mkHid (HB2.out.grown hg3 hsz2 (own_base HO2.out)); have hk3 := HK.out w3 HB3.out; have HO3 := mkHid ho3; have hr3 := HKR.out w3 HB3.out; have c2 := cell_of_row w3 (w.heap.size + 1) 0 _ _ _ hr3; have z2 := frozen_of_row w3 (w.heap.size + 1) 0 _ _ hr3; simp at c2; have HR3 := mkHid hr3; clear ho3 hg3 hr3))
      all_goals
        go_wp2_with fail
        refine bodyPost_ret (v := .tuple #[.agg #[.slice A' (n + 1) c'], .int .i64 n, .nilIface]) (by simp [results, Try.results13, go_sem, c2]) rfl ?_
        rw [HV.out, HV2.out]
        have hlen : (xs ++ [((1 : Int), size)]).length = n + 1 := by rw [List.length_append, HL.out]; rfl
        refine ⟨A', c', by simp only [hlen]; rfl, ?_, ⟨by simp only [hlen]; exact (own_cap HO3.out).1, (own_cap HO3.out).2, by simp only [hlen]; omega⟩, (HAL.out.trans (HB3.out.mono HAL.out.size)).setCell (by simp) _⟩
        simp only [hlen]
        rw [show (w3.setCell ⟨w.heap.size + 1, 0, none⟩ (.slice A' (n + 1) c')).heap.size = w3.heap.size by simp [World.setCell]]
        refine ES.set_slice ⟨?_, HOK.out⟩ HR3.out
        rw [List.flatMap_append]
        exact SL.of_own HO3.out

end Go.Proofs.Ytlpgeocoddehgaa
