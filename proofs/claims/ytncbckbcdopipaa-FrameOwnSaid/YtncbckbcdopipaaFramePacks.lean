/- FramePacks: the walk of the law. -/
import Derived.Test.YtncbckbcdopipaaPacksK
import Derived.Test.YtncbckbcdopipaaOpenRows
import Derived.Test.YtncbckbcdopipaaAwake02
import Derived.Test.YtncbckbcdopipaaSame
namespace Go.Proofs.Ytncbckbcdopipaa
open Go.RowKit

/-- The element at j of a slice of pairs of ints. -/
theorem RS.pair {w : World} {B n : Nat} {a : Option Addr} {xs : List (Int × Int)} (h : RS R2i 2 w B a n xs) {j : Nat} (hj : j < n) :
    ∃ b o x y, a = some ⟨b, o, none⟩ ∧ b < B ∧ xs[j]? = some (x, y) ∧ w.cell? ⟨b, o + j * 2, none⟩ = some (.int .i64 x) ∧ w.cell? ⟨b, o + j * 2 + 1, none⟩ = some (.int .i64 y) ∧ I64 x ∧ I64 y := by
  obtain ⟨b, o, cs, ⟨x, y⟩, ha, hb, hl, hc, hx, hcs, hI, hJ⟩ := h.2 j hj
  subst hcs
  exact ⟨b, o, x, y, ha, hb, hx, hc 0 _ rfl, hc 1 _ rfl, hI, hJ⟩

/-- The bytes of the pieces that have a size. -/
def packsOf (l : List (Int × Int)) : List Int := l.flatMap fun p => if isSize p.1 = true then nb p.1.toNat p.2 else []
def fitsOf (p : Int × Int) : Bool := !isSize p.1 || fits p.1.toNat p.2
theorem packsOf_succ (l : List (Int × Int)) (i : Nat) {p : Int × Int} (hi : l[i]? = some p) : packsOf (l.take (i + 1)) = packsOf (l.take i) ++ if isSize p.1 = true then nb p.1.toNat p.2 else [] := by
  obtain ⟨h, rfl⟩ := List.getElem?_eq_some_iff.1 hi
  unfold packsOf
  rw [List.take_succ_eq_append_getElem h, List.flatMap_append]
  simp
theorem packsOf_drop (l : List (Int × Int)) (i : Nat) {p : Int × Int} (hi : l[i]? = some p) : packsOf (l.drop i) = (if isSize p.1 = true then nb p.1.toNat p.2 else []) ++ packsOf (l.drop (i + 1)) := by
  obtain ⟨h, rfl⟩ := List.getElem?_eq_some_iff.1 hi
  unfold packsOf
  rw [List.drop_eq_getElem_cons h, List.flatMap_cons]
theorem all_succ' (l : List (Int × Int)) (i : Nat) {p : Int × Int} (hi : l[i]? = some p) : (l.take (i + 1)).all fitsOf = ((l.take i).all fitsOf && fitsOf p) := by
  obtain ⟨h, rfl⟩ := List.getElem?_eq_some_iff.1 hi
  rw [List.take_succ_eq_append_getElem h, List.all_append]
  simp
theorem new2 (w : World) (o o' : Obj) : ((w.alloc o).alloc o').heap[w.heap.size + 1]? = some o' := by
  have := heap_alloc_new (w.alloc o) o'
  simpa using this
/-- What is owned stays owned while its own block does not turn. -/
theorem own_keep1 {w w' : World} {base : Nat} {e : TypeId} {s n : Nat} {v : Value} {xs : List Value} (h : w.ownsRow base e s v n xs) (hk : ∀ q, v.ownBlock = some q → w'.heap[q]? = w.heap[q]?) : w'.ownsRow base e s v n xs := by
  refine ⟨h.1, ?_⟩
  rcases h.2 with h0 | ⟨g, cap, cur, h1, h2, h3, h4⟩
  · exact .inl h0
  · exact .inr ⟨g, cap, cur, h1, h2, (hk g (by rw [h1]; rfl)).trans h3, h4⟩
theorem own_not {w : World} {g base0 base n C : Nat} {A : Option Addr} {bs : List Int} {bad : Bool} (hp : PK w g base0 A n C bs bad) {WA : Option Addr} {wn WC : Nat} {xs : List Value} (h : w.ownsRow base 5 1 (.slice WA wn WC) wn xs) {q : Nat} (hq : (Value.slice WA wn WC).ownBlock = some q) : q ≠ g := by
  rcases h.2 with ⟨h1, _⟩ | ⟨g', cap, cur, h1, _, hg, _⟩
  · rw [h1] at hq; simp [Value.ownBlock] at hq
  · rw [h1] at hq
    have e1 : g' = q := by simpa [Value.ownBlock] using hq
    subst e1
    intro e
    subst e
    rw [hp.blk] at hg
    injection hg with hg
    injection hg with _ ht
    exact absurd ht (by decide)
/-- Behind a put: the other row is as it was, and apart from the packer's. -/
theorem want_keep {W w2 : World} {g base n C : Nat} {A A' : Option Addr} {n' C' : Nat} {bs : List Int} {bad : Bool} (hp : PK W g base A n C bs bad) {WA : Option Addr} {wn WC : Nat} {xs : List Value} (h : W.ownsRow base 5 1 (.slice WA wn WC) wn xs)
    (hne : (Value.slice WA wn WC).ownBlock = none ∨ (Value.slice WA wn WC).ownBlock ≠ (Value.slice A n C).ownBlock) (pb : PB base W w2 g (Value.slice A n C).ownBlock (Value.slice A' n' C').ownBlock) :
    w2.ownsRow base 5 1 (.slice WA wn WC) wn xs ∧ ((Value.slice WA wn WC).ownBlock = none ∨ (Value.slice WA wn WC).ownBlock ≠ (Value.slice A' n' C').ownBlock) := by
  have key : ∀ q, (Value.slice WA wn WC).ownBlock = some q → q < W.heap.size ∧ q ≠ g ∧ some q ≠ (Value.slice A n C).ownBlock := fun q hq => ⟨(h.lt q hq).2, own_not hp h hq, by
    rcases hne with e | e
    · rw [e] at hq; cases hq
    · rw [← hq]; exact e⟩
  refine ⟨own_keep1 h fun q hq => pb.keep q (key q hq).1 (key q hq).2.1 (key q hq).2.2, ?_⟩
  cases hw : (Value.slice WA wn WC).ownBlock with
  | none => exact .inl rfl
  | some q =>
    refine .inr ?_
    rcases pb.row with e | ⟨q', e, hq'⟩
    · rw [e]; exact (key q hw).2.2
    · rw [e]; intro e2; injection e2 with e2; have := (key q hw).1; omega
/-- Behind an append to the other row: the packer is as it was, and apart. -/
theorem pk_grown {w3 w4 : World} {g base n C : Nat} {A : Option Addr} {bs : List Int} {bad : Bool} (hp : PK w3 g base A n C bs bad) {WA WA' : Option Addr} {wn WC wn' WC' : Nat} {xs : List Value} (h : w3.ownsRow base 5 1 (.slice WA wn WC) wn xs)
    (hne : (Value.slice WA wn WC).ownBlock = none ∨ (Value.slice WA wn WC).ownBlock ≠ (Value.slice A n C).ownBlock) (hg : w3.grownBy w4 (Value.slice WA wn WC).ownBlock)
    (hat : (Value.slice WA' wn' WC').ownBlock = (Value.slice WA wn WC).ownBlock ∨ (Value.slice WA' wn' WC').ownBlock = some w3.heap.size) :
    PK w4 g base A n C bs bad ∧ ((Value.slice WA' wn' WC').ownBlock = none ∨ (Value.slice WA' wn' WC').ownBlock ≠ (Value.slice A n C).ownBlock) := by
  refine ⟨⟨(hg.block g hp.lt (fun e => own_not hp h e.symm rfl)).trans hp.blk, own_keep1 hp.own fun q hq => hg.block q (hp.own.lt q hq).2 (fun e => ?_), hp.gb, hp.ok⟩, ?_⟩
  · rcases hne with e1 | e1
    · rw [e1] at e; cases e
    · exact e1 (e.symm.trans hq.symm)
  · rcases hat with e | e
    · rw [e]; exact hne
    · refine .inr fun e2 => ?_
      have := (hp.own.lt w3.heap.size (e2.symm.trans e)).2
      omega

set_option maxRecDepth 20000 in
set_option maxHeartbeats 4000000 in
theorem framePacks_any (a : Option Addr) (n c : Nat) (l : List (Int × Int)) (w : World) (hx : RS R2i 2 w w.heap.size a n l) (hn : n ≤ c ∧ c ≤ 140737488351232) :
    Calls Try.prog 10 #[.slice a n c] w fun e w' => e = .returned (.bool true) ∧ Below w.heap.size w w' := by
  obtain ⟨hn1, hn2⟩ := hn
  by_cases hbig : 500 < n
  · go_enter Try.func10, Try.ntmps10
    go_wp2_with fail
    refine (awake_any _).mono ?_
    rintro e w1 ⟨rfl, hb1⟩
    go_wp2_with fail
    go_ret
    exact ⟨rfl, hb1⟩
  have HLL := mkHid hx.1
  have fin : ∀ e w2 w3, Ending.returned (.bool true) = e → Below w.heap.size w w2 → Below w2.heap.size w2 w3 → e = .returned (.bool true) ∧ Below w.heap.size w w3 := fun e w2 w3 he h2 h3 => ⟨he.symm, h2.trans (h3.mono h2.size)⟩
  have FIN := mkHid fin
  clear fin
  go_enter Try.func10, Try.ntmps10
  go_wp2_with fail
  refine (newPacker_any w).mono ?_
  rintro e w1 ⟨rfl, hp1, hb1⟩
  have HP1 := mkHid hp1
  have HB1 := mkHid hb1
  clear hp1 hb1
  go_wp2_with fail
  go_loopw [4, 5, 24] (fun v f i wr => ∃ (k : Nat) (A : Option Addr) (m C : Nat) (bs : List Int) (fit : Bool) (WA : Option Addr) (wn WC : Nat) (wbs : List Int), k ≤ n ∧ i = .int .i64 k ∧ f = .bool fit ∧ v = .slice WA wn WC ∧
      PK wr w.heap.size w.heap.size A m C bs (!fit) ∧ m ≤ 8 * k ∧ wr.ownsRow w.heap.size 5 1 (.slice WA wn WC) wn (wbs.map Go.Proofs.Ytncbckbcdopipaa.u8) ∧ wn ≤ 8 * k ∧ ((Value.slice WA wn WC).ownBlock = none ∨ (Value.slice WA wn WC).ownBlock ≠ (Value.slice A m C).ownBlock) ∧
      (fit = true → bs = packsOf (l.take k) ∧ wbs = bs) ∧ fit = (l.take k).all fitsOf ∧ Below w.heap.size w wr) (fun _ _ i _ => n - (intOf i).toNat)
  case atStart => exact ⟨0, none, 0, 0, [], true, none, 0, 0, [], Nat.zero_le _, rfl, rfl, rfl, HP1.out, by omega, World.ownsRow_nil _ _ _ _, by omega, .inl rfl, fun _ => ⟨rfl, rfl⟩, rfl, HB1.out⟩
  case round =>
    clear HP1 HB1
    obtain ⟨k, A, m, C, bs, fit, WA, wn, WC, wbs, hk, rfl, rfl, rfl, hp, hm, hown, hwn, hne, hsame, hfit, hb⟩ := hrel
    have hszr := hb.size
    by_cases hlt : k < n
    · obtain ⟨b, o, S, X, rfl, hbl, hget, hc0, hc1, hIS, hIX⟩ := (hx.below hb).pair hlt
      have HG := mkHid hget
      have HSM := mkHid hsame
      have HFI := mkHid hfit
      have HOW := mkHid hown
      have HNE := mkHid hne
      have HP := mkHid hp
      have HB := mkHid hb
      have hglt := hp.lt
      have HIX := mkHid hIX
      clear hget hsame hfit hown hne hp hb hIX
      by_cases his : isSize S = true
      · obtain ⟨size, rfl, hsz⟩ := isSize_nat his
        clear his
        rcases hsz with rfl | rfl | rfl | rfl
        · have HGS := mkHid (show packsOf (l.take (k + 1)) = packsOf (l.take k) ++ nb 1 X from by rw [packsOf_succ l k HG.out]; rfl)
          have HFS := mkHid (show fitsOf ((1 : Nat), X) = fits 1 X from rfl)
          go_wp2_with fail
          refine (pByte_own w.heap.size w.heap.size A m C bs (!fit) (wr.heap.size + 1) 1 X (0, 0) _ ((HP.out.alloc _).alloc _) (new2 _ _ _) HIX.out (by omega)).mono ?_
          rintro e w2 ⟨rfl, A2, C2, hp2, pb2⟩
          have hpc : w2.heap[wr.heap.size]? = some (.cells #[.int .i64 1, .int .i64 X] 63 (0, 0)) := by
            refine (pb2.keep wr.heap.size (by simp; omega) (by omega) (fun e => ?_)).trans ((Below.heap_alloc _ _ _ (by simp)).trans (heap_alloc_new wr _))
            have := (HP.out.own.lt _ e.symm).2
            omega
          obtain ⟨d0, d1, e0, e1⟩ := facts2 hpc
          have hbA : Below wr.heap.size wr ((wr.alloc (.cells #[.int .i64 1, .int .i64 X] 63)).alloc (.cells #[.int .i64 X] 3)) := ((Below.refl _ _).alloc (Nat.le_refl _) _).alloc (by simp) _
          obtain ⟨hown2, hne2⟩ := want_keep ((HP.out.alloc _).alloc _) (own_below HOW.out hbA) HNE.out pb2
          have HB2 := mkHid (((HB.out.alloc hszr _).alloc (by simp; omega) _).trans pb2.below)
          have HP2 := mkHid hp2
          have HOW2 := mkHid hown2
          have HNE2 := mkHid hne2
          clear hp2 pb2 hown2 hne2 hpc hbA HB HP HOW HNE
          cases fit with
          | false =>
            go_wp2_with fail
            go_roundw
            case rel =>
              exact ⟨k + 1, A2, m + 1, C2, bs ++ nb 1 X, false, WA, wn, WC, wbs, by omega, by go_num, rfl, rfl, HP2.out, by omega, HOW2.out, by omega, HNE2.out, (fun h => by cases h), by rw [all_succ' l k HG.out, ← HFI.out]; rfl, HB2.out⟩
            case measure => simp [intOf]; omega
          | true =>
            obtain ⟨hsm1, hsm2⟩ := HSM.out rfl
            have HS1 := mkHid hsm1
            have HS2 := mkHid hsm2
            clear hsm1 hsm2
            go_wp2_with fail
            refine (rfits_any X 1 (by omega) _ HIX.out).mono ?_
            rintro e w' ⟨rfl, rfl⟩
            cases hft : fits 1 X with
            | false =>
              rw [hft] at HP2 HFS
              clear hft
              go_wp2_with fail
              go_roundw
              case rel =>
                exact ⟨k + 1, A2, m + 1, C2, bs ++ nb 1 X, false, WA, wn, WC, wbs, by omega, by go_num, rfl, rfl, HP2.out, by omega, HOW2.out, by omega, HNE2.out, (fun h => by cases h), by rw [all_succ' l k HG.out, ← HFI.out, HFS.out]; rfl, HB2.out⟩
              case measure => simp [intOf]; omega
            | true =>
              have hX := fits_lt (by omega) hft
              rw [hft] at HP2 HFS
              clear hft
              go_wp2_with fail
              refine (number_any X 1 w2 ⟨by omega, by omega⟩ (by omega)).mono ?_
              rintro e w3 ⟨An, nn, Cn, rfl, hon, hb3⟩
              have hnn : nn = 1 := by have h1 := hon.1; simp [nb_len] at h1; omega
              subst hnn
              have HON := mkHid (SL.of_own hon)
              have HP3 := mkHid (HP2.out.below hb3 (Nat.le_refl _))
              have HOW3 := mkHid (own_below HOW2.out hb3)
              have HB3 := mkHid (HB2.out.trans (hb3.mono HB2.out.size))
              have hd : w3.heap.size ≥ w2.heap.size := hb3.size
              have hsz3 := HB3.out.size
              clear hon hb3 HP2 HOW2 HB2 hX
              go_wp2_with (at_builtin; refine wpList_app _ rfl (.tmp 67) (.tmp 72) _ rfl w.heap.size el_u8 WA wn WC _ rfl HOW3.out w3.heap.size An 1 Cn _ rfl HON.out (u8_cells _) (by unfold maxLen; omega) (by omega) hsz3 ?_; intro WA4 WC4 w4 hown4 hg4 hat4; have HOW4 := mkHid hown4; have HG4 := mkHid hg4; have HAT4 := mkHid hat4; clear hown4 hg4 hat4)
              go_roundw
              case rel =>
                obtain ⟨hp4, hne4⟩ := pk_grown HP3.out HOW3.out HNE2.out HG4.out HAT4.out
                have hown4 := HOW4.out
                rw [← List.map_append] at hown4
                exact ⟨k + 1, A2, m + 1, C2, bs ++ nb 1 X, true, WA4, wn + 1, WC4, wbs ++ nb 1 X, by omega, by go_num, rfl, rfl, hp4, by omega, hown4, by omega, hne4, (fun _ => ⟨by rw [HGS.out, ← HS1.out], by rw [HS2.out]⟩), by rw [all_succ' l k HG.out, ← HFI.out, HFS.out]; rfl, HB3.out.grown HG4.out hsz3 (own_base HOW3.out)⟩
              case measure => simp [intOf]; omega
        · have HGS := mkHid (show packsOf (l.take (k + 1)) = packsOf (l.take k) ++ nb 2 X from by rw [packsOf_succ l k HG.out]; rfl)
          have HFS := mkHid (show fitsOf ((2 : Nat), X) = fits 2 X from rfl)
          go_wp2_with fail
          refine (pShort_own w.heap.size w.heap.size A m C bs (!fit) (wr.heap.size + 1) 1 X (0, 0) _ ((HP.out.alloc _).alloc _) (new2 _ _ _) HIX.out (by omega)).mono ?_
          rintro e w2 ⟨rfl, A2, C2, hp2, pb2⟩
          have hpc : w2.heap[wr.heap.size]? = some (.cells #[.int .i64 2, .int .i64 X] 63 (0, 0)) := by
            refine (pb2.keep wr.heap.size (by simp; omega) (by omega) (fun e => ?_)).trans ((Below.heap_alloc _ _ _ (by simp)).trans (heap_alloc_new wr _))
            have := (HP.out.own.lt _ e.symm).2
            omega
          obtain ⟨d0, d1, e0, e1⟩ := facts2 hpc
          have hbA : Below wr.heap.size wr ((wr.alloc (.cells #[.int .i64 2, .int .i64 X] 63)).alloc (.cells #[.int .i64 X] 3)) := ((Below.refl _ _).alloc (Nat.le_refl _) _).alloc (by simp) _
          obtain ⟨hown2, hne2⟩ := want_keep ((HP.out.alloc _).alloc _) (own_below HOW.out hbA) HNE.out pb2
          have HB2 := mkHid (((HB.out.alloc hszr _).alloc (by simp; omega) _).trans pb2.below)
          have HP2 := mkHid hp2
          have HOW2 := mkHid hown2
          have HNE2 := mkHid hne2
          clear hp2 pb2 hown2 hne2 hpc hbA HB HP HOW HNE
          cases fit with
          | false =>
            go_wp2_with fail
            go_roundw
            case rel =>
              exact ⟨k + 1, A2, m + 2, C2, bs ++ nb 2 X, false, WA, wn, WC, wbs, by omega, by go_num, rfl, rfl, HP2.out, by omega, HOW2.out, by omega, HNE2.out, (fun h => by cases h), by rw [all_succ' l k HG.out, ← HFI.out]; rfl, HB2.out⟩
            case measure => simp [intOf]; omega
          | true =>
            obtain ⟨hsm1, hsm2⟩ := HSM.out rfl
            have HS1 := mkHid hsm1
            have HS2 := mkHid hsm2
            clear hsm1 hsm2
            go_wp2_with fail
            refine (rfits_any X 2 (by omega) _ HIX.out).mono ?_
            rintro e w' ⟨rfl, rfl⟩
            cases hft : fits 2 X with
            | false =>
              rw [hft] at HP2 HFS
              clear hft
              go_wp2_with fail
              go_roundw
              case rel =>
                exact ⟨k + 1, A2, m + 2, C2, bs ++ nb 2 X, false, WA, wn, WC, wbs, by omega, by go_num, rfl, rfl, HP2.out, by omega, HOW2.out, by omega, HNE2.out, (fun h => by cases h), by rw [all_succ' l k HG.out, ← HFI.out, HFS.out]; rfl, HB2.out⟩
              case measure => simp [intOf]; omega
            | true =>
              have hX := fits_lt (by omega) hft
              rw [hft] at HP2 HFS
              clear hft
              go_wp2_with fail
              refine (number_any X 2 w2 ⟨by omega, by omega⟩ (by omega)).mono ?_
              rintro e w3 ⟨An, nn, Cn, rfl, hon, hb3⟩
              have hnn : nn = 2 := by have h1 := hon.1; simp [nb_len] at h1; omega
              subst hnn
              have HON := mkHid (SL.of_own hon)
              have HP3 := mkHid (HP2.out.below hb3 (Nat.le_refl _))
              have HOW3 := mkHid (own_below HOW2.out hb3)
              have HB3 := mkHid (HB2.out.trans (hb3.mono HB2.out.size))
              have hd : w3.heap.size ≥ w2.heap.size := hb3.size
              have hsz3 := HB3.out.size
              clear hon hb3 HP2 HOW2 HB2 hX
              go_wp2_with (at_builtin; refine wpList_app _ rfl (.tmp 67) (.tmp 72) _ rfl w.heap.size el_u8 WA wn WC _ rfl HOW3.out w3.heap.size An 2 Cn _ rfl HON.out (u8_cells _) (by unfold maxLen; omega) (by omega) hsz3 ?_; intro WA4 WC4 w4 hown4 hg4 hat4; have HOW4 := mkHid hown4; have HG4 := mkHid hg4; have HAT4 := mkHid hat4; clear hown4 hg4 hat4)
              go_roundw
              case rel =>
                obtain ⟨hp4, hne4⟩ := pk_grown HP3.out HOW3.out HNE2.out HG4.out HAT4.out
                have hown4 := HOW4.out
                rw [← List.map_append] at hown4
                exact ⟨k + 1, A2, m + 2, C2, bs ++ nb 2 X, true, WA4, wn + 2, WC4, wbs ++ nb 2 X, by omega, by go_num, rfl, rfl, hp4, by omega, hown4, by omega, hne4, (fun _ => ⟨by rw [HGS.out, ← HS1.out], by rw [HS2.out]⟩), by rw [all_succ' l k HG.out, ← HFI.out, HFS.out]; rfl, HB3.out.grown HG4.out hsz3 (own_base HOW3.out)⟩
              case measure => simp [intOf]; omega
        · have HGS := mkHid (show packsOf (l.take (k + 1)) = packsOf (l.take k) ++ nb 4 X from by rw [packsOf_succ l k HG.out]; rfl)
          have HFS := mkHid (show fitsOf ((4 : Nat), X) = fits 4 X from rfl)
          go_wp2_with fail
          refine (pWord_own w.heap.size w.heap.size A m C bs (!fit) (wr.heap.size + 1) 1 X (0, 0) _ ((HP.out.alloc _).alloc _) (new2 _ _ _) HIX.out (by omega)).mono ?_
          rintro e w2 ⟨rfl, A2, C2, hp2, pb2⟩
          have hpc : w2.heap[wr.heap.size]? = some (.cells #[.int .i64 4, .int .i64 X] 63 (0, 0)) := by
            refine (pb2.keep wr.heap.size (by simp; omega) (by omega) (fun e => ?_)).trans ((Below.heap_alloc _ _ _ (by simp)).trans (heap_alloc_new wr _))
            have := (HP.out.own.lt _ e.symm).2
            omega
          obtain ⟨d0, d1, e0, e1⟩ := facts2 hpc
          have hbA : Below wr.heap.size wr ((wr.alloc (.cells #[.int .i64 4, .int .i64 X] 63)).alloc (.cells #[.int .i64 X] 3)) := ((Below.refl _ _).alloc (Nat.le_refl _) _).alloc (by simp) _
          obtain ⟨hown2, hne2⟩ := want_keep ((HP.out.alloc _).alloc _) (own_below HOW.out hbA) HNE.out pb2
          have HB2 := mkHid (((HB.out.alloc hszr _).alloc (by simp; omega) _).trans pb2.below)
          have HP2 := mkHid hp2
          have HOW2 := mkHid hown2
          have HNE2 := mkHid hne2
          clear hp2 pb2 hown2 hne2 hpc hbA HB HP HOW HNE
          cases fit with
          | false =>
            go_wp2_with fail
            go_roundw
            case rel =>
              exact ⟨k + 1, A2, m + 4, C2, bs ++ nb 4 X, false, WA, wn, WC, wbs, by omega, by go_num, rfl, rfl, HP2.out, by omega, HOW2.out, by omega, HNE2.out, (fun h => by cases h), by rw [all_succ' l k HG.out, ← HFI.out]; rfl, HB2.out⟩
            case measure => simp [intOf]; omega
          | true =>
            obtain ⟨hsm1, hsm2⟩ := HSM.out rfl
            have HS1 := mkHid hsm1
            have HS2 := mkHid hsm2
            clear hsm1 hsm2
            go_wp2_with fail
            refine (rfits_any X 4 (by omega) _ HIX.out).mono ?_
            rintro e w' ⟨rfl, rfl⟩
            cases hft : fits 4 X with
            | false =>
              rw [hft] at HP2 HFS
              clear hft
              go_wp2_with fail
              go_roundw
              case rel =>
                exact ⟨k + 1, A2, m + 4, C2, bs ++ nb 4 X, false, WA, wn, WC, wbs, by omega, by go_num, rfl, rfl, HP2.out, by omega, HOW2.out, by omega, HNE2.out, (fun h => by cases h), by rw [all_succ' l k HG.out, ← HFI.out, HFS.out]; rfl, HB2.out⟩
              case measure => simp [intOf]; omega
            | true =>
              have hX := fits_lt (by omega) hft
              rw [hft] at HP2 HFS
              clear hft
              go_wp2_with fail
              refine (number_any X 4 w2 ⟨by omega, by omega⟩ (by omega)).mono ?_
              rintro e w3 ⟨An, nn, Cn, rfl, hon, hb3⟩
              have hnn : nn = 4 := by have h1 := hon.1; simp [nb_len] at h1; omega
              subst hnn
              have HON := mkHid (SL.of_own hon)
              have HP3 := mkHid (HP2.out.below hb3 (Nat.le_refl _))
              have HOW3 := mkHid (own_below HOW2.out hb3)
              have HB3 := mkHid (HB2.out.trans (hb3.mono HB2.out.size))
              have hd : w3.heap.size ≥ w2.heap.size := hb3.size
              have hsz3 := HB3.out.size
              clear hon hb3 HP2 HOW2 HB2 hX
              go_wp2_with (at_builtin; refine wpList_app _ rfl (.tmp 67) (.tmp 72) _ rfl w.heap.size el_u8 WA wn WC _ rfl HOW3.out w3.heap.size An 4 Cn _ rfl HON.out (u8_cells _) (by unfold maxLen; omega) (by omega) hsz3 ?_; intro WA4 WC4 w4 hown4 hg4 hat4; have HOW4 := mkHid hown4; have HG4 := mkHid hg4; have HAT4 := mkHid hat4; clear hown4 hg4 hat4)
              go_roundw
              case rel =>
                obtain ⟨hp4, hne4⟩ := pk_grown HP3.out HOW3.out HNE2.out HG4.out HAT4.out
                have hown4 := HOW4.out
                rw [← List.map_append] at hown4
                exact ⟨k + 1, A2, m + 4, C2, bs ++ nb 4 X, true, WA4, wn + 4, WC4, wbs ++ nb 4 X, by omega, by go_num, rfl, rfl, hp4, by omega, hown4, by omega, hne4, (fun _ => ⟨by rw [HGS.out, ← HS1.out], by rw [HS2.out]⟩), by rw [all_succ' l k HG.out, ← HFI.out, HFS.out]; rfl, HB3.out.grown HG4.out hsz3 (own_base HOW3.out)⟩
              case measure => simp [intOf]; omega
        · have HGS := mkHid (show packsOf (l.take (k + 1)) = packsOf (l.take k) ++ nb 8 X from by rw [packsOf_succ l k HG.out]; rfl)
          have HFS := mkHid (show fitsOf ((8 : Nat), X) = fits 8 X from rfl)
          go_wp2_with fail
          refine (pLong_own w.heap.size w.heap.size A m C bs (!fit) (wr.heap.size + 1) 1 X (0, 0) _ ((HP.out.alloc _).alloc _) (new2 _ _ _) HIX.out (by omega)).mono ?_
          rintro e w2 ⟨rfl, A2, C2, hp2, pb2⟩
          have hpc : w2.heap[wr.heap.size]? = some (.cells #[.int .i64 8, .int .i64 X] 63 (0, 0)) := by
            refine (pb2.keep wr.heap.size (by simp; omega) (by omega) (fun e => ?_)).trans ((Below.heap_alloc _ _ _ (by simp)).trans (heap_alloc_new wr _))
            have := (HP.out.own.lt _ e.symm).2
            omega
          obtain ⟨d0, d1, e0, e1⟩ := facts2 hpc
          have hbA : Below wr.heap.size wr ((wr.alloc (.cells #[.int .i64 8, .int .i64 X] 63)).alloc (.cells #[.int .i64 X] 3)) := ((Below.refl _ _).alloc (Nat.le_refl _) _).alloc (by simp) _
          obtain ⟨hown2, hne2⟩ := want_keep ((HP.out.alloc _).alloc _) (own_below HOW.out hbA) HNE.out pb2
          have HB2 := mkHid (((HB.out.alloc hszr _).alloc (by simp; omega) _).trans pb2.below)
          have HP2 := mkHid hp2
          have HOW2 := mkHid hown2
          have HNE2 := mkHid hne2
          clear hp2 pb2 hown2 hne2 hpc hbA HB HP HOW HNE
          cases fit with
          | false =>
            go_wp2_with fail
            go_roundw
            case rel =>
              exact ⟨k + 1, A2, m + 8, C2, bs ++ nb 8 X, false, WA, wn, WC, wbs, by omega, by go_num, rfl, rfl, HP2.out, by omega, HOW2.out, by omega, HNE2.out, (fun h => by cases h), by rw [all_succ' l k HG.out, ← HFI.out]; rfl, HB2.out⟩
            case measure => simp [intOf]; omega
          | true =>
            obtain ⟨hsm1, hsm2⟩ := HSM.out rfl
            have HS1 := mkHid hsm1
            have HS2 := mkHid hsm2
            clear hsm1 hsm2
            go_wp2_with fail
            refine (rfits_any X 8 (by omega) _ HIX.out).mono ?_
            rintro e w' ⟨rfl, rfl⟩
            cases hft : fits 8 X with
            | false =>
              rw [hft] at HP2 HFS
              clear hft
              go_wp2_with fail
              go_roundw
              case rel =>
                exact ⟨k + 1, A2, m + 8, C2, bs ++ nb 8 X, false, WA, wn, WC, wbs, by omega, by go_num, rfl, rfl, HP2.out, by omega, HOW2.out, by omega, HNE2.out, (fun h => by cases h), by rw [all_succ' l k HG.out, ← HFI.out, HFS.out]; rfl, HB2.out⟩
              case measure => simp [intOf]; omega
            | true =>
              have hX := fits_lt (by omega) hft
              rw [hft] at HP2 HFS
              clear hft
              go_wp2_with fail
              refine (number_any X 8 w2 ⟨by omega, by omega⟩ (by omega)).mono ?_
              rintro e w3 ⟨An, nn, Cn, rfl, hon, hb3⟩
              have hnn : nn = 8 := by have h1 := hon.1; simp [nb_len] at h1; omega
              subst hnn
              have HON := mkHid (SL.of_own hon)
              have HP3 := mkHid (HP2.out.below hb3 (Nat.le_refl _))
              have HOW3 := mkHid (own_below HOW2.out hb3)
              have HB3 := mkHid (HB2.out.trans (hb3.mono HB2.out.size))
              have hd : w3.heap.size ≥ w2.heap.size := hb3.size
              have hsz3 := HB3.out.size
              clear hon hb3 HP2 HOW2 HB2 hX
              go_wp2_with (at_builtin; refine wpList_app _ rfl (.tmp 67) (.tmp 72) _ rfl w.heap.size el_u8 WA wn WC _ rfl HOW3.out w3.heap.size An 8 Cn _ rfl HON.out (u8_cells _) (by unfold maxLen; omega) (by omega) hsz3 ?_; intro WA4 WC4 w4 hown4 hg4 hat4; have HOW4 := mkHid hown4; have HG4 := mkHid hg4; have HAT4 := mkHid hat4; clear hown4 hg4 hat4)
              go_roundw
              case rel =>
                obtain ⟨hp4, hne4⟩ := pk_grown HP3.out HOW3.out HNE2.out HG4.out HAT4.out
                have hown4 := HOW4.out
                rw [← List.map_append] at hown4
                exact ⟨k + 1, A2, m + 8, C2, bs ++ nb 8 X, true, WA4, wn + 8, WC4, wbs ++ nb 8 X, by omega, by go_num, rfl, rfl, hp4, by omega, hown4, by omega, hne4, (fun _ => ⟨by rw [HGS.out, ← HS1.out], by rw [HS2.out]⟩), by rw [all_succ' l k HG.out, ← HFI.out, HFS.out]; rfl, HB3.out.grown HG4.out hsz3 (own_base HOW3.out)⟩
              case measure => simp [intOf]; omega
      · have his' : isSize S = false := by simpa using his
        have HIS := mkHid his'
        have hns : ∀ t : Int, isSize t = true → (S == t) = false := fun t ht => by
          rw [beq_eq_false_iff_ne]
          intro e
          rw [e, ht] at his'
          cases his'
        have hs1 := hns 1 rfl
        have hs2 := hns 2 rfl
        have hs4 := hns 4 rfl
        have hs8 := hns 8 rfl
        clear hns his his'
        go_wp2_with fail
        go_roundw
        case rel =>
          have e1 : packsOf (l.take (k + 1)) = packsOf (l.take k) := by rw [packsOf_succ l k HG.out]; simp [HIS.out]
          have e2 : fitsOf (S, X) = true := by simp [fitsOf, HIS.out]
          exact ⟨k + 1, A, m, C, bs, fit, WA, wn, WC, wbs, by omega, by go_num, rfl, rfl, HP.out.alloc _, by omega, own_below HOW.out ((Below.refl _ _).alloc (Nat.le_refl _) _), by omega, HNE.out, by rw [e1]; exact HSM.out, by rw [all_succ' l k HG.out, ← HFI.out, e2, Bool.and_true], HB.out.alloc hszr _⟩
        case measure => simp [intOf]; omega
    · obtain rfl : k = n := by omega
      rw [List.take_of_length_le (by rw [HLL.out]; exact Nat.le_refl _)] at hsame hfit
      have HSM := mkHid hsame
      have HFI := mkHid hfit
      have HOW := mkHid hown
      have HP := mkHid hp
      have HB := mkHid hb
      clear hsame hfit hown hne hp hb
      cases fit with
      | false =>
        rw [Bool.not_false] at HP
        go_wp2_with fail
        refine (bytes_bad _ _ _ _ _ _ _ HP.out).mono ?_
        rintro e w' ⟨rfl, rfl⟩
        go_wp2_with fail
        refine (is_code 20 20 _).mono ?_
        rintro e w' ⟨rfl, rfl⟩
        rw [show ((20 : Int) != 0 && (20 : Int) == 20) = true from rfl]
        go_wp2_with fail
        refine (awake_any _).mono ?_
        rintro e w9 ⟨rfl, hb9⟩
        go_wp2_with fail
        go_ret
        exact FIN.out _ _ _ rfl HB.out hb9
      | true =>
        rw [Bool.not_true] at HP
        obtain ⟨rfl, rfl⟩ := HSM.out rfl
        go_wp2_with fail
        refine (bytes_ok_any _ _ _ _ _ _ _ HP.out (by omega)).mono ?_
        rintro e w2 ⟨Ab, nb_, Cb, rfl, hob, hb2⟩
        have hm2 : nb_ = m := by have h1 := hob.1; have h2 := HP.out.len; simp at h1; omega
        subst hm2
        have HBB := mkHid (show BS w2 w2.heap.size Ab nb_ (packsOf l) from ⟨SL.of_own hob, HP.out.ok⟩)
        have HWW := mkHid (show BS w2 w2.heap.size WA wn (packsOf l) from ⟨SL.of_own (own_below HOW.out hb2), HP.out.ok⟩)
        have HB2 := mkHid (HB.out.trans (hb2.mono hszr))
        clear hob hb2
        go_wp2_with fail
        refine (same_any Ab WA nb_ wn Cb WC _ _ _ _ _ HBB.out HWW.out).mono ?_
        rintro e w' ⟨rfl, rfl⟩
        rw [decide_eq_true rfl]
        go_wp2_with fail
        refine (newUnpacker_any Ab nb_ Cb _ _ HBB.out (by omega)).mono ?_
        rintro e w3 ⟨g, rfl, hg, ⟨a1, n1, c1, hu1⟩, hb3⟩
        have hgw : w.heap.size ≤ g := by have := HB2.out.size; omega
        have HB3 := mkHid (HB2.out.trans (hb3.mono HB2.out.size))
        have HU3 := mkHid hu1
        clear hu1 hb3 hg HBB HWW HB2 HB HOW HP HSM hm hwn hszr
        go_wp2_with fail
        go_loopw [104] (fun i wr => ∃ (q : Nat) (a' : Option Addr) (n' c' : Nat), q ≤ k ∧ i = .int .i64 q ∧ UK wr g a' n' c' (packsOf (l.drop q)) false ∧ Below w.heap.size w wr) (fun i _ => k - (intOf i).toNat)
        case atStart => exact ⟨0, a1, n1, c1, Nat.zero_le _, rfl, HU3.out, HB3.out⟩
        case round =>
          clear HU3 HB3
          obtain ⟨q, a', n', c', hq, rfl, hu, hb⟩ := hrel
          have hszr := hb.size
          have HU := mkHid hu
          have HB := mkHid hb
          clear hu
          by_cases hlt2 : q < k
          · obtain ⟨b, o, S, X, rfl, hbl, hget, hc0, hc1, hIS, hIX⟩ := (hx.below hb).pair hlt2
            have hfo : fitsOf (S, X) = true := List.all_eq_true.1 HFI.out.symm (S, X) (List.mem_of_getElem? hget)
            have HD := mkHid (packsOf_drop l q hget)
            have HFO := mkHid hfo
            have HUA := mkHid (HU.out.below ((Below.refl _ _).alloc (Nat.le_refl _) (.cells #[.int .i64 S, .int .i64 X] 63)) (Nat.le_refl _))
            clear hget hfo hb
            by_cases his : isSize S = true
            · obtain ⟨size, rfl, hsz⟩ := isSize_nat his
              rw [if_pos his] at HD
              have HSZ := mkHid hsz
              have hfs : fits size X = true := by have := HFO.out; unfold fitsOf at this; rw [his] at this; simpa using this
              have HFS := mkHid hfs
              clear hsz hfs his
              go_wp2_with fail
              refine (next_any size HSZ.out g a' n' c' _ _ _ HUA.out).mono ?_
              rintro e w5 ⟨rfl, ⟨a5, n5, c5, hu5⟩, hg5⟩
              rw [HD.out, Int.toNat_natCast, take_nb HSZ.out HFS.out] at hu5 ⊢
              have hpc : w5.heap[wr.heap.size]? = some (.cells #[.int .i64 size, .int .i64 X] 63 (0, 0)) :=
                (hg5.block wr.heap.size (by simp) (by intro e; injection e with e; have := HU.out.lt; omega)).trans (heap_alloc_new wr _)
              obtain ⟨d0, d1, e0, e1⟩ := facts2 hpc
              have HU5 := mkHid hu5
              have HB5 := mkHid ((HB.out.alloc hszr (.cells #[.int .i64 size, .int .i64 X] 63)).grown hg5 (by simp; omega) (fun q hq => by injection hq with hq; omega))
              clear hu5 hg5 hpc HU HB HUA
              go_wp2_with fail
              go_roundw
              case rel => exact ⟨q + 1, a5, n5, c5, by omega, by go_num, HU5.out, HB5.out⟩
              case measure => simp [intOf]; omega
            · have his' : isSize S = false := by simpa using his
              rw [if_neg his, List.nil_append] at HD
              have HIS := mkHid his'
              clear his his'
              go_wp2_with fail
              refine (next_no S g _ HIS.out hIS).mono ?_
              rintro e w' ⟨rfl, rfl⟩
              go_wp2_with fail
              go_roundw
              case rel => exact ⟨q + 1, a', n', c', by omega, by go_num, by have := HUA.out; rwa [HD.out] at this, HB.out.alloc hszr _⟩
              case measure => simp [intOf]; omega
          · obtain rfl : q = k := by omega
            rw [List.drop_of_length_le (by rw [HLL.out]; exact Nat.le_refl _)] at HU
            go_wp2_with fail
            refine (done_any g a' n' c' _ _ _ HU.out).mono ?_
            rintro e w' ⟨rfl, rfl⟩
            rw [show (if doneOf (packsOf []) false = true then Value.nilIface else codeV 14) = .nilIface from rfl]
            go_wp2_with fail
            refine (awake_any _).mono ?_
            rintro e w9 ⟨rfl, hb9⟩
            go_wp2_with fail
            go_ret
            exact FIN.out _ _ _ rfl HB.out hb9

end Go.Proofs.Ytncbckbcdopipaa
