/- Roster.Bytes by contract. -/
import Derived.Test.YtbgfccfhiocomaaRosIR
import Derived.Test.YtbgfccfhiocomaaPacksG
namespace Go.Proofs.Ytbgfccfhiocomaa
open Go.RowKit Go.Shelf

/-- A roster's bytes. -/
def enB (x : Int × Int) : List Int := nb 1 x.1 ++ nb 2 x.2
def rosBytes (xs : List (Int × Int)) : List Int := nb 1 xs.length ++ xs.flatMap enB
theorem enB_len (x : Int × Int) : (enB x).length = 3 := by simp [enB, nb_len]
theorem rosBytes_len (xs : List (Int × Int)) : (rosBytes xs).length = 1 + 3 * xs.length := by
  unfold rosBytes
  rw [List.length_append, nb_len, flat_len enB 3 enB_len]
  omega
theorem drew_heap (w : World) : w.drew.heap = w.heap := rfl
theorem newPacker_at (w : World) : Calls Try.prog 32 #[] w fun e w' => ∃ g, e = .returned (.pointer (some ⟨g, 0, none⟩)) ∧ PK w' g g none 0 0 [] false ∧ w.heap.size ≤ g ∧ Below w.heap.size w w' :=
  (newPacker_any w).mono fun _ _ ⟨h1, h2, h3⟩ => ⟨_, h1, h2, Nat.le_refl _, h3⟩
theorem fits_1 {x : Int} (h0 : 0 ≤ x) (h1 : x < 256) : fits 1 x = true := by
  unfold fits
  rw [if_neg (by decide)]
  exact decide_eq_true ⟨h0, by rw [show (256 : Int) ^ 1 = 256 from rfl]; exact h1⟩
theorem fits_2 {x : Int} (h0 : 0 ≤ x) (h1 : x < 65536) : fits 2 x = true := by
  unfold fits
  rw [if_neg (by decide)]
  exact decide_eq_true ⟨h0, by rw [show (256 : Int) ^ 2 = 65536 from rfl]; exact h1⟩
theorem alloc1D (V : World) (o : Obj) : ((V.alloc o).drew).heap[V.heap.size]? = some o := heap_alloc_new V o
theorem alloc2_first (V : World) (o o2 : Obj) : ((V.alloc o).alloc o2).heap[V.heap.size]? = some o := (Below.heap_alloc _ _ _ (by simp)).trans (heap_alloc_new V o)
theorem alloc2_second (V : World) (o o2 : Obj) : ((V.alloc o).alloc o2).heap[V.heap.size + 1]? = some o2 := by
  have := heap_alloc_new (V.alloc o) o2
  rwa [show (V.alloc o).heap.size = V.heap.size + 1 by simp] at this
theorem alloc2_firstD (V : World) (o o2 : Obj) : (((V.alloc o).alloc o2).drew).heap[V.heap.size]? = some o := alloc2_first V o o2
theorem alloc2_secondD (V : World) (o o2 : Obj) : (((V.alloc o).alloc o2).drew).heap[V.heap.size + 1]? = some o2 := alloc2_second V o o2
/-- What a packer's call leaves: its own bytes' blocks alone turn. -/
def KeepT (w w' : World) : Prop := ∀ (q : Nat) (cs : Array Value) (t : TypeId) (fr : Nat × Nat), t ≠ 5 → t ≠ 118 → w.heap[q]? = some (.cells cs t fr) → w'.heap[q]? = some (.cells cs t fr)
theorem PB.keepT {w w' : World} {g base n C : Nat} {A : Option Addr} {bs : List Int} {bad : Bool} {r' : Option Nat} (h : PB base w w' g (Value.slice A n C).ownBlock r') (hp : PK w g base A n C bs bad) : KeepT w w' := fun q cs t fr h1 h2 hq => by
  refine (h.keep q (Array.getElem?_eq_some_iff.1 hq).1 (fun e => ?_) (fun e => ?_)).trans hq
  · subst e
    rw [hp.blk] at hq
    injection hq with hq
    injection hq with _ ht
    exact h2 ht.symm
  · rcases hp.own.2 with ⟨h3, _⟩ | ⟨g', cap, cur, h3, _, hg', _⟩
    · rw [h3] at e; simp [Value.ownBlock] at e
    · rw [h3] at e
      have e1 : q = g' := by simpa [Value.ownBlock] using e
      subst e1
      rw [hq] at hg'
      injection hg' with hg'
      injection hg' with _ ht
      exact h1 ht
theorem pByte_t (g n C : Nat) (A : Option Addr) (bs : List Int) (k cn : Nat) (x : Int) (w : World) (hp : PK w g g A n C bs false) (hnum : w.heap[k]? = some (.cells #[.int .i64 x] 3 (0, 0))) (hI : I64 x) (hsz : n ≤ 900000000000) (hf : fits 1 x = true) :
    Calls Try.prog 71 #[.pointer (some ⟨g, 0, none⟩), .slice (some ⟨k, 0, none⟩) 1 cn] w fun e w' => e = .returned (.pointer (some ⟨g, 0, none⟩)) ∧ ∃ A' C', PK w' g g A' (n + 1) C' (bs ++ nb 1 x) false ∧ Below g w w' ∧ KeepT w w' :=
  (pByte_own g g A n C bs false k cn x (0, 0) w hp hnum hI hsz).mono fun e w' ⟨h1, A', C', h2, h3⟩ => ⟨h1, A', C', by rw [hf] at h2; exact h2, h3.below, h3.keepT hp⟩
theorem pShort_t (g n C : Nat) (A : Option Addr) (bs : List Int) (k cn : Nat) (x : Int) (w : World) (hp : PK w g g A n C bs false) (hnum : w.heap[k]? = some (.cells #[.int .i64 x] 3 (0, 0))) (hI : I64 x) (hsz : n ≤ 900000000000) (hf : fits 2 x = true) :
    Calls Try.prog 72 #[.pointer (some ⟨g, 0, none⟩), .slice (some ⟨k, 0, none⟩) 1 cn] w fun e w' => e = .returned (.pointer (some ⟨g, 0, none⟩)) ∧ ∃ A' C', PK w' g g A' (n + 2) C' (bs ++ nb 2 x) false ∧ Below g w w' ∧ KeepT w w' :=
  (pShort_own g g A n C bs false k cn x (0, 0) w hp hnum hI hsz).mono fun e w' ⟨h1, A', C', h2, h3⟩ => ⟨h1, A', C', by rw [hf] at h2; exact h2, h3.below, h3.keepT hp⟩
/-- Bytes and an error are answered. -/
def RetY (w : World) (code : Int) (l : List Int) (e : Ending) (w' : World) : Prop :=
  ∃ A n C, e = .returned (.tuple #[.slice A n C, errV code]) ∧ BS w' w'.heap.size A n l ∧ CapOk n C ∧ Below w.heap.size w w'

set_option maxRecDepth 20000 in
theorem bytes_no (a : Option Addr) (n c : Nat) (xs : List (Int × Int)) (w : World) (hs : ES w w.heap.size a n xs) (hc : CapOk n c) (hr : rightL xs = false) :
    Calls Try.prog 35 #[.agg #[.slice a n c]] w (RetY w 14 []) := by
  have hal : Below w.heap.size w (w.alloc (.cells #[.slice a n c] 33)) := (Below.refl _ _).alloc (Nat.le_refl _) _
  have HK := mkHid (check_no a n c xs _ (hs.next hal) hc hr)
  have HAL := mkHid hal
  clear hs hc hr hal
  go_enter Try.func35, Try.ntmps35
  go_wp2_with fail
  refine HK.out.mono ?_
  rintro e w1 ⟨rfl, hb1⟩
  go_wp2_with fail
  go_ret2
  exact ⟨none, 0, 0, by rw [errV_of (by omega)]; rfl, BS.nil, ⟨by omega, by unfold maxLen; omega, by omega⟩, HAL.out.trans (hb1.mono HAL.out.size)⟩

set_option maxRecDepth 20000 in
set_option maxHeartbeats 4000000 in
theorem bytes_yes (a : Option Addr) (n c : Nat) (xs : List (Int × Int)) (w : World) (hs : ES w w.heap.size a n xs) (hc : CapOk n c) (hr : rightL xs = true) :
    Calls Try.prog 35 #[.agg #[.slice a n c]] w (RetY w 0 (rosBytes xs)) := by
  obtain ⟨h8, he⟩ := rightL_ok hr
  have HL := mkHid hs.len
  have hn8 : n ≤ 8 := by rw [hs.len] at h8; exact h8
  have HE := mkHid he
  obtain ⟨W, hW⟩ : ∃ W, w.alloc (.cells #[.slice a n c] 33) = W := ⟨_, rfl⟩
  have hal : Below w.heap.size w W := by rw [← hW]; exact (Below.refl _ _).alloc (Nat.le_refl _) _
  have hsz : W.heap.size = w.heap.size + 1 := by rw [← hW]; simp
  have hbx : W.heap[w.heap.size]? = some (.cells #[.slice a n c] 33) := by rw [← hW]; exact heap_alloc_new _ _
  have c1 := cell_of_row W w.heap.size 0 _ _ _ hbx
  simp at c1
  have HBX := mkHid hbx
  have HAL := mkHid hal
  have HES := mkHid (hs.next hal)
  have HK1 := mkHid (check_ok a n c xs W (hs.next hal) hc hr)
  obtain ⟨hc1, hc2, hc3⟩ := hc
  have HWS := mkHid hsz
  clear hs hr he h8 hal hsz hbx
  go_enter Try.func35, Try.ntmps35
  go_wp2_with fail
  refine HK1.out.mono ?_
  rintro e w1 ⟨rfl, hb1⟩
  clear hW c1 HK1
  have HB1 := mkHid hb1
  have HK := mkHid (show ∀ Z, Below w1.heap.size w1 Z → Z.cell? ⟨w.heap.size, 0, none⟩ = some (.slice a n c) from fun Z hZ => by
    have h1 := hb1.size
    exact cell_of_row Z w.heap.size 0 _ _ _ ((hZ.block _ (by rw [HWS.out] at h1; omega)).trans ((hb1.block _ (by rw [HWS.out]; omega)).trans HBX.out)))
  have hk1 := HK.out w1 (Below.refl _ _)
  clear hb1
  go_wp2_with fail
  go_region_held3 (fun Z => Z.cell? ⟨w.heap.size, 0, none⟩ = some (.slice a n c)) (first | exact hk3 | exact hk2 | exact HK.out _ (by first | exact (Below.refl _ _).drew | exact (Below.refl _ _).drew.alloc (Nat.le_refl _) _ | exact ((Below.refl _ _).alloc (Nat.le_refl _) _).drew | exact HB2.out.alloc HB2.out.size _ | exact HB2.out)) (first
    | (go_at_call 32; refine (newPacker_at _).mono ?_; rintro e w2 ⟨g, rfl, hp2, hg2, hb2⟩; have HB2 := mkHid (below_next (show Below w1.heap.size w1 _ by first | exact (Below.refl _ _).drew | exact (Below.refl _ _).drew.alloc (Nat.le_refl _) _ | exact ((Below.refl _ _).alloc (Nat.le_refl _) _).drew) hb2); have hk2 := HK.out w2 HB2.out; have HP2 := mkHid hp2; have hg1 : w1.heap.size ≤ g := Nat.le_trans (show w1.heap.size ≤ _ by simp [drew_heap]) hg2; have hgl := hp2.lt; (first | (have HN := mkHid ((hb2.block w1.heap.size (by simp [drew_heap])).trans (heap_alloc_new _ _))) | skip); clear hp2 hb2 hg2)
    | (go_at_call 71; refine (pByte_own g g none 0 0 [] false _ 1 (n : Int) (0, 0) _ (by first | exact HP2.out | exact HP2.out.alloc _) (by first | exact heap_alloc_new _ _ | exact HN.out) (by unfold I64; omega) (by omega)).mono ?_; rintro e w3 ⟨rfl, A3, C3, hp3, hpb3⟩; have HB3 := mkHid (show Below w1.heap.size w1 w3 by first | exact HB2.out.trans (hpb3.below.mono hg1) | exact (HB2.out.alloc HB2.out.size _).trans (hpb3.below.mono hg1)); have hk3 := HK.out w3 HB3.out; rw [fits_1 (by omega) (by omega)] at hp3; have HP3 := mkHid hp3; clear hp3 hpb3))
  all_goals
    have HX0 := mkHid (show nb 1 (n : Int) = rosBytes [] ∨ True from .inr trivial)
    clear HX0
    go_wp2_with fail
    go_loopw [20] (fun i wr => ∃ (q : Nat) (A' : Option Addr) (C' : Nat), q ≤ n ∧ i = .int .i64 q ∧ Hid (PK wr g g A' (1 + 3 * q) C' (nb 1 (n : Int) ++ (xs.take q).flatMap enB) false) ∧ Hid (Below w1.heap.size w1 wr)) (fun i _ => n - (intOf i).toNat)
    case atStart => exact ⟨0, A3, C3, Nat.zero_le _, rfl, mkHid (by simpa using HP3.out), HB3⟩
    case round =>
      clear HP3 HB3 hk3
      obtain ⟨q, A', C', hq, rfl, HP, HB⟩ := hrel
      have hk := HK.out wr HB.out
      by_cases hlt : q < n
      · obtain ⟨b, o, x, rfl, hb, hx, ⟨hx1, hx2⟩, h0, h1⟩ := HES.out.at_ hlt
        have hW1 := HB1.out.size
        have hbw1 : b < w1.heap.size := by omega
        have d0 := (HB.out.cell (p := ⟨b, o + q * 2, none⟩) hbw1).trans ((HB1.out.cell (p := ⟨b, o + q * 2, none⟩) hb).trans h0)
        have d1 := (HB.out.cell (p := ⟨b, o + q * 2 + 1, none⟩) hbw1).trans ((HB1.out.cell (p := ⟨b, o + q * 2 + 1, none⟩) hb).trans h1)
        have hxr := of_decide_eq_true (HE.out x (List.mem_of_getElem? hx))
        have HT := mkHid (show (xs.take (q + 1)).flatMap enB = (xs.take q).flatMap enB ++ enB x by
          obtain ⟨hl, hx'⟩ := List.getElem?_eq_some_iff.1 hx
          rw [List.take_succ_eq_append_getElem hl, List.flatMap_append, hx']
          simp)
        obtain ⟨st, sz⟩ := x
        simp only at hxr d0 d1 hx1 hx2
        have hs0 : 0 ≤ st := by omega
        have hs1 : st < 256 := by omega
        have hz0 : 0 ≤ sz := by omega
        have hz1 : sz < 65536 := by omega
        obtain ⟨V, hV⟩ : ∃ V, wr.alloc (.cells #[.int .i64 st, .int .i64 sz] 74) = V := ⟨_, rfl⟩
        have hgl := HP.out.lt
        have hrl := HP.out.own.lt
        have HPV := mkHid (show PK V g g A' (1 + 3 * q) C' _ false by rw [← hV]; exact HP.out.alloc _)
        have hVv : V.heap[wr.heap.size]? = some (.cells #[.int .i64 st, .int .i64 sz] 74 (0, 0)) := by rw [← hV]; exact heap_alloc_new _ _
        have HVv := mkHid hVv
        have HVB := mkHid (show Below w1.heap.size w1 V by rw [← hV]; exact HB.out.alloc HB.out.size _)
        have HVS := mkHid (show V.heap.size = wr.heap.size + 1 by rw [← hV]; simp)
        have HKV := mkHid (show ∀ Z : World, Z.heap[wr.heap.size]? = some (.cells #[.int .i64 st, .int .i64 sz] 74 (0, 0)) → Z.cell? ⟨wr.heap.size, 0, none⟩ = some (.int .i64 st) ∧ Z.cell? ⟨wr.heap.size, 1, none⟩ = some (.int .i64 sz) from fun Z h => ⟨cell_of_row Z _ 0 _ _ _ h, cell_of_row Z _ 1 _ _ _ h⟩)
        have hkV := HKV.out V hVv
        have HRL := mkHid hrl
        clear hx hxr h0 h1 hVv hrl
        go_wp2_with fail
        clear hV d0 d1 hk
        go_region_held3 (fun Z => Z.cell? ⟨wr.heap.size, 0, none⟩ = some (.int .i64 st) ∧ Z.cell? ⟨wr.heap.size, 1, none⟩ = some (.int .i64 sz)) (first | exact hk6 | exact hk5 | exact HKV.out _ (by first | exact ((show Below V.heap.size V _ from (by first | exact (Below.refl _ _).drew.alloc (Nat.le_refl _) _ | exact ((Below.refl _ _).alloc (Nat.le_refl _) _).drew | exact ((Below.refl _ _).drew.alloc (Nat.le_refl _) _).alloc (by simp [drew_heap]) _ | exact (((Below.refl _ _).alloc (Nat.le_refl _) _).alloc (by simp) _).drew | exact (Below.refl _ _).drew)).block _ (by rw [HVS.out]; omega)).trans HVv.out | exact (Below.heap_alloc _ _ _ (Array.getElem?_eq_some_iff.1 HV5.out).1).trans HV5.out)) (first
          | (go_at_call 71; refine (pByte_t g (1 + 3 * q) C' A' _ _ 1 st _ (HPV.out.below (by first | exact (Below.refl _ _).drew.alloc (Nat.le_refl _) _ | exact ((Below.refl _ _).alloc (Nat.le_refl _) _).drew | exact ((Below.refl _ _).drew.alloc (Nat.le_refl _) _).alloc (by simp [drew_heap]) _ | exact (((Below.refl _ _).alloc (Nat.le_refl _) _).alloc (by simp) _).drew | exact (Below.refl _ _).drew) (Nat.le_refl _)) (by first | exact heap_alloc_new _ _ | exact alloc1D _ _ | exact alloc2_first _ _ _ | exact alloc2_firstD _ _ _ | exact alloc2_second _ _ _ | exact alloc2_secondD _ _ _) hx1 (by omega) (fits_1 hs0 hs1)).mono ?_; rintro e w5 ⟨rfl, A5, C5, hp5, hb5, hkt5⟩; have hv5 := hkt5 _ _ _ _ (by decide) (by decide) (((show Below V.heap.size V _ from (by first | exact (Below.refl _ _).drew.alloc (Nat.le_refl _) _ | exact ((Below.refl _ _).alloc (Nat.le_refl _) _).drew | exact ((Below.refl _ _).drew.alloc (Nat.le_refl _) _).alloc (by simp [drew_heap]) _ | exact (((Below.refl _ _).alloc (Nat.le_refl _) _).alloc (by simp) _).drew | exact (Below.refl _ _).drew)).block _ (by rw [HVS.out]; omega)).trans HVv.out); have hk5 := HKV.out w5 hv5; have HV5 := mkHid hv5; have HP5 := mkHid hp5; have HB5 := mkHid ((HVB.out.trans ((show Below V.heap.size V _ from (by first | exact (Below.refl _ _).drew.alloc (Nat.le_refl _) _ | exact ((Below.refl _ _).alloc (Nat.le_refl _) _).drew | exact ((Below.refl _ _).drew.alloc (Nat.le_refl _) _).alloc (by simp [drew_heap]) _ | exact (((Below.refl _ _).alloc (Nat.le_refl _) _).alloc (by simp) _).drew | exact (Below.refl _ _).drew)).mono HVB.out.size)).trans (hb5.mono hg1)); have HKT5 := mkHid hkt5; clear hp5 hb5 hkt5 hv5)
          | (go_at_call 72; refine (pShort_t g (1 + 3 * q + 1) C5 A5 _ _ 1 sz _ (by first | exact HP5.out | exact HP5.out.alloc _) (by first | exact heap_alloc_new _ _ | exact HKT5.out _ _ _ _ (by decide) (by decide) (by first | exact heap_alloc_new _ _ | exact alloc1D _ _ | exact alloc2_first _ _ _ | exact alloc2_firstD _ _ _ | exact alloc2_second _ _ _ | exact alloc2_secondD _ _ _)) hx2 (by omega) (fits_2 hz0 hz1)).mono ?_; rintro e w6 ⟨rfl, A6, C6, hp6, hb6, hkt6⟩; have HP6 := mkHid hp6; have HB6 := mkHid (show Below w1.heap.size w1 w6 by first | exact HB5.out.trans (hb6.mono hg1) | exact (HB5.out.alloc HB5.out.size _).trans (hb6.mono hg1)); have hk6 := HKV.out w6 (hkt6 _ _ _ _ (by decide) (by decide) (by first | exact HV5.out | exact (Below.heap_alloc _ _ _ (Array.getElem?_eq_some_iff.1 HV5.out).1).trans HV5.out)); clear hp6 hb6 hkt6))
        all_goals
          go_wp2_with fail
          go_roundw
          case measure => simp [intOf]; omega
          case rel =>
            refine ⟨q + 1, A6, C6, by omega, by go_num, mkHid ?_, HB6⟩
            have h6 := HP6.out
            rw [HT.out, ← List.append_assoc, show 1 + 3 * (q + 1) = 1 + 3 * q + 1 + 2 by omega]
            unfold enB at h6 ⊢
            rw [← List.append_assoc]
            exact h6
      · obtain rfl : q = n := by omega
        go_wp2_with fail
        refine (bytes_ok_any g g A' (1 + 3 * q) C' _ wr HP.out (by omega)).mono ?_
        rintro e w4 ⟨A4, n4, C4, rfl, ho4, hb4⟩
        have HO4 := mkHid ho4
        have HB4 := mkHid hb4
        clear ho4 hb4
        go_wp2_with fail
        go_ret2
        have hlen := (show BS w4 w4.heap.size A4 n4 _ from ⟨SL.of_own HO4.out, HP.out.ok⟩).len
        refine ⟨A4, n4, C4, rfl, ?_, ⟨(own_cap HO4.out).1, (own_cap HO4.out).2, ?_⟩, HAL.out.trans ((HB1.out.trans ((HB.out.trans (HB4.out.mono HB.out.size)).mono HB1.out.size)).mono HAL.out.size)⟩
        · have hb : BS w4 w4.heap.size A4 n4 (nb 1 (q : Int) ++ (xs.take q).flatMap enB) := ⟨SL.of_own HO4.out, HP.out.ok⟩
          rw [List.take_of_length_le (by rw [HL.out]; exact Nat.le_refl _)] at hb
          unfold rosBytes
          rw [HL.out]
          exact hb
        · rw [List.length_append, nb_len, flat_len enB 3 enB_len, List.length_take] at hlen
          omega

end Go.Proofs.Ytbgfccfhiocomaa
