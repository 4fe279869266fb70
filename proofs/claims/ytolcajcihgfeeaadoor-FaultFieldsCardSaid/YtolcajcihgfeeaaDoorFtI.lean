/- fault.Path, fault.IsAny and the law's own awake by contract. -/
import Derived.Test.YtolcajcihgfeeaaDoorFtH
import Derived.Shelf.Abstract
namespace Go.Proofs.YtolcajcihgfeeaaDoor
open Go.RowKit Go.Extern.Stop Go.Stop Go.Extern

theorem el_str : ElemOk Tryd.prog 44 9 1 16 := ElemOk.mk' (z := .string ⟨#[]⟩) Tryd.underlying44 (by kernel_rfl) rfl (by decide)
/-- The j-th fault, out of the row that faults gives. -/
theorem ft_get {w : World} {B base n C j : Nat} {A : Option Addr} {ps : List Nat} {l : List Lk} {T : TypeId} (ho : w.ownsRow base T 1 (.slice A n C) n (ps.map fpV)) (hf : Fs w B ps l) (hn : l.length = n) (hj : j < n) :
    ∃ b o g x u, A = some ⟨b, o, none⟩ ∧ b < w.heap.size ∧ g < B ∧ l[j]? = some x ∧ w.cell? ⟨b, o + j, none⟩ = some (fpV g) ∧ w.heap[g]? = some (faultO x u) := by
  obtain ⟨g, y, u, h1, h2, h3, h4⟩ := hf.2 j (by omega)
  obtain ⟨b, o, ha, hb, hc⟩ := (SL.of_own ho).2 j (by omega)
  refine ⟨b, o, g, y, u, ha, hb, h3, h2, ?_, h4⟩
  rw [hc, List.getElem?_map, h1]
  rfl
theorem one_str (s : ByteArray) : ∀ u ∈ [Value.string s], u.oneCell' = true := fun u hu => by
  rw [List.mem_singleton.1 hu]; rfl

set_option maxHeartbeats 4000000 in
theorem path_any (l : List Lk) (B : Nat) (c : Option Int) (v : Value) (w : World) (hE : ErrT w) (h : Ch w B l c v) (hB : B ≤ w.heap.size) (hl : l.length ≤ 1000) :
    Calls Tryd.prog 17 #[v] w fun e w' => ∃ A C, e = .returned (.slice A l.length C) ∧ w'.ownsRow w.heap.size 9 1 (.slice A l.length C) l.length (l.map fun x => .string x.op) ∧ Below w.heap.size w w' := by
  have HFA := mkHid (faults_any l B c v w hE h hB hl)
  have HBW := mkHid hB
  obtain ⟨n, hn⟩ : ∃ n, l.length = n := ⟨_, rfl⟩
  rw [hn] at HFA hl ⊢
  have HN := mkHid hn
  clear hE h hn hB
  go_enter Tryd.func17, Tryd.ntmps17
  go_wp2_with (go_at_call 28; refine HFA.out.mono ?_; rintro e w1 ⟨A, C, ps, rfl, ho, hfs, hb⟩; have HB := mkHid hb; have HO := mkHid ho; have HF := mkHid hfs; clear hb ho hfs)
  clear HFA
  go_loopw [3, 9] (fun out i wr => ∃ (k : Nat) (A2 : Option Addr) (C2 : Nat), k ≤ n ∧ i = .int .i64 k ∧ out = .slice A2 k C2 ∧ Hid (wr.ownsRow w1.heap.size 9 1 (.slice A2 k C2) k ((l.take k).map fun x => .string x.op)) ∧ Hid (Below w1.heap.size w1 wr)) (fun _ i _ => n - (intOf i).toNat)
  case atStart => exact ⟨0, none, 0, Nat.zero_le _, rfl, rfl, mkHid (World.ownsRow_nil _ _ _ _), mkHid (Below.refl _ _)⟩
  case round =>
    obtain ⟨k, A2, C2, hk, rfl, rfl, HO2, HB2⟩ := hrel
    by_cases hlt : k < n
    · obtain ⟨b, o, g, x, u, rfl, hbl, hgl, hx, hcell, hg⟩ := ft_get HO.out HF.out HN.out hlt
      have hgl1 : g < w1.heap.size := (Array.getElem?_eq_some_iff.1 hg).1
      have c0 := (HB2.out.cell (p := ⟨b, o + k, none⟩) hbl).trans hcell
      have c1 : wr.cell? ⟨g, 0, none⟩ = some (.string x.op) := cell_of_row wr g 0 _ _ _ ((HB2.out.block g hgl1).trans hg)
      have HX := mkHid (show (l.take (k + 1)).map (fun x => Value.string x.op) = (l.take k).map (fun x => Value.string x.op) ++ [Value.string x.op] from by
        obtain ⟨hk1, rfl⟩ := List.getElem?_eq_some_iff.1 hx
        rw [List.take_succ_eq_append_getElem hk1, List.map_append]; rfl)
      have HS := mkHid (show w1.heap.size ≤ (wr.alloc (.cells #[.string x.op] 9)).heap.size from by have := HB2.out.size; simp; omega)
      clear hbl hgl hx hcell hg
      go_wp2_with (at_builtin; refine wpList_app _ rfl (.tmp 13) (.tmp 18) _ rfl w1.heap.size el_str A2 k C2 _ rfl (HO2.out.alloc _) (wr.heap.size + 1) (some ⟨wr.heap.size, 0, none⟩) 1 1 [.string x.op] rfl (SL.one _ _) (one_str _) (by unfold maxLen; omega) (by omega) HS.out ?_; intro A' C' w2 ho2 hg2 hat2; have HB3 := mkHid (grown_below hg2 (fun b e => (HO2.out.lt b e).1) HS.out); have HO3 := mkHid ho2; clear ho2 hg2 hat2)
      go_roundw
      case measure => simp [intOf]; omega
      case rel => exact ⟨k + 1, A', C', hlt, by go_num, rfl, mkHid (by rw [HX.out]; exact HO3.out), mkHid ((HB2.out.alloc HB2.out.size _).trans HB3.out)⟩
    · obtain rfl : k = n := by omega
      go_wp2_with fail
      go_ret
      exact ⟨A2, C2, rfl, own_weaken (by have := HO2.out; rwa [List.take_of_length_le (by rw [HN.out]; exact Nat.le_refl _)] at this) HB.out.size, HB.out.trans (HB2.out.mono HB.out.size)⟩

/-- What is asked of a predicate on codes. -/
def PredC (g : Nat) (fst caps : Array Value) (p : Int → Bool) (w : World) : Prop :=
  ∀ x : Int, Calls Tryd.prog g (fst.push (.int .i64 x) ++ caps) w fun e w' => e = .returned (.bool (p x)) ∧ w = w'
theorem any_take_succ {α : Type} {xs : List α} {p : α → Bool} {k : Nat} {x : α} (h : xs[k]? = some x) : (xs.take (k + 1)).any p = ((xs.take k).any p || p x) := by
  obtain ⟨hk1, rfl⟩ := List.getElem?_eq_some_iff.1 h
  rw [List.take_succ_eq_append_getElem hk1, List.any_append]; simp only [List.any_cons, List.any_nil, Bool.or_false]
set_option maxRecDepth 20000 in
set_option maxHeartbeats 4000000 in
theorem hasC_any (p : Int → Bool) (g : Nat) (fst caps : Array Value) (eg : ∀ args w, (callFunc g args).run Tryd.prog w = .ok (.enter g args) w) (a : Option Addr) (n c : Nat) (xs : List Int) (w : World) (hp : PredC g fst caps p w) (hs : IS w w.heap.size a n xs) (hn : n ≤ 1000) :
    Calls Tryd.prog 25 #[.slice a n c, .func (.func g) fst caps] w fun e w' => e = .returned (.bool (xs.any p)) ∧ w = w' := by
  have HS := mkHid hs
  have HP := mkHid hp
  have HLN := mkHid hs.len
  clear hs hp
  go_enter Tryd.func25, Tryd.ntmps25
  have HI : Calls Tryd.prog 31 #[.slice a n c, .func (.func g) fst caps] w fun e w' => (∃ i : Int, e = .returned (.int .i64 i) ∧ decide (0 ≤ i) = xs.any p) ∧ w = w' := by
    go_enter Tryd.func31, Tryd.ntmps31
    go_wp2_with fail
    go_loop [8] (fun i => ∃ q : Nat, q ≤ n ∧ i = .int .i64 q ∧ Hid ((xs.take q).any p = false)) (fun i => n - (intOf i).toNat)
    case atStart => exact ⟨0, Nat.zero_le _, rfl, mkHid rfl⟩
    case round =>
      obtain ⟨q, hq, rfl, HN⟩ := hrel
      by_cases hlt : q < n
      · obtain ⟨b, o, rfl, hb, hc, _⟩ := HS.out.at_ hlt
        obtain ⟨x, hx⟩ : ∃ x, xs[q]?.getD 0 = x := ⟨_, rfl⟩
        rw [hx] at hc
        have HX := mkHid (show xs[q]? = some x from by rw [← hx, List.getElem?_eq_getElem (by rw [HLN.out]; exact hlt)]; rfl)
        have HCALL := mkHid (HP.out x)
        clear hx
        go_wp2_with fail
        refine HCALL.out.mono ?_
        rintro e w1 ⟨rfl, hww⟩
        subst hww
        cases hpx : p x with
        | true =>
          go_wp2_with fail
          go_ret
          exact ⟨⟨q, rfl, by
            have h1 : (xs.take (q + 1)).any p = true := by rw [any_take_succ HX.out, hpx]; simp
            have h2 : xs.any p = true := by
              obtain ⟨y, hy, hpy⟩ := List.any_eq_true.1 h1
              exact List.any_eq_true.2 ⟨y, List.mem_of_mem_take hy, hpy⟩
            rw [h2]; exact decide_eq_true (Int.natCast_nonneg q)⟩, rfl⟩
        | false =>
          have HPX := mkHid hpx
          clear hpx
          go_wp2_with fail
          go_round
          case measure => simp [intOf]; omega
          case rel => exact ⟨q + 1, by omega, by go_num, mkHid (by rw [any_take_succ HX.out, HN.out, HPX.out]; rfl)⟩
      · obtain rfl : q = n := by omega
        go_wp2_with fail
        go_ret
        exact ⟨⟨-1, rfl, by have h1 := HN.out; rw [List.take_of_length_le (by rw [HLN.out]; exact Nat.le_refl _)] at h1; rw [h1]; rfl⟩, rfl⟩
  have HH := mkHid HI
  clear HI
  go_wp2_with fail
  refine HH.out.mono ?_
  rintro e w1 ⟨⟨i, rfl, hi⟩, hww⟩
  subst hww
  have HII := mkHid hi
  clear hi
  go_wp2_with fail
  go_ret
  exact ⟨ret_bool HII.out, rfl⟩
theorem eg_isAny : ∀ args w, (callFunc 26 args).run Tryd.prog w = .ok (.enter 26 args) w := enters_of Tryd.func26 (by kernel_rfl) rfl

theorem pred_isAny (k : Nat) (l : List Lk) (B : Nat) (c : Option Int) (T : TypeId) (x : Value) (w : World) (hk : Var1 w k 28 (.iface T x)) (h : Ch w B l c (.iface T x)) : PredC 26 #[] #[.pointer (some ⟨k, 0, none⟩)] (fun y => c == some y) w := fun y => by
  show Calls Tryd.prog 26 #[.int .i64 y, .pointer (some ⟨k, 0, none⟩)] w _
  have hcell := hk.cell
  have HC := mkHid h
  clear hk h
  go_enter Tryd.func26, Tryd.ntmps26
  go_wp2_with (go_at_call 11; refine (Is_any l B c T x y _ HC.out).mono ?_; rintro e w1 ⟨rfl, hww⟩; subst hww)
  go_ret
  exact ⟨rfl, rfl⟩
theorem eql_nil_code (b : Int) (w : World) : (binOp .eql 28 .nilIface (codeV b)).run Tryd.prog w = .ok (.bool false) w := by kernel_rfl
set_option maxRecDepth 20000 in
set_option maxHeartbeats 4000000 in
theorem pred_isAny_nil (k : Nat) (w : World) (hk : Var1 w k 28 .nilIface) : PredC 26 #[] #[.pointer (some ⟨k, 0, none⟩)] (fun _ => false) w := fun y => by
  show Calls Tryd.prog 26 #[.int .i64 y, .pointer (some ⟨k, 0, none⟩)] w _
  have hcell := hk.cell
  have HI : Hid (Calls Tryd.prog 11 #[.nilIface, codeV y] w fun ev w' => ev = .returned (.bool false) ∧ w = w') := by
    clear hk hcell
    have hq := eql_nil_code
    refine mkHid ?_
    go_enter Tryd.func11, Tryd.ntmps11
    go_wp2_with fail
    go_ret
    exact ⟨rfl, rfl⟩
  clear hk
  go_enter Tryd.func26, Tryd.ntmps26
  go_wp2_with (go_at_call 11; refine HI.out.mono ?_; rintro e w1 ⟨rfl, hww⟩; subst hww)
  go_ret
  exact ⟨rfl, rfl⟩
set_option maxHeartbeats 4000000 in
theorem isAny_any (l : List Lk) (B : Nat) (c : Option Int) (T : TypeId) (x : Value) (a : Option Addr) (n cc : Nat) (xs : List Int) (w : World) (h : Ch w B l c (.iface T x)) (hB : B ≤ w.heap.size) (hs : IS w w.heap.size a n xs) (hn : n ≤ 1000) :
    Calls Tryd.prog 12 #[.iface T x, .slice a n cc] w fun e w' => e = .returned (.bool (xs.any fun y => c == some y)) ∧ Below w.heap.size w w' := by
  have HB := mkHid (show Below w.heap.size w (w.alloc (.cells #[.iface T x] 28)) from below_alF _)
  have HP := mkHid (pred_isAny w.heap.size l B c T x (w.alloc (.cells #[.iface T x] 28)) (heap_alloc_new w _) (h.keep fun b hb => HB.out.block b (Nat.lt_of_lt_of_le hb hB)))
  have HS := mkHid ((hs.below HB.out).more HB.out.size)
  clear h hB hs
  go_enter Tryd.func12, Tryd.ntmps12
  go_wp2_with fail
  refine (hasC_any (fun y => c == some y) _ _ _ eg_isAny a n cc xs _ HP.out HS.out hn).mono ?_
  rintro e w1 ⟨rfl, hww⟩
  subst hww
  go_wp2_with fail
  go_ret
  exact ⟨rfl, HB.out⟩
set_option maxHeartbeats 4000000 in
theorem isAny_nil (a : Option Addr) (n cc : Nat) (xs : List Int) (w : World) (hs : IS w w.heap.size a n xs) (hn : n ≤ 1000) :
    Calls Tryd.prog 12 #[.nilIface, .slice a n cc] w fun e w' => e = .returned (.bool false) ∧ Below w.heap.size w w' := by
  have HB := mkHid (show Below w.heap.size w (w.alloc (.cells #[.nilIface] 28)) from below_alF _)
  have HP := mkHid (pred_isAny_nil w.heap.size (w.alloc (.cells #[.nilIface] 28)) (heap_alloc_new w _))
  have HS := mkHid ((hs.below HB.out).more HB.out.size)
  clear hs
  go_enter Tryd.func12, Tryd.ntmps12
  go_wp2_with fail
  refine (hasC_any (fun _ => false) _ _ _ eg_isAny a n cc xs _ HP.out HS.out hn).mono ?_
  rintro e w1 ⟨rfl, hww⟩
  subst hww
  rw [show (xs.any fun _ => false) = false by simp]
  go_wp2_with fail
  go_ret
  exact ⟨rfl, HB.out⟩

set_option maxHeartbeats 4000000 in
theorem awake_any (w : World) (hE : ErrT w) : Calls Tryd.prog 9 #[] w fun e w' => e = .returned (.bool true) ∧ Below w.heap.size w w' := by
  have HB := mkHid (show Below w.heap.size w (w.alloc (faultO ⟨⟨#[114, 101, 97, 100]⟩, 1, 7⟩ (codeV 21))) from below_alF _)
  have HE := mkHid (hE.below HB.out)
  have HC := mkHid (show Ch (w.alloc (faultO ⟨⟨#[114, 101, 97, 100]⟩, 1, 7⟩ (codeV 21))) (w.heap.size + 1) [⟨⟨#[114, 101, 97, 100]⟩, 1, 7⟩] (some 21) (faultV w.heap.size) from ⟨w.heap.size, _, rfl, Nat.lt_succ_self _, heap_alloc_new w _, rfl⟩)
  have HS := mkHid (show w.heap.size + 1 ≤ (w.alloc (faultO ⟨⟨#[114, 101, 97, 100]⟩, 1, 7⟩ (codeV 21))).heap.size by simp)
  clear hE
  go_enter Tryd.func9, Tryd.ntmps9
  go_wp2_with (first
    | (go_at_call 19; refine (wrap_any _ _ _ _ _ _).mono ?_; rintro e w1 ⟨rfl, rfl⟩)
    | (go_at_call 11; refine (Is_any _ _ (some 21) _ _ 21 _ HC.out).mono ?_; rintro e w1 ⟨rfl, hww⟩; subst hww)
    | (go_at_call 15; refine (depth_any _ _ _ _ _ HE.out HC.out HS.out (by simp)).mono ?_; rintro e w1 ⟨rfl, hb⟩; have HB1 := mkHid hb; clear hb))
  go_ret
  exact ⟨rfl, HB.out.trans (HB1.out.mono HB.out.size)⟩
end Go.Proofs.YtolcajcihgfeeaaDoor
