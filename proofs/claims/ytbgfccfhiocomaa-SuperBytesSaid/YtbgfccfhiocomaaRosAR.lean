/- Entries of a roster by contract: member, Entry.right, slices.IndexFunc, ContainsFunc and Clone at them, Roster.Check. -/
import Derived.Test.YtbgfccfhiocomaaFlat
import Derived.Test.YtbgfccfhiocomaaErrIs
import Derived.Test.YtbgfccfhiocomaaChecked
import Derived.Shelf.Abstract
import Derived.Lib.QuietBelow
namespace Go.Proofs.Ytbgfccfhiocomaa
open Go.RowKit Go.Shelf

/-- An error's value of its number: 0 is none. -/
def errV (c : Int) : Value := if c = 0 then .nilIface else codeV c
theorem errV_of {c : Int} (h : c ≠ 0) : errV c = codeV c := if_neg h

def memberB (x : Int × Int) : Bool := x.1 == 1 || x.1 == 2
def rightE (x : Int × Int) : Bool := decide ((x.1 = 1 ∨ x.1 = 2) ∧ 3 ≤ x.2 ∧ x.2 ≤ 4096 ∨ x.1 = 3 ∧ 0 ≤ x.2 ∧ x.2 ≤ 4096)
def rightL (xs : List (Int × Int)) : Bool := decide (xs.length ≤ 8) && xs.all rightE

set_option maxRecDepth 20000 in
theorem member_any (x : Int × Int) (w : World) : Calls Try.prog 58 #[enV x] w fun e w' => e = .returned (.bool (memberB x)) ∧ Below w.heap.size w w' := by
  obtain ⟨s, z⟩ := x
  unfold enV memberB
  simp only
  by_cases h1 : s = 1
  · subst h1
    go_enter Try.func58, Try.ntmps58
    go_wp2_with fail
    go_ret
    exact ⟨rfl, (Below.refl _ _).alloc (Nat.le_refl _) _⟩
  · have g1 : (s == 1) = false := by simpa using h1
    cases g2 : s == 2
    all_goals
      go_enter Try.func58, Try.ntmps58
      go_wp2_with fail
      go_ret
      exact ⟨by simp [*], (Below.refl _ _).alloc (Nat.le_refl _) _⟩

set_option maxRecDepth 20000 in
set_option maxHeartbeats 1000000 in
theorem right_any (x : Int × Int) (w : World) : Calls Try.prog 96 #[enV x] w fun e w' => e = .returned (.bool (rightE x)) ∧ Below w.heap.size w w' := by
  obtain ⟨s, z⟩ := x
  unfold enV
  simp only
  by_cases h1 : s = 1
  · subst h1
    by_cases z1 : z ≤ 2
    · skip
      have HR := mkHid (show rightE (1, z) = false from decide_eq_false (by simp only; omega))
      go_enter Try.func96, Try.ntmps96
      go_wp2_with fail
      go_ret
      exact ⟨ret_bool HR.out.symm, (Below.refl _ _).alloc (Nat.le_refl _) _⟩
    · by_cases z2 : z ≤ 4096
      · have z3 : 0 ≤ z := by omega
        have HR := mkHid (show rightE (1, z) = true from decide_eq_true (by simp; omega))
        go_enter Try.func96, Try.ntmps96
        go_wp2_with fail
        go_ret
        exact ⟨ret_bool HR.out.symm, (Below.refl _ _).alloc (Nat.le_refl _) _⟩
      · have z3 : 0 ≤ z := by omega
        have HR := mkHid (show rightE (1, z) = false from decide_eq_false (by simp only; omega))
        go_enter Try.func96, Try.ntmps96
        go_wp2_with fail
        go_ret
        exact ⟨ret_bool HR.out.symm, (Below.refl _ _).alloc (Nat.le_refl _) _⟩
  have g1 : (s == 1) = false := by simpa using h1
  by_cases h2 : s = 2
  · subst h2
    by_cases z1 : z ≤ 2
    · skip
      have HR := mkHid (show rightE (2, z) = false from decide_eq_false (by simp only; omega))
      go_enter Try.func96, Try.ntmps96
      go_wp2_with fail
      go_ret
      exact ⟨ret_bool HR.out.symm, (Below.refl _ _).alloc (Nat.le_refl _) _⟩
    · by_cases z2 : z ≤ 4096
      · have z3 : 0 ≤ z := by omega
        have HR := mkHid (show rightE (2, z) = true from decide_eq_true (by simp; omega))
        go_enter Try.func96, Try.ntmps96
        go_wp2_with fail
        go_ret
        exact ⟨ret_bool HR.out.symm, (Below.refl _ _).alloc (Nat.le_refl _) _⟩
      · have z3 : 0 ≤ z := by omega
        have HR := mkHid (show rightE (2, z) = false from decide_eq_false (by simp only; omega))
        go_enter Try.func96, Try.ntmps96
        go_wp2_with fail
        go_ret
        exact ⟨ret_bool HR.out.symm, (Below.refl _ _).alloc (Nat.le_refl _) _⟩
  have g2 : (s == 2) = false := by simpa using h2
  by_cases h3 : s = 3
  · subst h3
    by_cases z1 : 0 ≤ z
    · by_cases z2 : z ≤ 4096
      · skip
        have HR := mkHid (show rightE (3, z) = true from decide_eq_true (by simp; omega))
        go_enter Try.func96, Try.ntmps96
        go_wp2_with fail
        go_ret
        exact ⟨ret_bool HR.out.symm, (Below.refl _ _).alloc (Nat.le_refl _) _⟩
      · skip
        have HR := mkHid (show rightE (3, z) = false from decide_eq_false (by simp only; omega))
        go_enter Try.func96, Try.ntmps96
        go_wp2_with fail
        go_ret
        exact ⟨ret_bool HR.out.symm, (Below.refl _ _).alloc (Nat.le_refl _) _⟩
    · skip
      have HR := mkHid (show rightE (3, z) = false from decide_eq_false (by simp only; omega))
      go_enter Try.func96, Try.ntmps96
      go_wp2_with fail
      go_ret
      exact ⟨ret_bool HR.out.symm, (Below.refl _ _).alloc (Nat.le_refl _) _⟩
  · have g3 : (s == 3) = false := by simpa using h3
    have HR := mkHid (show rightE (s, z) = false from decide_eq_false (by simp only; omega))
    go_enter Try.func96, Try.ntmps96
    go_wp2_with fail
    go_ret
    exact ⟨ret_bool HR.out.symm, (Below.refl _ _).alloc (Nat.le_refl _) _⟩

/-- What is asked of a predicate on entries: wherever what lay in w lies unturned it answers p and leaves such a world. -/
def PredE (g : Nat) (fst caps : Array Value) (p : Int × Int → Bool) (w : World) : Prop :=
  ∀ (W : World) (x : Int × Int), EnOk x → Below w.heap.size w W → Calls Try.prog g (fst.push (enV x) ++ caps) W fun e w' => e = .returned (.bool (p x)) ∧ Below W.heap.size W w'
theorem PredE.next {g : Nat} {fst caps : Array Value} {p : Int × Int → Bool} {w w' : World} (h : PredE g fst caps p w) (hb : Below w.heap.size w w') : PredE g fst caps p w' := fun W x hx hW => h W x hx (hb.trans (hW.mono hb.size))

set_option maxRecDepth 20000 in
set_option maxHeartbeats 2000000 in
theorem indexE_any (p : Int × Int → Bool) (g : Nat) (fst caps : Array Value) (eg : ∀ args w, (callFunc g args).run Try.prog w = .ok (.enter g args) w) (a : Option Addr) (n c : Nat) (xs : List (Int × Int)) (w : World) (hp : PredE g fst caps p w) (hs : ES w w.heap.size a n xs) (hc : CapOk n c) :
    Calls Try.prog 104 #[.slice a n c, .func (.func g) fst caps] w fun e w' => e = .returned (.int .i64 (idxOf p xs)) ∧ Below w.heap.size w w' := by
  obtain ⟨hn1, hn2, hn3⟩ := hc
  go_enter Try.func104, Try.ntmps104
  go_wp2_with fail
  go_loopw [8] (fun i wr => ∃ q : Nat, q ≤ n ∧ i = .int .i64 q ∧ Hid (Below w.heap.size w wr) ∧ Hid (∀ j y, j < q → xs[j]? = some y → p y = false)) (fun i _ => n - (intOf i).toNat)
  case atStart => exact ⟨0, Nat.zero_le _, rfl, mkHid (Below.refl _ _), mkHid fun j _ hj => absurd hj (by omega)⟩
  case round =>
    obtain ⟨q, hq, rfl, HB, HN⟩ := hrel
    by_cases hlt : q < n
    · obtain ⟨b, o, x, rfl, hb, hx, hok, h0, h1⟩ := hs.at_ hlt
      have c0 := (HB.out.cell (p := ⟨b, o + q * 2, none⟩) hb).trans h0
      have c1 := (HB.out.cell (p := ⟨b, o + q * 2 + 1, none⟩) hb).trans h1
      have HX := mkHid hx
      have hcall := hp wr x hok HB.out
      have HS := mkHid hs
      clear h0 h1 hx hs hp
      unfold enV at hcall
      go_wp2_with fail
      refine hcall.mono ?_
      rintro e w1 ⟨rfl, hb1⟩
      have hb2 := HB.out.trans (hb1.mono HB.out.size)
      cases hpx : p x with
      | true =>
        go_wp2_with fail
        go_ret
        exact ⟨by rw [idxOf_hit HX.out hpx HN.out]; rfl, hb2⟩
      | false =>
        have HP := mkHid hpx
        clear hpx
        go_wp2_with fail
        go_round
        case measure => simp [intOf]; omega
        case rel =>
          refine ⟨q + 1, by omega, by go_num, mkHid hb2, mkHid fun j y hj hy => ?_⟩
          by_cases e : j < q
          · exact HN.out j y e hy
          · obtain rfl : j = q := by omega
            rw [HX.out] at hy
            injection hy with hy
            rw [← hy]; exact HP.out
    · obtain rfl : q = n := by omega
      have HL := mkHid hs.len
      clear hs hp
      go_wp2_with fail
      go_ret
      refine ⟨?_, HB.out⟩
      rw [idxOf_miss fun j y hy => HN.out j y (by have := (List.getElem?_eq_some_iff.1 hy).1; have := HL.out; omega) hy]
      rfl

set_option maxRecDepth 20000 in
theorem hasE_any (p : Int × Int → Bool) (g : Nat) (fst caps : Array Value) (eg : ∀ args w, (callFunc g args).run Try.prog w = .ok (.enter g args) w) (a : Option Addr) (n c : Nat) (xs : List (Int × Int)) (w : World) (hp : PredE g fst caps p w) (hs : ES w w.heap.size a n xs) (hc : CapOk n c) :
    Calls Try.prog 94 #[.slice a n c, .func (.func g) fst caps] w fun e w' => e = .returned (.bool (xs.any p)) ∧ Below w.heap.size w w' := by
  have HX := mkHid (indexE_any p g fst caps eg a n c xs w hp hs hc)
  clear hp hs hc
  go_enter Try.func94, Try.ntmps94
  go_wp2_with fail
  refine HX.out.mono ?_
  rintro e w1 ⟨rfl, hb1⟩
  go_wp2_with fail
  go_ret
  refine ⟨ret_bool ?_, hb1⟩
  rw [← idxOf_any]

theorem eg_check1 : ∀ args w, (callFunc 95 args).run Try.prog w = .ok (.enter 95 args) w := enters_of Try.func95 (by kernel_rfl) rfl
theorem eg_member : ∀ args w, (callFunc 58 args).run Try.prog w = .ok (.enter 58 args) w := enters_of Try.func58 (by kernel_rfl) rfl
theorem pred_check1 (w : World) : PredE 95 #[] #[] (fun x => !rightE x) w := fun W x hx hb => by
  show Calls Try.prog 95 #[enV x] W _
  have HX := mkHid (fun W' => right_any x W')
  clear hb hx
  unfold enV
  unfold enV at HX
  go_enter Try.func95, Try.ntmps95
  go_wp2_with fail
  refine (HX.out _).mono ?_
  rintro e w1 ⟨rfl, hb1⟩
  go_wp2_with fail
  go_ret
  exact ⟨rfl, ((Below.refl _ _).alloc (Nat.le_refl _) _).trans (hb1.mono (by simp))⟩
theorem pred_member (w : World) : PredE 58 #[] #[] memberB w := fun W x _ _ => member_any x W


set_option maxRecDepth 20000 in
theorem check_any (a : Option Addr) (n c : Nat) (xs : List (Int × Int)) (w : World) (hs : ES w w.heap.size a n xs) (hc : CapOk n c) :
    Calls Try.prog 70 #[.agg #[.slice a n c]] w fun e w' => e = .returned (errV (if rightL xs then 0 else 14)) ∧ Below w.heap.size w w' := by
  have hl := hs.len
  have hal : Below w.heap.size w (w.alloc (.cells #[.slice a n c] 33)) := (Below.refl _ _).alloc (Nat.le_refl _) _
  obtain ⟨hc1, hc2, hc3⟩ := id hc
  by_cases h8 : n ≤ 8
  · have HH := mkHid (hasE_any (fun x => !rightE x) _ #[] #[] eg_check1 a n c xs _ (pred_check1 _) (hs.next hal) hc)
    rw [any_all_not] at HH
    rw [show rightL xs = xs.all rightE by unfold rightL; rw [decide_eq_true (by omega), Bool.true_and]]
    clear hs hc hl hal
    cases hall : xs.all rightE
    all_goals
      rw [hall] at HH
      clear hall
      go_enter Try.func70, Try.ntmps70
      go_wp2_with fail
      refine HH.out.mono ?_
      rintro e w1 ⟨rfl, hb1⟩
      go_wp2_with fail
      go_ret
      exact ⟨rfl, ((Below.refl _ _).alloc (Nat.le_refl _) _).trans (hb1.mono (by simp))⟩
  · have HR := mkHid (show rightL xs = false by unfold rightL; rw [decide_eq_false (by omega), Bool.false_and])
    clear hs hc hl hal
    rw [HR.out]
    go_enter Try.func70, Try.ntmps70
    go_wp2_with fail
    go_ret
    exact ⟨rfl, (Below.refl _ _).alloc (Nat.le_refl _) _⟩
theorem check_ok (a : Option Addr) (n c : Nat) (xs : List (Int × Int)) (w : World) (hs : ES w w.heap.size a n xs) (hc : CapOk n c) (hr : rightL xs = true) :
    Calls Try.prog 70 #[.agg #[.slice a n c]] w fun e w' => e = .returned .nilIface ∧ Below w.heap.size w w' := by
  have := check_any a n c xs w hs hc
  rwa [if_pos hr] at this
theorem check_no (a : Option Addr) (n c : Nat) (xs : List (Int × Int)) (w : World) (hs : ES w w.heap.size a n xs) (hc : CapOk n c) (hr : rightL xs = false) :
    Calls Try.prog 70 #[.agg #[.slice a n c]] w fun e w' => e = .returned (codeV 14) ∧ Below w.heap.size w w' := by
  have := check_any a n c xs w hs hc
  rwa [if_neg (by rw [hr]; exact Bool.false_ne_true)] at this

theorem el_en : ElemOk Try.prog 31 74 2 16 := .mk' Try.underlying31 (z := .agg #[.int .i64 0, .int .i64 0]) (by kernel_rfl) rfl (by decide)

end Go.Proofs.Ytbgfccfhiocomaa
