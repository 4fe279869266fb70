/- Reads, Waiting, Pending of the two disks by contract, whatever is asked. -/
import Derived.Test.YtpoeneabhoajaaaDoorBkF
import Derived.Test.YtpoeneabhoajaaaDoorSameB
namespace Go.Proofs.YtpoeneabhoajaaaDoor
open Go.RowKit

/-- What a Read tells. -/
def rdL (ss : List Sec) (i : Int) : List Int := if hasOf ss.length i = true then (match ss[i.toNat]? with | some s => if s.bad = true then [] else s.last | none => []) else []
def rdN (ss : List Sec) (i : Int) : Int := if hasOf ss.length i = true then (match ss[i.toNat]? with | some s => if s.bad = true then 21 else 0 | none => 0) else 20
def rdE (ss : List Sec) (i : Int) : Value := if rdN ss i = 0 then .nilIface else codeV (rdN ss i)
def wtN (ss : List Sec) (i : Int) : Nat := if hasOf ss.length i = true then (match ss[i.toNat]? with | some s => s.wait.length | none => 0) else 0
theorem rd_no {ss : List Sec} {i : Int} (h : hasOf ss.length i = false) : rdL ss i = [] ∧ rdN ss i = 20 ∧ rdE ss i = codeV 20 ∧ wtN ss i = 0 := by
  have h1 : rdN ss i = 20 := by unfold rdN; rw [if_neg (by rw [h]; simp)]
  refine ⟨by unfold rdL; rw [if_neg (by rw [h]; simp)], h1, by unfold rdE; rw [h1]; rfl, by unfold wtN; rw [if_neg (by rw [h]; simp)]⟩
theorem rd_bad {ss : List Sec} {i : Nat} {s : Sec} (hs : ss[i]? = some s) (hb : s.bad = true) : rdL ss i = [] ∧ rdN ss i = 21 ∧ rdE ss i = codeV 21 := by
  have hl := (List.getElem?_eq_some_iff.1 hs).1
  have h : hasOf ss.length (i : Int) = true := decide_eq_true ⟨by omega, by omega⟩
  have h1 : rdN ss i = 21 := by unfold rdN; rw [if_pos h, Int.toNat_natCast, hs]; simp only; rw [if_pos hb]
  exact ⟨by unfold rdL; rw [if_pos h, Int.toNat_natCast, hs]; simp only; rw [if_pos hb], h1, by unfold rdE; rw [h1]; rfl⟩
theorem rd_ok {ss : List Sec} {i : Nat} {s : Sec} (hs : ss[i]? = some s) (hb : s.bad = false) : rdL ss i = s.last ∧ rdN ss i = 0 ∧ rdE ss i = .nilIface := by
  have hl := (List.getElem?_eq_some_iff.1 hs).1
  have h : hasOf ss.length (i : Int) = true := decide_eq_true ⟨by omega, by omega⟩
  have h1 : rdN ss i = 0 := by unfold rdN; rw [if_pos h, Int.toNat_natCast, hs]; simp only; rw [if_neg (by rw [hb]; simp)]
  exact ⟨by unfold rdL; rw [if_pos h, Int.toNat_natCast, hs]; simp only; rw [if_neg (by rw [hb]; simp)], h1, by unfold rdE; rw [h1]; rfl⟩
theorem wt_ok {ss : List Sec} {i : Nat} {s : Sec} (hs : ss[i]? = some s) : wtN ss i = s.wait.length := by
  have hl := (List.getElem?_eq_some_iff.1 hs).1
  have h : hasOf ss.length (i : Int) = true := decide_eq_true ⟨by omega, by omega⟩
  unfold wtN; rw [if_pos h, Int.toNat_natCast, hs]

theorem read_all (F : Nat → Prop) (g : Nat) (ss : List Sec) (i : Int) (w : World) (h : DK w F g ss) (hi : I64 i) :
    Calls Tryd.prog 55 #[.pointer (some ⟨g, 0, none⟩), .int .i64 i] w fun e w' => ∃ A k c, k = (rdL ss i).length ∧ k ≤ 128 ∧ e = .returned (.tuple #[.slice A k c, rdE ss i]) ∧ w'.ownsRow w.heap.size 5 1 (.slice A k c) k ((rdL ss i).map u8) ∧ okBytes (rdL ss i) ∧ Below w.heap.size w w' := by
  cases hh : hasOf ss.length i with
  | false =>
    obtain ⟨e1, _, e3, _⟩ := rd_no hh
    rw [e1, e3]
    refine (read_no F g ss i w h hi hh).mono ?_
    rintro e w' ⟨rfl, rfl⟩
    exact ⟨none, 0, 0, rfl, by omega, rfl, World.ownsRow_nil _ _ _ _, (fun x hx => by cases hx), Below.refl _ _⟩
  | true =>
    obtain ⟨k, rfl, hk⟩ := hasOf_nat hh
    have hs := List.getElem?_eq_getElem (l := ss) (i := k) hk
    cases hb : ss[k].bad with
    | true =>
      obtain ⟨e1, _, e3⟩ := rd_bad hs hb
      rw [e1, e3]
      refine (read_bad F g ss k _ w h hs hb).mono ?_
      rintro e w' ⟨rfl, rfl⟩
      exact ⟨none, 0, 0, rfl, by omega, rfl, World.ownsRow_nil _ _ _ _, (fun x hx => by cases hx), Below.refl _ _⟩
    | false =>
      obtain ⟨e1, _, e3⟩ := rd_ok hs hb
      rw [e1, e3]
      refine (read_ok F g ss k _ w h hs hb).mono ?_
      rintro e w' ⟨A, c, rfl, ho, hok, hl, hbl⟩
      exact ⟨A, 128, c, hl.symm, Nat.le_refl _, rfl, ho, hok, hbl⟩

end Go.Proofs.YtpoeneabhoajaaaDoor
