/- Reads, Waiting, Pending of the two disks by contract, whatever is asked. -/
import Derived.Test.YtpoeneabhoajaaaDoorDpA4
import Derived.Test.YtpoeneabhoajaaaDoorDpE4
namespace Go.Proofs.YtpoeneabhoajaaaDoor
open Go.RowKit


theorem rread_all (F : Nat → Prop) (g : Nat) (ss : List Sec) (i : Int) (w : World) (h : RD w F g ss) (hi : I64 i) :
    Calls Tryd.prog 56 #[.pointer (some ⟨g, 0, none⟩), .int .i64 i] w fun e w' => ∃ A k c, k = (rdL ss i).length ∧ e = .returned (.tuple #[.slice A k c, .int .i64 (rdN ss i)]) ∧ BS w' w'.heap.size A k (rdL ss i) ∧ Below w.heap.size w w' := by
  cases hh : hasOf ss.length i with
  | false =>
    obtain ⟨e1, e2, _, _⟩ := rd_no hh
    rw [e1, e2]
    refine (rread_no F g ss i w h hi hh).mono ?_
    rintro e w' ⟨rfl, rfl⟩
    exact ⟨none, 0, 0, rfl, rfl, BS.nil, Below.refl _ _⟩
  | true =>
    obtain ⟨k, rfl, hk⟩ := hasOf_nat hh
    have hs := List.getElem?_eq_getElem (l := ss) (i := k) hk
    cases hb : ss[k].bad with
    | true =>
      obtain ⟨e1, e2, _⟩ := rd_bad hs hb
      rw [e1, e2]
      refine (rread_bad F g ss k _ w h hs hb).mono ?_
      rintro e w' ⟨rfl, rfl⟩
      exact ⟨none, 0, 0, rfl, rfl, BS.nil, Below.refl _ _⟩
    | false =>
      obtain ⟨e1, e2, _⟩ := rd_ok hs hb
      rw [e1, e2]
      refine (rread_ok F g ss k _ w h hs hb).mono ?_
      rintro e w' ⟨A, c, rfl, _, hbs, hbl⟩
      exact ⟨A, 128, c, hbs.len.symm, rfl, hbs, hbl⟩

end Go.Proofs.YtpoeneabhoajaaaDoor
