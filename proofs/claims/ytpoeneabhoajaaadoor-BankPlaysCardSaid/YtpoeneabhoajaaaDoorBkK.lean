/- The law's 'told': an error says what it should. -/
import Derived.Test.YtpoeneabhoajaaaDoorBkH
import Derived.Test.YtpoeneabhoajaaaDoorFtF5
import Derived.Test.YtpoeneabhoajaaaDoorFtH4
import Derived.Test.YtpoeneabhoajaaaDoorFtI4
namespace Go.Proofs.YtpoeneabhoajaaaDoor
open Go.RowKit

set_option maxRecDepth 20000 in
theorem told_any {B : Nat} (v : Value) (op : ByteArray) (d p c : Int) (w : World) (hE : ErrT w) (h : EV B w v op d p c) :
    Calls Tryd.prog 8 #[v, .int .i64 c, .string op, .int .i64 d, .int .i64 p] w fun e w' => e = .returned (.bool true) ∧ Below w.heap.size w w' := by
  by_cases hc : c = 0
  · have hv := h.1 hc
    subst hc
    subst hv
    clear h
    go_enter Tryd.func8, Tryd.ntmps8
    go_wp2_with fail
    go_ret
    exact ⟨rfl, Below.refl _ _⟩
  · have hch := h.ch hc
    have HCH := mkHid hch
    obtain ⟨g, u, rfl, hg, hx, _⟩ := hch
    have HWH := mkHid (where_some g ⟨op, d, p⟩ u w hE hx)
    have HE := mkHid hE
    have hcb : (c == 0) = false := by simpa using hc
    clear h hx hE hc
    go_enter Tryd.func8, Tryd.ntmps8
    go_wp2_with fail
    refine HWH.out.mono ?_
    rintro e w1 ⟨rfl, hb1⟩
    have HB1 := mkHid hb1
    have HE1 := mkHid (HE.out.below hb1)
    have HCH1 := mkHid (HCH.out.below hb1)
    clear hb1
    go_wp2_with fail
    refine (path_any _ _ _ _ w1 HE1.out HCH1.out HB1.out.size (by simp)).mono ?_
    rintro e w2 ⟨A, C, rfl, ho, hb2⟩
    have HB2 := mkHid hb2
    have HCH2 := mkHid (HCH1.out.below (hb2.mono HB1.out.size))
    obtain ⟨b, o, rfl, hbl, hcell⟩ := (SL.of_own ho).2 0 (by simp)
    simp only [List.map_cons, List.map_nil, List.getElem?_cons_zero, Nat.add_zero] at hcell
    have HOW := mkHid ho
    clear hb2 ho
    go_wp2_with fail
    refine (Is_any _ _ _ _ _ c w2 HCH2.out).mono ?_
    rintro e w3 ⟨rfl, rfl⟩
    go_wp2_with fail
    go_ret
    exact ⟨by simp, HB1.out.trans (HB2.out.mono HB1.out.size)⟩

end Go.Proofs.YtpoeneabhoajaaaDoor
