/- errors.as, a code asked, by contract: down the chain to its end. -/
import Derived.Test.YtolcajcihgfeeaaDoorFtC
namespace Go.Proofs.YtolcajcihgfeeaaDoor
open Go.RowKit Go.Extern.Stop Go.Stop Go.Extern
/-- What a code's variable holds behind errors.As. -/
def gotC (c : Option Int) (old : Value) : Value := match c with
  | some c => .int .i64 c
  | none => old
set_option maxHeartbeats 4000000 in
/-- errors.as, a code asked: down the chain to its end. -/
theorem asC_any (l : List Lk) (B : Nat) (c : Option Int) (v : Value) (t a : Nat) (old : Value) (w : World) (h : Ch w B l c v) (hB : B ≤ w.heap.size) (hl : v ≠ .nilIface) (ha : w.cell? ⟨a, 0, none⟩ = some (.pointer (some ⟨t, 0, none⟩))) (ht : Var1 w t 31 old) :
    Calls Tryd.prog 35 #[v, .iface 66 (.pointer (some ⟨t, 0, none⟩)), .agg #[.pointer (some ⟨4, 66, none⟩), .pointer (some ⟨a, 0, none⟩), .int .u64 150], .iface 73 (.agg #[.pointer (some ⟨4, 31, none⟩)])] w fun ev w' => ev = .returned (.bool c.isSome) ∧ Var1 w' t 31 (gotC c old) ∧ But t w w' := by
  have hTypeOf := @run_callFunc_extern Tryd.prog 23 _ ReflectliteType.typeOf Tryd.func23 (by kernel_rfl) (by kernel_rfl) (by kernel_rfl) (by kernel_rfl)
  have hAssignableTo := @run_callFunc_extern Tryd.prog 70 _ (ReflectliteType.relation "AssignableTo" ReflectliteType.assignableTo) Tryd.func70 (by kernel_rfl) (by kernel_rfl) (by kernel_rfl) (by kernel_rfl)
  have hElemV := @run_callFunc_extern Tryd.prog 37 _ (ReflectliteValue.method (ReflectliteValue.valueError "reflectlite.Value.Elem" 0) ReflectliteValue.elem) Tryd.func37 (by kernel_rfl) (by kernel_rfl) (by kernel_rfl) (by kernel_rfl)
  have hValueOf := @run_callFunc_extern Tryd.prog 32 _ (fun args => ReflectliteValue.unpack (args.getD 0 (.tuple #[]))) Tryd.func32 (by kernel_rfl) (by kernel_rfl) (by kernel_rfl) (by kernel_rfl)
  have hSet := @run_callFunc_extern Tryd.prog 38 _ ReflectliteValue.set Tryd.func38 (by kernel_rfl) (by kernel_rfl) (by kernel_rfl) (by kernel_rfl)
  have tO := fC_typeOf
  have tF := fF_typeOf
  have mA := fmethodAssignableTo
  have aE := fassignCC
  have aF := fassignFC
  have n1 := fF_noAs
  have n2 := fF_hasUnwrap
  have mU := fmethodUnwrap
  have nU := fnilUnwrap
  have vE := fC_valueOfE
  have hal : Below w.heap.size w (w.alloc (.cells #[.pointer (some ⟨4, 66, none⟩), .pointer (some ⟨a, 0, none⟩), .int .u64 150] 85)) := below_alF _
  have alt : a < w.heap.size := block_lt_of_cell ha
  have el := fC_elemV ⟨a, 0, none⟩ ⟨t, 0, none⟩ (w.alloc (.cells #[.pointer (some ⟨4, 66, none⟩), .pointer (some ⟨a, 0, none⟩), .int .u64 150] 85)) ((hal.cell (p := ⟨a, 0, none⟩) alt).trans ha)
  have HT0 := mkHid (ht.keep hal)
  have HT2 := mkHid (show ∀ e : Int, Var1 ((w.alloc (.cells #[.pointer (some ⟨4, 66, none⟩), .pointer (some ⟨a, 0, none⟩), .int .u64 150] 85)).alloc (.cells #[.int .i64 e] 31)) t 31 old from fun e => (ht.keep hal).keep (below_alF _))
  have HST := mkHid (fun e : Int => fC_set ⟨t, 0, none⟩ ⟨w.heap.size + 1, 0, none⟩ e old ((w.alloc (.cells #[.pointer (some ⟨4, 66, none⟩), .pointer (some ⟨a, 0, none⟩), .int .u64 150] 85)).alloc (.cells #[.int .i64 e] 31)) (by rw [World.cell?_alloc_at _ _ _ _ (by simp)]; rfl) (HT2.out e).cell (HT2.out e).free)
  have HC := mkHid ((h.keep fun b hb => hal.block b (by omega) : Ch (w.alloc (.cells #[.pointer (some ⟨4, 66, none⟩), .pointer (some ⟨a, 0, none⟩), .int .u64 150] 85)) B l c v))
  clear ha ht hal alt h
  have HNL := mkHid hl
  clear hl
  go_enter Tryd.func35, Tryd.ntmps35
  go_wp2_with fail
  go_loop [0] (fun u => ∃ (l' : List Lk) (B' : Nat), Hid (Ch (w.alloc (.cells #[.pointer (some ⟨4, 66, none⟩), .pointer (some ⟨a, 0, none⟩), .int .u64 150] 85)) B' l' c u) ∧ Hid (u ≠ .nilIface)) (fun u => deep u)
  case atStart => exact ⟨l, B, HC, HNL⟩
  case round =>
    obtain ⟨l', B', HR, HN⟩ := hrel
    clear HC HNL
    clear hB
    rcases l' with _ | ⟨x, l'⟩
    · have hu := HR.out
      cases c with
      | none => exact absurd hu HN.out
      | some c =>
        change _ = codeV c at hu
        subst hu
        have st := HST.out c
        go_wp2_with fail
        go_ret
        exact ⟨rfl, (HT2.out c).set _, (But.of_below ((Below.refl _ _).alloc (Nat.le_refl _) _)).trans ((But.of_below (below_alF _)).trans (But.set _ _ _ _))⟩
    · obtain ⟨g, u, rfl, hg, hx, HU⟩ := HR.out
      have HU := mkHid HU
      have HX := mkHid hx
      have hlt := HU.out.deep_lt
      clear hx hg HR HST el
      by_cases hu : u = .nilIface
      · subst hu
        obtain ⟨rfl, rfl⟩ : l' = [] ∧ c = none := by
          cases l' with
          | nil => cases c with
            | none => exact ⟨rfl, rfl⟩
            | some c => cases HU.out
          | cons y l' => obtain ⟨_, _, h1, _⟩ := HU.out; cases h1
        go_wp2_with (go_at_call 20; refine (unwrap_any g x _ _ HX.out).mono ?_; rintro e w' ⟨rfl, hww⟩; subst hww)
        go_ret
        exact ⟨rfl, HT0.out, But.of_below (below_alF _)⟩
      · obtain ⟨T, y, rfl⟩ : ∃ T y, u = .iface T y := by
          cases l' with
          | nil => cases c with
            | none => exact absurd HU.out hu
            | some c => exact ⟨_, _, HU.out⟩
          | cons z l' => obtain ⟨_, _, h1, _⟩ := HU.out; exact ⟨_, _, h1⟩
        have HN2 := mkHid hu
        clear hu
        go_wp2_with (go_at_call 20; refine (unwrap_any g x _ _ HX.out).mono ?_; rintro e w' ⟨rfl, hww⟩; subst hww)
        exact ⟨⟨l', g, HU, HN2⟩, hlt⟩

end Go.Proofs.YtolcajcihgfeeaaDoor
