/- errors.Is of a chain and a code, errors.Unwrap, by contract. -/
import Derived.Test.YtpoeneabhoajaaaDoorFtE4
namespace Go.Proofs.YtpoeneabhoajaaaDoor
open Go.RowKit Go.Extern.Stop Go.Stop Go.Extern

theorem gtypeOf (v : Value) (w : World) : (Extern.ReflectliteType.typeOf #[.iface 54 v]).run Tryd.prog w = .ok (.iface 126 (.agg #[.pointer (some ⟨1, 54, none⟩)])) w := by kernel_rfl
theorem gcomparable (w : World) : ((Extern.ReflectliteType.method fun t => do Go.Extern.Rtype.noPackHeld "Comparable" t; (fun a => Value.bool a.comparable) <$> typeInfo t) #[.agg #[.pointer (some ⟨1, 54, none⟩)]]).run Tryd.prog w = .ok (.bool true) w := by kernel_rfl
theorem gmethodComparable (v : Value) (w : World) : (Go.method 172 126 v "Comparable").run Tryd.prog w = .ok (108, v) w := by kernel_rfl
theorem gcomp : (Tryd.prog.info? 54).map (·.comparable) = some true := by kernel_rfl
theorem equalIn_iface_int {P : Program} (w : World) (d : Nat) {ti tn : TypeId} {ms : Array (String × TypeId)} {i : TypeInfo} {k : IntKind} (a b : Int)
    (hi : P.underlying ti = some (.interface ms)) (hn : P.underlying tn = some (.int k)) (hinfo : P.info? tn = some i) (hcomp : i.comparable = true) :
    (Op.equalIn (d + 2) ti (.iface tn (.int k a)) (.iface tn (.int k b))).run P w = .ok (a == b) w := by
  simp [Op.equalIn, run_underlying hi, run_underlying hn, typeInfo, hinfo, hcomp]
/-- '==' of two codes is '==' of their numbers. -/
theorem eql_codes (a b : Int) (w : World) : (binOp .eql 27 (codeV a) (codeV b)).run Tryd.prog w = .ok (.bool (a == b)) w := by
  obtain ⟨i, hi, hcmp⟩ := Option.map_eq_some_iff.1 gcomp
  simp only [binOp]
  simp [Op.equal, Op.maxDepth, equalIn_iface_int w 9998 a b Tryd.underlying27 Tryd.underlying54 hi hcmp]
theorem eql_fault_code (g : Nat) (b : Int) (w : World) : (binOp .eql 27 (faultV g) (codeV b)).run Tryd.prog w = .ok (.bool false) w := by kernel_rfl

set_option maxRecDepth 20000 in
set_option maxHeartbeats 4000000 in
/-- errors.is, a code asked: down the chain to its end. -/
theorem is_any (l : List Lk) (B : Nat) (c : Option Int) (v : Value) (b : Int) (w : World) (h : Ch w B l c v) (hl : v ≠ .nilIface) :
    Calls Tryd.prog 49 #[v, codeV b, .bool true] w fun ev w' => ev = .returned (.bool (c == some b)) ∧ w = w' := by
  have n1 := fF_noIs
  have n2 := fF_hasUnwrap
  have m1 := fC_noIs
  have m2 := fC_noUnwrap
  have m3 := fC_noUnwraps
  have mU := fmethodUnwrap
  have nU := fnilUnwrap
  have eF := eql_fault_code
  have HC := mkHid h
  have HNL := mkHid hl
  clear h hl
  go_enter Tryd.func49, Tryd.ntmps49
  go_wp2_with fail
  go_loop [0] (fun u => ∃ (l' : List Lk) (B' : Nat), Hid (Ch w B' l' c u) ∧ Hid (u ≠ .nilIface)) (fun u => deep u)
  case atStart => exact ⟨l, B, HC, HNL⟩
  case round =>
    obtain ⟨l', B', HR, HN⟩ := hrel
    clear HC HNL
    rcases l' with _ | ⟨x, l'⟩
    · have hu := HR.out
      cases c with
      | none => exact absurd hu HN.out
      | some c =>
        change _ = codeV c at hu
        subst hu
        clear HR eF
        have he := eql_codes c b
        by_cases hcb : c = b
        · subst hcb
          simp only [beq_self_eq_true] at he
          go_wp2_with fail
          go_ret
          exact ⟨by simp, rfl⟩
        · have hf : (c == b) = false := by simp [hcb]
          have HF := mkHid hcb
          simp only [hf] at he
          clear hcb hf
          go_wp2_with fail
          go_ret
          exact ⟨by simp [HF.out], rfl⟩
    · obtain ⟨g, u, rfl, hg, hx, HU⟩ := HR.out
      have HU := mkHid HU
      have HX := mkHid hx
      have hlt := HU.out.deep_lt
      clear hx hg HR
      by_cases hu : u = .nilIface
      · subst hu
        obtain ⟨rfl, rfl⟩ : l' = [] ∧ c = none := by
          cases l' with
          | nil => cases c with
            | none => exact ⟨rfl, rfl⟩
            | some c => cases HU.out
          | cons y l' => obtain ⟨_, _, h1, _⟩ := HU.out; cases h1
        go_wp2_with (go_at_call 102; refine (unwrap_any g x _ _ HX.out).mono ?_; rintro e w' ⟨rfl, hww⟩; subst hww)
        go_ret
        exact ⟨rfl, rfl⟩
      · obtain ⟨T, y, rfl⟩ : ∃ T y, u = .iface T y := by
          cases l' with
          | nil => cases c with
            | none => exact absurd HU.out hu
            | some c => exact ⟨_, _, HU.out⟩
          | cons z l' => obtain ⟨_, _, h1, _⟩ := HU.out; exact ⟨_, _, h1⟩
        have HN2 := mkHid hu
        clear hu
        go_wp2_with (go_at_call 102; refine (unwrap_any g x _ _ HX.out).mono ?_; rintro e w' ⟨rfl, hww⟩; subst hww)
        exact ⟨⟨l', g, HU, HN2⟩, hlt⟩

set_option maxRecDepth 20000 in
set_option maxHeartbeats 4000000 in
theorem Is_any (l : List Lk) (B : Nat) (c : Option Int) (T : TypeId) (x : Value) (b : Int) (w : World) (h : Ch w B l c (.iface T x)) :
    Calls Tryd.prog 19 #[.iface T x, codeV b] w fun ev w' => ev = .returned (.bool (c == some b)) ∧ w = w' := by
  have h8 := @run_callFunc_extern Tryd.prog 48 _ Extern.ReflectliteType.typeOf Tryd.func48 (by kernel_rfl) (by kernel_rfl) (by kernel_rfl) (by kernel_rfl)
  have h32 := @run_callFunc_extern Tryd.prog 108 _ (Extern.ReflectliteType.method fun t => do Go.Extern.Rtype.noPackHeld "Comparable" t; pure (.bool (← typeInfo t).comparable)) Tryd.func108 (by kernel_rfl) (by kernel_rfl) (by kernel_rfl) (by kernel_rfl)
  have tT := gtypeOf
  have cT := gcomparable
  have mR := gmethodComparable
  have HC := mkHid h
  clear h
  go_enter Tryd.func19, Tryd.ntmps19
  go_wp2_with (go_at_call 49; refine (is_any l B c _ b _ HC.out (by simp)).mono ?_; rintro e w' ⟨rfl, hww⟩; subst hww)
  go_ret
  exact ⟨rfl, rfl⟩

end Go.Proofs.YtpoeneabhoajaaaDoor
