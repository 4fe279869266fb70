/- errors.Is of a chain of faults and a code by contract. -/
import Derived.Test.YtpoeneabhoajaaaFtA4
import Derived.LaidEql
namespace Go.Proofs.Ytpoeneabhoajaaa
open Go.RowKit Go.Extern.Stop Go.Stop Go.Extern

set_option maxHeartbeats 400000 in
theorem unwrap_any (g : Nat) (x : Lk) (u : Value) (w : World) (h : w.heap[g]? = some (faultO x u)) :
    Calls Try.prog 61 #[.pointer (some ⟨g, 0, none⟩)] w fun e w' => e = .returned u ∧ w = w' := by
  have h3 := cell_of_row w g 3 _ _ _ h
  have h3' : w.cell? ⟨g, 3, none⟩ = some u := h3
  clear h3 h
  go_enter Try.func61, Try.ntmps61
  go_wp2
  go_ret
  exact ⟨rfl, rfl⟩
theorem fmethodUnwrap (g : Nat) (w : World) : (Go.method 125 68 (.pointer (some ⟨g, 0, none⟩)) "Unwrap").run Try.prog w = .ok (61, .pointer (some ⟨g, 0, none⟩)) w := by kernel_rfl
theorem fnilUnwrap (g : Nat) (w : World) : (nilAhead 125 68 (.pointer (some ⟨g, 0, none⟩)) "Unwrap").run Try.prog w = .ok (some false) w := by kernel_rfl
theorem fF_noIs (v : Value) (xT : TypeId) (w : World) : (Instr.typeAssert (.iface 68 v) xT 83 true).run Try.prog w = .ok (.tuple #[.nilIface, .bool false]) w := run_typeAssert_lacksB Try.underlying83 (by kernel_rfl) (by kernel_rfl) v xT w
theorem fF_noUnwraps (v : Value) (xT : TypeId) (w : World) : (Instr.typeAssert (.iface 68 v) xT 87 true).run Try.prog w = .ok (.tuple #[.nilIface, .bool false]) w := run_typeAssert_lacksB Try.underlying87 (by kernel_rfl) (by kernel_rfl) v xT w
theorem fC_noIs (v : Value) (xT : TypeId) (w : World) : (Instr.typeAssert (.iface 43 v) xT 83 true).run Try.prog w = .ok (.tuple #[.nilIface, .bool false]) w := run_typeAssert_lacksB Try.underlying83 (by kernel_rfl) (by kernel_rfl) v xT w
theorem fC_noUnwraps (v : Value) (xT : TypeId) (w : World) : (Instr.typeAssert (.iface 43 v) xT 87 true).run Try.prog w = .ok (.tuple #[.nilIface, .bool false]) w := run_typeAssert_lacksB Try.underlying87 (by kernel_rfl) (by kernel_rfl) v xT w
theorem fC_noUnwrap (v : Value) (xT : TypeId) (w : World) : (Instr.typeAssert (.iface 43 v) xT 86 true).run Try.prog w = .ok (.tuple #[.nilIface, .bool false]) w := run_typeAssert_lacksB Try.underlying86 (by kernel_rfl) (by kernel_rfl) v xT w
theorem fF_hasUnwrap (v : Value) (xT : TypeId) (w : World) : (Instr.typeAssert (.iface 68 v) xT 86 true).run Try.prog w = .ok (.tuple #[.iface 68 v, .bool true]) w := run_typeAssert_hasB Try.underlying86 (by kernel_rfl) v xT w
theorem gtypeOf (v : Value) (w : World) : (Extern.ReflectliteType.typeOf #[.iface 43 v]).run Try.prog w = .ok (.iface 81 (.agg #[.pointer (some ⟨0, 43, none⟩)])) w := by kernel_rfl
theorem gcomparable (w : World) : ((Extern.ReflectliteType.method fun t => do Go.Extern.Rtype.noPackHeld "Comparable" t; (fun a => Value.bool a.comparable) <$> typeInfo t) #[.agg #[.pointer (some ⟨0, 43, none⟩)]]).run Try.prog w = .ok (.bool true) w := by kernel_rfl
theorem gmethodComparable (v : Value) (w : World) : (Go.method 125 81 v "Comparable").run Try.prog w = .ok (65, v) w := by kernel_rfl
theorem gcomp : (Try.prog.info? 43).map (·.comparable) = some true := by kernel_rfl
theorem equalIn_iface_int {P : Program} (w : World) (d : Nat) {ti tn : TypeId} {ms : Array (String × TypeId)} {i : TypeInfo} {k : IntKind} (a b : Int)
    (hi : P.underlying ti = some (.interface ms)) (hn : P.underlying tn = some (.int k)) (hinfo : P.info? tn = some i) (hcomp : i.comparable = true) :
    (Op.equalIn (d + 2) ti (.iface tn (.int k a)) (.iface tn (.int k b))).run P w = .ok (a == b) w := by
  simp [Op.equalIn, run_underlying hi, run_underlying hn, typeInfo, hinfo, hcomp]
/-- '==' of two codes is '==' of their numbers. -/
theorem eql_codes (a b : Int) (w : World) : (binOp .eql 27 (codeV a) (codeV b)).run Try.prog w = .ok (.bool (a == b)) w := by
  obtain ⟨i, hi, hcmp⟩ := Option.map_eq_some_iff.1 gcomp
  simp only [binOp]
  simp [Op.equal, Op.maxDepth, equalIn_iface_int w 9998 a b Try.underlying27 Try.underlying43 hi hcmp]
theorem eql_fault_code (g : Nat) (b : Int) (w : World) : (binOp .eql 27 (faultV g) (codeV b)).run Try.prog w = .ok (.bool false) w := by kernel_rfl
set_option maxRecDepth 20000 in
set_option maxHeartbeats 4000000 in
/-- errors.is, a code asked: down the chain to its end. -/
theorem is_any (l : List Lk) (B : Nat) (c : Option Int) (v : Value) (b : Int) (w : World) (h : Ch w B l c v) (hl : v ≠ .nilIface) :
    Calls Try.prog 30 #[v, codeV b, .bool true] w fun ev w' => ev = .returned (.bool (c == some b)) ∧ w = w' := by
  have n1 := fF_noIs
  have n2 := fF_hasUnwrap
  have m1 := fC_noIs
  have m2 := fC_noUnwrap
  have m3 := fC_noUnwraps
  have mU := fmethodUnwrap
  have nU := fnilUnwrap
  have eF := eql_fault_code
  have HC := mkHid h
  have HNL := mkHid hl
  clear h hl
  go_enter Try.func30, Try.ntmps30
  go_wp2_with fail
  go_loop [0] (fun u => ∃ (l' : List Lk) (B' : Nat), Hid (Ch w B' l' c u) ∧ Hid (u ≠ .nilIface)) (fun u => deep u)
  case atStart => exact ⟨l, B, HC, HNL⟩
  case round =>
    obtain ⟨l', B', HR, HN⟩ := hrel
    clear HC HNL
    rcases l' with _ | ⟨x, l'⟩
    · have hu := HR.out
      cases c with
      | none => exact absurd hu HN.out
      | some c =>
        change _ = codeV c at hu
        subst hu
        clear HR eF
        have he := eql_codes c b
        by_cases hcb : c = b
        · subst hcb
          simp only [beq_self_eq_true] at he
          go_wp2_with fail
          go_ret
          exact ⟨by simp, rfl⟩
        · have hf : (c == b) = false := by simp [hcb]
          have HF := mkHid hcb
          simp only [hf] at he
          clear hcb hf
          go_wp2_with fail
          go_ret
          exact ⟨by simp [HF.out], rfl⟩
    · obtain ⟨g, u, rfl, hg, hx, HU⟩ := HR.out
      have HU := mkHid HU
      have HX := mkHid hx
      have hlt := HU.out.deep_lt
      clear hx hg HR
      by_cases hu : u = .nilIface
      · subst hu
        obtain ⟨rfl, rfl⟩ : l' = [] ∧ c = none := by
          cases l' with
          | nil => cases c with
            | none => exact ⟨rfl, rfl⟩
            | some c => cases HU.out
          | cons y l' => obtain ⟨_, _, h1, _⟩ := HU.out; cases h1
        go_wp2_with (go_at_call 61; refine (unwrap_any g x _ _ HX.out).mono ?_; rintro e w' ⟨rfl, hww⟩; subst hww)
        go_ret
        exact ⟨rfl, rfl⟩
      · obtain ⟨T, y, rfl⟩ : ∃ T y, u = .iface T y := by
          cases l' with
          | nil => cases c with
            | none => exact absurd HU.out hu
            | some c => exact ⟨_, _, HU.out⟩
          | cons z l' => obtain ⟨_, _, h1, _⟩ := HU.out; exact ⟨_, _, h1⟩
        have HN2 := mkHid hu
        clear hu
        go_wp2_with (go_at_call 61; refine (unwrap_any g x _ _ HX.out).mono ?_; rintro e w' ⟨rfl, hww⟩; subst hww)
        exact ⟨⟨l', g, HU, HN2⟩, hlt⟩
set_option maxRecDepth 20000 in
set_option maxHeartbeats 4000000 in
theorem Is_any (l : List Lk) (B : Nat) (c : Option Int) (T : TypeId) (x : Value) (b : Int) (w : World) (h : Ch w B l c (.iface T x)) :
    Calls Try.prog 15 #[.iface T x, codeV b] w fun ev w' => ev = .returned (.bool (c == some b)) ∧ w = w' := by
  have h8 := @run_callFunc_extern Try.prog 29 _ Extern.ReflectliteType.typeOf Try.func29 (by kernel_rfl) (by kernel_rfl) (by kernel_rfl) (by kernel_rfl)
  have h32 := @run_callFunc_extern Try.prog 65 _ (Extern.ReflectliteType.method fun t => do Go.Extern.Rtype.noPackHeld "Comparable" t; pure (.bool (← typeInfo t).comparable)) Try.func65 (by kernel_rfl) (by kernel_rfl) (by kernel_rfl) (by kernel_rfl)
  have tT := gtypeOf
  have cT := gcomparable
  have mR := gmethodComparable
  have HC := mkHid h
  clear h
  go_enter Try.func15, Try.ntmps15
  go_wp2_with (go_at_call 30; refine (is_any l B c _ b _ HC.out (by simp)).mono ?_; rintro e w' ⟨rfl, hww⟩; subst hww)
  go_ret
  exact ⟨rfl, rfl⟩

end Go.Proofs.Ytpoeneabhoajaaa
