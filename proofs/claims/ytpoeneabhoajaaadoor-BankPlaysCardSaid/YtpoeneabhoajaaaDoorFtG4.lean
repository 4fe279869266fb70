/- fault.faults by contract: the faults of a chain, the first first. -/
import Derived.Test.YtpoeneabhoajaaaDoorFtF5
namespace Go.Proofs.YtpoeneabhoajaaaDoor
open Go.RowKit Go.Extern.Stop Go.Stop Go.Extern

theorem el_fp : ElemOk Tryd.prog 95 86 1 8 := ElemOk.mk' (z := .pointer none) Tryd.underlying95 (by kernel_rfl) rfl (by decide)
/-- A pointer to a fault's block. -/
abbrev fpV (g : Nat) : Value := .pointer (some ⟨g, 0, none⟩)
/-- The blocks ps, all below B, are those of the faults ls. -/
def Fs (w : World) (B : Nat) (ps : List Nat) (ls : List Lk) : Prop :=
  ps.length = ls.length ∧ ∀ j, j < ls.length → ∃ g x u, ps[j]? = some g ∧ ls[j]? = some x ∧ g < B ∧ w.heap[g]? = some (faultO x u)
theorem Fs.nil (w : World) (B : Nat) : Fs w B [] [] := ⟨rfl, fun j hj => absurd hj (by simp)⟩
theorem Fs.keep {w w' : World} {B : Nat} {ps : List Nat} {ls : List Lk} (h : Fs w B ps ls) (hk : ∀ b, b < B → w'.heap[b]? = w.heap[b]?) : Fs w' B ps ls :=
  ⟨h.1, fun j hj => by
    obtain ⟨g, x, u, h1, h2, h3, h4⟩ := h.2 j hj
    exact ⟨g, x, u, h1, h2, h3, (hk g h3).trans h4⟩⟩
theorem Fs.snoc {w : World} {B g : Nat} {ps : List Nat} {ls : List Lk} {x : Lk} {u : Value} (h : Fs w B ps ls) (hg : g < B) (hx : w.heap[g]? = some (faultO x u)) : Fs w B (ps ++ [g]) (ls ++ [x]) := by
  refine ⟨by simp [h.1], fun j hj => ?_⟩
  by_cases e : j < ls.length
  · obtain ⟨g', x', u', h1, h2, h3⟩ := h.2 j e
    exact ⟨g', x', u', by rw [List.getElem?_append_left (by rw [h.1]; exact e)]; exact h1, by rw [List.getElem?_append_left e]; exact h2, h3⟩
  · obtain rfl : j = ls.length := by simp at hj; omega
    exact ⟨g, x, u, by rw [List.getElem?_append_right (by rw [h.1]; exact Nat.le_refl _), h.1, Nat.sub_self]; rfl, by simp, hg, hx⟩
theorem own_but {w w' : World} {base : Nat} {e : TypeId} {s n t : Nat} {v : Value} {xs : List Value} (h : w.ownsRow base e s v n xs) (hb : But t w w') (ht : t < base) : w'.ownsRow base e s v n xs := by
  refine ⟨h.1, ?_⟩
  rcases h.2 with h0 | ⟨g, cap, cur, h1, h2, h3, h4⟩
  · exact .inl h0
  · exact .inr ⟨g, cap, cur, h1, h2, (hb.block g (Array.getElem?_eq_some_iff.1 h3).1 (by omega)).trans h3, h4⟩
/-- An append to a row that lies from base on leaves all below it. -/
theorem grown_below {w w' : World} {base : Nat} {row : Option Nat} (h : w.grownBy w' row) (hr : ∀ k, row = some k → base ≤ k) (hb : base ≤ w.heap.size) : Below base w w' :=
  (Below.refl _ _).grown h hb hr

theorem ft_size {w1 : World} {t g : Nat} {T T' : TypeId} {v : Value} (h : Var1 w1 t T v) : t + 1 ≤ (w1.alloc (.cells #[fpV g] T')).heap.size := by
  have := h.lt
  simp
  omega
/-- What a round of faults leaves. -/
theorem ft_loop {wr w1 w2 : World} {t k C g : Nat} {A : Option Addr} {xs : List Value} {T T' : TypeId} {x : Lk} {u : Value}
    (ho : wr.ownsRow (t + 1) T 1 (.slice A k C) k xs) (hv : Var1 w1 t T (fpV g)) (hb : But t wr w1) (hg : (w1.alloc (.cells #[fpV g] T')).grownBy w2 (Value.slice A k C).ownBlock)
    (hx : wr.heap[g]? = some (faultO x u)) (hn : g < t) (hle : t ≤ wr.heap.size) :
    (w2.cell? ⟨t, 0, none⟩ = some (fpV g) ∧ w2.cell? ⟨g, 3, none⟩ = some u) ∧ Below t wr w2 ∧ Var1 w2 t T (fpV g) := by
  have hr : ∀ b, (Value.slice A k C).ownBlock = some b → t + 1 ≤ b := fun b hb' => (ho.lt b hb').1
  have hlt := hv.lt
  have h2 : ∀ b, b < t + 1 → w2.heap[b]? = w1.heap[b]? := fun b hb' => (hg.block b (by simp; omega) (fun e => by have := hr b e.symm; omega)).trans (Below.heap_alloc _ _ b (by omega))
  have hv2 : Var1 w2 t T (fpV g) := (h2 t (by omega)).trans hv
  have hb1 : Below t wr w1 := ⟨hb.os, hb.tape, hb.output, hb.size, fun i hi => hb.block i (by omega) (by omega)⟩
  have hb2 : Below t wr w2 := (hb1.trans ((Below.refl t w1).alloc (by omega) _)).trans (grown_below (base := t) hg (fun b e => by have := hr b e; omega) (by simp; omega))
  refine ⟨⟨hv2.cell, ?_⟩, hb2, hv2⟩
  exact cell_of_row w2 g 3 _ _ _ ((hb2.block g hn).trans hx)

set_option maxRecDepth 20000 in
set_option maxHeartbeats 4000000 in
theorem faults_any (l : List Lk) (B : Nat) (c : Option Int) (v : Value) (w : World) (hE : ErrT w) (h : Ch w B l c v) (hB : B ≤ w.heap.size) (hl : l.length ≤ 1000) :
    Calls Tryd.prog 47 #[v] w fun e w' => ∃ A C ps, e = .returned (.slice A l.length C) ∧ w'.ownsRow w.heap.size 86 1 (.slice A l.length C) l.length (ps.map fpV) ∧ Fs w' B ps l ∧ Below w.heap.size w w' := by
  have HE := mkHid hE
  have HC := mkHid h
  have HBW := mkHid hB
  clear hE h hB
  go_enter Tryd.func47, Tryd.ntmps47
  go_wp2_with fail
  go_loopw [0, 3] (fun u out wr => ∃ (k : Nat) (A : Option Addr) (C : Nat) (ps : List Nat) (B' : Nat) (fv : Value), k ≤ l.length ∧ out = .slice A k C ∧ Hid (Ch wr B' (l.drop k) c u) ∧ Hid (B' ≤ B) ∧ Hid (wr.ownsRow (w.heap.size + 1) 86 1 (.slice A k C) k (ps.map fpV)) ∧ Hid (Fs wr B ps (l.take k)) ∧ Hid (Var1 wr w.heap.size 86 fv) ∧ Hid (Below w.heap.size w wr)) (fun u _ _ => deep u)
  case atStart =>
    exact ⟨0, none, 0, [], B, .pointer none, Nat.zero_le _, rfl, mkHid (by rw [List.drop_zero]; exact HC.out.keep fun b hb => Below.heap_alloc w _ b (Nat.lt_of_lt_of_le hb HBW.out)), mkHid (Nat.le_refl _), mkHid (World.ownsRow_nil _ _ _ _), mkHid (Fs.nil _ _), mkHid (heap_alloc_new w _), mkHid (below_alF _)⟩
  case round =>
    obtain ⟨k, A, C, ps, B', fv, hk, rfl, HR, HB', HO, HF, HV, HBL⟩ := hrel
    clear HC
    have HET := mkHid (HE.out.below HBL.out)
    have HT := mkHid (show 0 < w.heap.size from HE.out.lt)
    cases hd : l.drop k with
    | nil =>
      have hkl : k = l.length := by have := congrArg List.length hd; simp at this; omega
      subst hkl
      have hu := HR.out
      rw [hd] at hu
      clear hd HR
      cases c with
      | none =>
        change _ = Value.nilIface at hu
        subst hu
        go_wp2_with (go_at_call 46; refine (As_nil _ _).mono ?_; rintro e w' ⟨rfl, hww⟩; subst hww)
        go_ret
        exact ⟨A, C, ps, rfl, own_weaken HO.out (Nat.le_succ _), by have := HF.out; rwa [List.take_of_length_le (Nat.le_refl _)] at this, HBL.out⟩
      | some c =>
        change _ = codeV c at hu
        subst hu
        go_wp2_with (go_at_call 46; refine (AsF_miss c w.heap.size fv _ HET.out HV.out).mono ?_; rintro e w1 ⟨rfl, hb1⟩; have HB1 := mkHid hb1; clear hb1)
        go_ret
        exact ⟨A, C, ps, rfl, own_weaken (own_below HO.out HB1.out) (Nat.le_succ _), by have := HF.out; rw [List.take_of_length_le (Nat.le_refl _)] at this; exact this.keep fun b hb => HB1.out.block b (Nat.lt_of_lt_of_le hb (Nat.le_trans HBW.out HBL.out.size)), HBL.out.trans (HB1.out.mono HBL.out.size)⟩
    | cons x l' =>
      have hkl : k < l.length := by have := congrArg List.length hd; simp at this; omega
      have hr := HR.out
      rw [hd] at hr
      have HD := mkHid (show l.drop (k + 1) = l' ∧ l.take (k + 1) = l.take k ++ [x] from by
        have hx : l[k]? = some x := by
          have := congrArg (fun q => q[0]?) hd
          simpa using this
        obtain ⟨hk1, hx1⟩ := List.getElem?_eq_some_iff.1 hx
        refine ⟨?_, ?_⟩
        · have := congrArg List.tail hd
          simpa [List.tail_drop] using this
        · rw [List.take_succ_eq_append_getElem hk1, hx1])
      clear hd HR
      obtain ⟨g, u, rfl, hg, hx, hu⟩ := hr
      have HG := mkHid hg
      have HX := mkHid hx
      have HU := mkHid hu
      have hlt := hu.deep_lt
      clear hg hx hu
      have HN := mkHid (show g < w.heap.size from Nat.lt_of_lt_of_le HG.out (Nat.le_trans HB'.out HBW.out))
      have HLG := mkHid HBL.out.size
      go_wp2_with (first
        | (go_at_call 46; refine (AsF_hit g w.heap.size fv _ HET.out HV.out).mono ?_; rintro e w1 ⟨rfl, hv1, hb1⟩; have HV1 := mkHid hv1; have HB1 := mkHid hb1; have hc1 := hv1.cell; have HS1 := mkHid (ft_size (g := g) (T' := 86) HV1.out); clear hb1 hv1)
        | (at_builtin; refine wpList_app _ rfl (.tmp 8) (.tmp 10) _ rfl (w.heap.size + 1) el_fp A k C _ rfl ((own_but HO.out HB1.out (Nat.lt_succ_self _)).alloc _) (w1.heap.size + 1) (some ⟨w1.heap.size, 0, none⟩) 1 1 [fpV g] rfl (SL.one _ _) (fun u hu => by obtain rfl := List.mem_singleton.1 hu; rfl) (by unfold maxLen; omega) (by omega) HS1.out ?_; intro A' C' w2 ho2 hg2 hat2; have HW2 := mkHid (ft_loop HO.out HV1.out HB1.out hg2 HX.out HN.out HLG.out); obtain ⟨e1, e2⟩ := HW2.out.1; have HO2 := mkHid ho2; clear ho2 hg2 hat2))
      exact ⟨⟨k + 1, A', C', ps ++ [g], g, _, hkl, rfl, mkHid (by rw [HD.out.1]; exact HU.out.keep fun b hb => HW2.out.2.1.block b (Nat.lt_trans hb HN.out)), mkHid (Nat.le_of_lt (Nat.lt_of_lt_of_le HG.out HB'.out)), mkHid (by rw [List.map_append]; exact HO2.out), mkHid (by rw [HD.out.2]; exact (HF.out.keep fun b hb => HW2.out.2.1.block b (Nat.lt_of_lt_of_le hb HBW.out)).snoc (Nat.lt_of_lt_of_le HG.out HB'.out) ((HW2.out.2.1.block g HN.out).trans HX.out)), mkHid HW2.out.2.2, mkHid (HBL.out.trans HW2.out.2.1)⟩, hlt⟩
end Go.Proofs.YtpoeneabhoajaaaDoor
