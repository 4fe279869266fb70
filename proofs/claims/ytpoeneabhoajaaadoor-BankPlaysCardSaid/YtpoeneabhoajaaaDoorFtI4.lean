/- fault.Path, fault.IsAny and the law's own awake by contract. -/
import Derived.Test.YtpoeneabhoajaaaDoorFtH4
import Derived.Shelf.Abstract
namespace Go.Proofs.YtpoeneabhoajaaaDoor
open Go.RowKit Go.Extern.Stop Go.Stop Go.Extern

theorem el_str : ElemOk Tryd.prog 60 9 1 16 := ElemOk.mk' (z := .string ⟨#[]⟩) Tryd.underlying60 (by kernel_rfl) rfl (by decide)
/-- The j-th fault, out of the row that faults gives. -/
theorem ft_get {w : World} {B base n C j : Nat} {A : Option Addr} {ps : List Nat} {l : List Lk} {T : TypeId} (ho : w.ownsRow base T 1 (.slice A n C) n (ps.map fpV)) (hf : Fs w B ps l) (hn : l.length = n) (hj : j < n) :
    ∃ b o g x u, A = some ⟨b, o, none⟩ ∧ b < w.heap.size ∧ g < B ∧ l[j]? = some x ∧ w.cell? ⟨b, o + j, none⟩ = some (fpV g) ∧ w.heap[g]? = some (faultO x u) := by
  obtain ⟨g, y, u, h1, h2, h3, h4⟩ := hf.2 j (by omega)
  obtain ⟨b, o, ha, hb, hc⟩ := (SL.of_own ho).2 j (by omega)
  refine ⟨b, o, g, y, u, ha, hb, h3, h2, ?_, h4⟩
  rw [hc, List.getElem?_map, h1]
  rfl
theorem one_str (s : ByteArray) : ∀ u ∈ [Value.string s], u.oneCell' = true := fun u hu => by
  rw [List.mem_singleton.1 hu]; rfl

set_option maxHeartbeats 4000000 in
theorem path_any (l : List Lk) (B : Nat) (c : Option Int) (v : Value) (w : World) (hE : ErrT w) (h : Ch w B l c v) (hB : B ≤ w.heap.size) (hl : l.length ≤ 1000) :
    Calls Tryd.prog 18 #[v] w fun e w' => ∃ A C, e = .returned (.slice A l.length C) ∧ w'.ownsRow w.heap.size 9 1 (.slice A l.length C) l.length (l.map fun x => .string x.op) ∧ Below w.heap.size w w' := by
  have HFA := mkHid (faults_any l B c v w hE h hB hl)
  have HBW := mkHid hB
  obtain ⟨n, hn⟩ : ∃ n, l.length = n := ⟨_, rfl⟩
  rw [hn] at HFA hl ⊢
  have HN := mkHid hn
  clear hE h hn hB
  go_enter Tryd.func18, Tryd.ntmps18
  go_wp2_with (go_at_call 47; refine HFA.out.mono ?_; rintro e w1 ⟨A, C, ps, rfl, ho, hfs, hb⟩; have HB := mkHid hb; have HO := mkHid ho; have HF := mkHid hfs; clear hb ho hfs)
  clear HFA
  go_loopw [3, 9] (fun out i wr => ∃ (k : Nat) (A2 : Option Addr) (C2 : Nat), k ≤ n ∧ i = .int .i64 k ∧ out = .slice A2 k C2 ∧ Hid (wr.ownsRow w1.heap.size 9 1 (.slice A2 k C2) k ((l.take k).map fun x => .string x.op)) ∧ Hid (Below w1.heap.size w1 wr)) (fun _ i _ => n - (intOf i).toNat)
  case atStart => exact ⟨0, none, 0, Nat.zero_le _, rfl, rfl, mkHid (World.ownsRow_nil _ _ _ _), mkHid (Below.refl _ _)⟩
  case round =>
    obtain ⟨k, A2, C2, hk, rfl, rfl, HO2, HB2⟩ := hrel
    by_cases hlt : k < n
    · obtain ⟨b, o, g, x, u, rfl, hbl, hgl, hx, hcell, hg⟩ := ft_get HO.out HF.out HN.out hlt
      have hgl1 : g < w1.heap.size := (Array.getElem?_eq_some_iff.1 hg).1
      have c0 := (HB2.out.cell (p := ⟨b, o + k, none⟩) hbl).trans hcell
      have c1 : wr.cell? ⟨g, 0, none⟩ = some (.string x.op) := cell_of_row wr g 0 _ _ _ ((HB2.out.block g hgl1).trans hg)
      have HX := mkHid (show (l.take (k + 1)).map (fun x => Value.string x.op) = (l.take k).map (fun x => Value.string x.op) ++ [Value.string x.op] from by
        obtain ⟨hk1, rfl⟩ := List.getElem?_eq_some_iff.1 hx
        rw [List.take_succ_eq_append_getElem hk1, List.map_append]; rfl)
      have HS := mkHid (show w1.heap.size ≤ (wr.alloc (.cells #[.string x.op] 9)).heap.size from by have := HB2.out.size; simp; omega)
      clear hbl hgl hx hcell hg
      go_wp2_with (at_builtin; refine wpList_app _ rfl (.tmp 13) (.tmp 18) _ rfl w1.heap.size el_str A2 k C2 _ rfl (HO2.out.alloc _) (wr.heap.size + 1) (some ⟨wr.heap.size, 0, none⟩) 1 1 [.string x.op] rfl (SL.one _ _) (one_str _) (by unfold maxLen; omega) (by omega) HS.out ?_; intro A' C' w2 ho2 hg2 hat2; have HB3 := mkHid (grown_below hg2 (fun b e => (HO2.out.lt b e).1) HS.out); have HO3 := mkHid ho2; clear ho2 hg2 hat2)
      go_roundw
      case measure => simp [intOf]; omega
      case rel => exact ⟨k + 1, A', C', hlt, by go_num, rfl, mkHid (by rw [HX.out]; exact HO3.out), mkHid ((HB2.out.alloc HB2.out.size _).trans HB3.out)⟩
    · obtain rfl : k = n := by omega
      go_wp2_with fail
      go_ret
      exact ⟨A2, C2, rfl, own_weaken (by have := HO2.out; rwa [List.take_of_length_le (by rw [HN.out]; exact Nat.le_refl _)] at this) HB.out.size, HB.out.trans (HB2.out.mono HB.out.size)⟩



end Go.Proofs.YtpoeneabhoajaaaDoor
