/- portagelaw01.FaultPeels answers true. -/
import Derived.Test.YtolcajcihgfeeaaDoorFaultWraps
namespace Go.Proofs.YtolcajcihgfeeaaDoor
open Go.RowKit Go.Extern.Stop Go.Stop Go.Extern

theorem take1_any {l : List Lk} {k : Nat} {x : Lk} {l' : List Lk} (h : l.drop k = x :: l') : l.drop (k + 1) = l' ∧ l[k]? = some x := by
  refine ⟨?_, ?_⟩
  · have := congrArg List.tail h
    simpa [List.tail_drop] using this
  · have := congrArg (fun q => q[0]?) h
    simpa using this
/-- What is left of a chain, kept behind its world. -/
structure KeptL (w0 w1 : World) (l : List Lk) (code : Int) (v : Value) : Prop where
  ch : ∀ Z, Below w1.heap.size w1 Z → Ch Z w1.heap.size l (some code) v
  et : ∀ Z, Below w1.heap.size w1 Z → ErrT Z

set_option maxRecDepth 20000 in
set_option maxHeartbeats 8000000 in
theorem faultPeels_any (a : Option Addr) (n c : Nat) (ls : List Lk) (code : Int) (w : World) (hE : ErrT w) (h : LS w w.heap.size a n ls) :
    Calls Tryd.prog 4 #[.slice a n c, .int .i64 code] w fun e w' => e = .returned (.bool true) ∧ Below w.heap.size w w' := by
  have HE := mkHid hE
  have HL := mkHid h
  have HLN := mkHid h.1
  clear hE h
  by_cases hn : 200 < n
  · go_enter Tryd.func4, Tryd.ntmps4
    go_wp2_with (go_at_call 9; refine (awake_any _ HE.out).mono ?_; rintro e w1 ⟨rfl, hb⟩; have HB1 := mkHid hb; clear hb)
    go_ret
    exact ⟨rfl, HB1.out⟩
  have hn2 : n ≤ 200 := by omega
  clear hn
  go_enter Tryd.func4, Tryd.ntmps4
  go_wp2_with (go_at_call 10; refine (chain_any a n c ls code _ HL.out hn2).mono ?_; rintro e w1 ⟨v, rfl, hch, hb⟩; have HC1 := mkHid hch; have HK := mkHid (Kept.mk' hch HE.out hb); have HB1 := mkHid (Below.refl w1.heap.size w1); clear hb hch)
  go_loopw [5, 25] (fun v i wr => ∃ k : Nat, k ≤ n ∧ i = .int .i64 k ∧ Hid (Ch w1 w1.heap.size (ls.drop k) (some code) v) ∧ Hid (Below w1.heap.size w1 wr)) (fun _ i _ => n - (intOf i).toNat)
  case atStart => exact ⟨0, Nat.zero_le _, rfl, HC1, HB1⟩
  case round =>
    obtain ⟨k, hk, rfl, HC, HBR⟩ := hrel
    clear HC1
    have HW5 := mkHid (HK.out.be _ HBR.out)
    by_cases hlt : k < n
    · obtain ⟨b, o, x, rfl, hx, d0, d1, d2⟩ := HL.out.at_ HW5.out hlt
      have hd : ls.drop k = x :: ls.drop (k + 1) := by
        obtain ⟨hk1, rfl⟩ := List.getElem?_eq_some_iff.1 hx
        exact List.drop_eq_getElem_cons hk1
      have hch := HC.out
      rw [hd] at hch
      have HLD := mkHid (show (x :: ls.drop (k + 1)).length = n - k by rw [← hd, List.length_drop, HLN.out])
      have HX0 := mkHid (show (x :: ls.drop (k + 1))[0]? = some x from rfl)
      have HCA := mkHid (show ∀ Z, Below w1.heap.size w1 Z → Ch Z w1.heap.size (x :: ls.drop (k + 1)) (some code) _ from fun Z hz => hch.below hz)
      obtain ⟨g, u, rfl, hg, hgx, hu⟩ := hch
      have HU := mkHid (show Ch w1 w1.heap.size (ls.drop (k + 1)) (some code) u from hu.more (Nat.le_of_lt hg))
      have HGX := mkHid (show ∀ Z, Below w1.heap.size w1 Z → Z.heap[g]? = some (faultO x u) from fun Z hz => (hz.block g hg).trans hgx)
      clear hg hgx hu hx hd HC
      have hk0 : (0 : Int) ≤ (k : Int) := by omega
      have hk1 : (k : Int) < (n : Int) := by omega
      have hcc : (some code == some code) = true := by simp
      have HCC := mkHid hcc
      have hnk : ((n - k : Nat) : Int) = (n : Int) - (k : Int) := by omega
      have HNK := mkHid hnk
      clear hcc hnk
      have HBA := mkHid (show Below w1.heap.size w1 (wr.alloc (.cells #[.string x.op, .int .i64 x.dev, .int .i64 x.place] 36)) from HBR.out.alloc HBR.out.size _)
      have HKE := mkHid (show ∀ Z, Below (wr.alloc (.cells #[.string x.op, .int .i64 x.dev, .int .i64 x.place] 36)).heap.size (wr.alloc (.cells #[.string x.op, .int .i64 x.dev, .int .i64 x.place] 36)) Z → Z.cell? ⟨wr.heap.size, 1, none⟩ = some (.int .i64 x.dev) ∧ Z.cell? ⟨wr.heap.size, 2, none⟩ = some (.int .i64 x.place) from fun Z hz =>
        have h1 := (hz.block wr.heap.size (by simp)).trans (heap_alloc_new wr _)
        ⟨cell_of_row Z wr.heap.size 1 _ _ _ h1, cell_of_row Z wr.heap.size 2 _ _ _ h1⟩)
      go_wp2_with (first
        | (go_at_call 13; refine (where_head (x :: ls.drop (k + 1)) w1.heap.size (some code) _ x _ (HK.out.et _ HBA.out) (HCA.out _ HBA.out) HX0.out).mono ?_; rintro e w2 ⟨rfl, hb⟩; have HA2 := mkHid hb; have HB2 := mkHid (below_stepF HBA.out hb); clear hb)
        | (go_at_call 14; refine (codeOf_some (x :: ls.drop (k + 1)) w1.heap.size code _ _ _ (HK.out.et _ HB2.out) (HCA.out _ HB2.out) HB2.out.size).mono ?_; rintro e w3 ⟨rfl, hb⟩; have HA3 := mkHid (below_stepF HA2.out hb); have HB3 := mkHid (below_stepF HB2.out hb); obtain ⟨y1, y2⟩ := HKE.out _ HA3.out; clear hb)
        | (go_at_call 15; refine (depth_any (x :: ls.drop (k + 1)) w1.heap.size (some code) _ _ (HK.out.et _ HB3.out) (HCA.out _ HB3.out) HB3.out.size (by rw [HLD.out]; omega)).mono ?_; rintro e w4 ⟨rfl, hb⟩; rw [HLD.out, HNK.out]; have HB4 := mkHid (below_stepF HB3.out hb); clear hb)
        | (go_at_call 11; refine (Is_any (x :: ls.drop (k + 1)) w1.heap.size (some code) _ _ code _ (HCA.out _ HB4.out)).mono ?_; rintro e w5 ⟨rfl, hww⟩; subst hww; rw [HCC.out])
        | (go_at_call 16; refine (Unwrap_fault g x u _ (HGX.out _ HB4.out)).mono ?_; rintro e w6 ⟨rfl, hww⟩; subst hww))
      go_roundw
      case measure => simp [intOf]; omega
      case rel => exact ⟨k + 1, hlt, by go_num, HU, HB4⟩
    · obtain rfl : k = n := by omega
      have hv := HC.out
      rw [List.drop_of_length_le (by rw [HLN.out]; exact Nat.le_refl _)] at hv
      change _ = codeV code at hv
      subst hv
      have HCN := mkHid (show ∀ Z : World, Ch Z w1.heap.size [] (some code) (codeV code) from fun _ => rfl)
      have hcc : (some code == some code) = true := by simp
      have HCC := mkHid hcc
      clear hcc HC
      go_wp2_with (first
        | (go_at_call 13; refine (where_none (some code) _ (HK.out.et _ HBR.out)).mono ?_; rintro e w2 ⟨rfl, hb⟩; have HB2 := mkHid (below_stepF HBR.out hb); clear hb)
        | (go_at_call 15; refine (depth_any [] w1.heap.size (some code) _ _ (HK.out.et _ HB2.out) (HCN.out _) HB2.out.size (Nat.zero_le _)).mono ?_; rintro e w4 ⟨rfl, hb⟩; have HB4 := mkHid (below_stepF HB2.out hb); clear hb; simp only [List.length_nil])
        | (go_at_call 11; refine (Is_any [] w1.heap.size (some code) _ _ code _ (HCN.out _)).mono ?_; rintro e w5 ⟨rfl, hww⟩; subst hww; rw [HCC.out])
        | (go_at_call 16; refine (Unwrap_code code _).mono ?_; rintro e w6 ⟨rfl, hww⟩; subst hww)
        | (go_at_call 9; refine (awake_any _ (HK.out.et _ HB4.out)).mono ?_; rintro e w7 ⟨rfl, hb⟩; have HB7 := mkHid (below_stepF HB4.out hb); clear hb))
      go_ret
      exact ⟨rfl, HK.out.be _ HB7.out⟩
end Go.Proofs.YtolcajcihgfeeaaDoor
