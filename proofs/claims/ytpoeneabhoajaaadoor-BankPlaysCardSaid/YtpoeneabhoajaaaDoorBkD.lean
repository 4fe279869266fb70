/- The bank's Add, Sizes by contract; the law's awake. -/
import Derived.Test.YtpoeneabhoajaaaDoorBkC
namespace Go.Proofs.YtpoeneabhoajaaaDoor
open Go.RowKit

def Bst.addE (s : Bst) (k : Int) : Int := if s.down = true then 22 else if 8 ≤ s.ds.length then 24 else if 1 ≤ k ∧ k ≤ 4096 then 0 else 20
def Bst.added (s : Bst) (k : Int) : Bst := if s.addE k = 0 then { s with ds := s.ds ++ [some (List.replicate k.toNat sec0)] } else s

/-- A device comes. -/
theorem BK.add {w w2 w3 : World} {F F' : Nat → Prop} {g p : Nat} {A A' : Option Addr} {n c c' : Nat} {ps : List (Option Nat)} {Fs : Nat → Nat → Prop} {s : Bst} {ss : List Sec} (h : BK w F g A n c ps Fs s) (hd : DK w2 F' p ss) (hF : ∀ b, F' b → w.heap.size ≤ b) (hb2 : Below w.heap.size w w2)
    (ho3 : w3.ownsRow 0 55 1 (.slice A' (n + 1) c') (n + 1) (ps.map ptrO ++ [ptrV p])) {o : Obj} (hg3 : (w2.alloc o).grownBy w3 (Value.slice A n c).ownBlock)
    (hat : (Value.slice A' (n + 1) c').ownBlock = (Value.slice A n c).ownBlock ∨ (Value.slice A' (n + 1) c').ownBlock = some (w2.alloc o).heap.size) (hn : n + 1 ≤ 8) :
    Turn F w (w3.setCell ⟨g, 0, none⟩ (.slice A' (n + 1) c')) ∧ ∃ F2, BO (w3.setCell ⟨g, 0, none⟩ (.slice A' (n + 1) c')) F2 g { s with ds := s.ds ++ [some ss] } ∧ ∀ b, F2 b → F b ∨ w.heap.size ≤ b := by
  have s2 := hb2.size
  have s3 : w2.heap.size + 1 ≤ w3.heap.size := by have := hg3.size; simpa using this
  have s4 : (w3.setCell ⟨g, 0, none⟩ (.slice A' (n + 1) c')).heap.size = w3.heap.size := by simp [World.setCell]
  have hglt := h.lt g h.fg
  have hrlt : ∀ b, (Value.slice A n c).ownBlock = some b → b < w.heap.size := fun b hb => h.lt b (h.fr b hb)
  have keep2 : ∀ b, b < w2.heap.size → ¬ (b = g ∨ (Value.slice A n c).ownBlock = some b) → (w3.setCell ⟨g, 0, none⟩ (.slice A' (n + 1) c')).heap[b]? = w2.heap[b]? := fun b hb hno =>
    (heap_setCell_other _ _ _ _ fun e => hno (.inl e)).trans ((hg3.block b (by simp; omega) fun e => hno (.inr e.symm)).trans (Below.heap_alloc _ _ _ hb))
  have keep : ∀ b, b < w.heap.size → ¬ (b = g ∨ (Value.slice A n c).ownBlock = some b) → (w3.setCell ⟨g, 0, none⟩ (.slice A' (n + 1) c')).heap[b]? = w.heap[b]? := fun b hb hno => (keep2 b (by omega) hno).trans (hb2.block b hb)
  have hblk : w3.heap[g]? = some (.cells (bankC A n c s) 52 (0, 0)) := (((hg3.block g (by simp; omega) fun e => h.rg e.symm).trans (Below.heap_alloc _ _ _ (by omega))).trans (hb2.block g hglt)).trans h.blk
  have hlp := h.lp
  have hlen := h.len
  have hnew : ∀ b, F' b → ¬ (b = g ∨ (Value.slice A n c).ownBlock = some b) := fun b hb hm => by
    have := hF b hb
    rcases hm with e | e
    · omega
    · have := hrlt b e; omega
  have hat' : ∀ r, (Value.slice A' (n + 1) c').ownBlock = some r → (Value.slice A n c).ownBlock = some r ∨ (w2.heap.size ≤ r ∧ r < w3.heap.size) := fun r hr => by
    rcases hat with e | e
    · exact .inl (by rw [← e]; exact hr)
    · have h1 := (ho3.lt r hr).2
      rw [hr] at e
      injection e with e
      exact .inr ⟨by rw [e]; simp, h1⟩
  refine ⟨⟨hg3.os.trans hb2.os, hg3.tape.trans hb2.tape, hg3.output.trans hb2.output, by omega, fun k hk hf => keep k hk fun e => hf ?_⟩, fun b => F b ∨ (w.heap.size ≤ b ∧ b < w3.heap.size), ⟨A', n + 1, c', ps ++ [some p], fun i b => if i = n then F' b else if i < n then Fs i b else False, ?_⟩, fun b hb => hb.imp id fun e => e.1⟩
  · rcases e with e | e
    · exact e ▸ h.fg
    · exact h.fr k e
  refine ⟨heap_setCell_same _ _ _ _ _ _ hblk, ?_, by simp [h.len], fun j s1 hj => ?_, fun j hj => ?_, fun i b hb => ?_, fun i k b hi hk => ?_, .inl h.fg, fun r hr => ?_, fun b hb => ?_, hn, h.lf⟩
  · rw [List.map_append]
    exact own_same ho3 fun r hr => heap_setCell_other _ _ _ _ fun e => by
      have e : r = g := e
      subst e
      obtain ⟨cur, h'⟩ := own_type ho3 hr
      rw [hblk] at h'
      simp at h'
  · simp only at hj
    by_cases hjn : j < n
    · rw [List.getElem?_append_left (by omega)] at hj
      obtain ⟨p', h1, h2⟩ := h.dk j s1 hj
      refine ⟨p', by rw [List.getElem?_append_left (by omega)]; exact h1, ?_⟩
      rw [show (fun b => if j = n then F' b else if j < n then Fs j b else False) = Fs j from by funext b; rw [if_neg (by omega), if_pos hjn]]
      exact h2.keep (by omega) fun b hb => keep b (h2.lt b hb) fun e => by
        rcases e with e | e
        · exact (h.fs j b hb).2.1 e
        · exact (h.fs j b hb).2.2 e
    · have hjl := (List.getElem?_eq_some_iff.1 hj).1
      rw [List.length_append, List.length_singleton] at hjl
      obtain rfl : j = n := by omega
      rw [List.getElem?_append_right (by omega), hlen, Nat.sub_self] at hj
      injection hj with hj
      injection hj with hj
      subst hj
      refine ⟨p, by rw [List.getElem?_append_right (by omega), hlp, Nat.sub_self]; rfl, ?_⟩
      rw [show (fun b => if j = j then F' b else if j < j then Fs j b else False) = F' from by funext b; rw [if_pos rfl]]
      exact hd.keep (by omega) fun b hb => keep2 b (hd.lt b hb) (hnew b hb)
  · simp only at hj
    by_cases hjn : j < n
    · rw [List.getElem?_append_left (by omega)] at hj
      rw [List.getElem?_append_left (by omega)]
      exact h.no j hj
    · have hjl := (List.getElem?_eq_some_iff.1 hj).1
      rw [List.length_append, List.length_singleton] at hjl
      obtain rfl : j = n := by omega
      rw [List.getElem?_append_right (by omega), hlen, Nat.sub_self] at hj
      cases hj
  · by_cases hin : i = n
    · rw [if_pos hin] at hb
      have h1 := hd.lt b hb
      refine ⟨.inr ⟨hF b hb, by omega⟩, fun e => hnew b hb (.inl e), fun e => ?_⟩
      rcases hat' b e with e' | e'
      · exact hnew b hb (.inr e')
      · omega
    · rw [if_neg hin] at hb
      split at hb
      · have h1 := h.fs i b hb
        refine ⟨.inl h1.1, h1.2.1, fun e => ?_⟩
        rcases hat' b e with e' | e'
        · exact h1.2.2 e'
        · have := h.lt b h1.1; omega
      · exact hb.elim
  · have key : ∀ i b, (if i = n then F' b else if i < n then Fs i b else False) → (i = n ∧ F' b) ∨ (i ≠ n ∧ Fs i b) := fun i b hb => by
      by_cases hin : i = n
      · rw [if_pos hin] at hb; exact .inl ⟨hin, hb⟩
      · rw [if_neg hin] at hb
        split at hb
        · exact .inr ⟨hin, hb⟩
        · exact hb.elim
    rcases key i b hi with ⟨e1, h1⟩ | ⟨e1, h1⟩ <;> rcases key k b hk with ⟨e2, h2⟩ | ⟨e2, h2⟩
    · omega
    · have := hF b h1; have := h.lt b (h.fs k b h2).1; omega
    · have := hF b h2; have := h.lt b (h.fs i b h1).1; omega
    · exact h.ap i k b h1 h2
  · rcases hat' r hr with e | e
    · exact .inl (h.fr r e)
    · exact .inr ⟨by omega, e.2⟩
  · rw [s4]
    rcases hb with hb | hb
    · have := h.lt b hb; omega
    · exact hb.2

/-- What Add answers, and leaves. -/
def RetAdd (F : Nat → Prop) (g : Nat) (s : Bst) (k : Int) (w : World) (e : Ending) (w' : World) : Prop :=
  ∃ (i : Int) (v : Value), e = .returned (.tuple #[.int .i64 i, v]) ∧ (s.addE k = 0 → i = s.ds.length) ∧ (s.addE k ≠ 0 → i = 0) ∧ EV w.heap.size w' v opAdd s.ds.length 0 (s.addE k) ∧ Turn F w w' ∧ ∃ F', BO w' F' g (s.added k) ∧ ∀ b, F' b → F b ∨ w.heap.size ≤ b

set_option maxRecDepth 20000 in
set_option maxHeartbeats 2000000 in
theorem add_any (F : Nat → Prop) (g : Nat) (s : Bst) (k : Int) (w : World) (h : BO w F g s) (hk : I64 k) :
    Calls Tryd.prog 7 #[.pointer (some ⟨g, 0, none⟩), .int .i64 k] w (RetAdd F g s k w) := by
  have HN := mkHid (fun (v : Value) (c : Int) (w' : World) (hc : s.addE k = c) (h0 : c ≠ 0) (hv : EV w.heap.size w' v opAdd s.ds.length 0 c) (hb : Below w.heap.size w w') => show RetAdd F g s k w (.returned (.tuple #[.int .i64 0, v])) w' from by
    refine ⟨0, v, rfl, fun e => absurd (hc.symm.trans e) h0, fun _ => rfl, by rw [hc]; exact hv, Turn.of_below hb, F, ?_, fun b hb => .inl hb⟩
    unfold Bst.added
    rw [if_neg (by rw [hc]; exact h0)]
    exact h.below hb)
  obtain ⟨A, n, c, ps, Fs, h⟩ := h
  have hlen := h.len
  rw [hlen] at HN
  have HLEN := mkHid hlen
  obtain ⟨hc1, hc2⟩ := own_cap h.row
  have hn8 := h.n8
  have c0 := cell_of_row w g 0 _ _ _ h.blk
  have c3 := cell_of_row w g 3 _ _ _ h.blk
  simp at c0 c3
  cases hdn : s.down with
  | true =>
    have HE := mkHid (show s.addE k = 22 by unfold Bst.addE; rw [if_pos hdn])
    rw [hdn] at c3
    clear h hdn hlen hk
    go_enter Tryd.func7, Tryd.ntmps7
    go_wp2_with fail
    refine (wrap_cv opAdd n 0 22 w).mono ?_
    rintro e w2 ⟨v, rfl, hv, hb2⟩
    have HV := mkHid hv
    have HB2 := mkHid hb2
    clear hv hb2
    go_wp2_with fail
    go_ret2
    exact HN.out v 22 w2 HE.out (by omega) HV.out HB2.out
  | false =>
    rw [hdn] at c3
    have HDN := mkHid hdn
    clear hdn
    by_cases h8 : 8 ≤ n
    · have HE := mkHid (show s.addE k = 24 by unfold Bst.addE; rw [if_neg (by rw [HDN.out]; simp), hlen, if_pos h8])
      clear h hlen hk
      go_enter Tryd.func7, Tryd.ntmps7
      go_wp2_with fail
      refine (wrap_cv opAdd n 0 24 w).mono ?_
      rintro e w2 ⟨v, rfl, hv, hb2⟩
      have HV := mkHid hv
      have HB2 := mkHid hb2
      clear hv hb2
      go_wp2_with fail
      go_ret2
      exact HN.out v 24 w2 HE.out (by omega) HV.out HB2.out
    by_cases hk1 : 1 ≤ k ∧ k ≤ 4096
    case neg =>
      have HE := mkHid (show s.addE k = 20 by unfold Bst.addE; rw [if_neg (by rw [HDN.out]; simp), hlen, if_neg h8, if_neg hk1])
      have HD := mkHid (newDisk_no k w hk (by omega))
      clear h hlen hk hk1
      go_enter Tryd.func7, Tryd.ntmps7
      go_wp2_with fail
      refine HD.out.mono ?_
      rintro e w1 ⟨rfl, rfl⟩
      go_wp2_with fail
      refine (wrap_cv opAdd n 0 20 w).mono ?_
      rintro e w2 ⟨v, rfl, hv, hb2⟩
      have HV := mkHid hv
      have HB2 := mkHid hb2
      clear hv hb2
      go_wp2_with fail
      go_ret2
      exact HN.out v 20 w2 HE.out (by omega) HV.out HB2.out
    obtain ⟨K, rfl⟩ := Int.eq_ofNat_of_zero_le (show 0 ≤ k by omega)
    have HE := mkHid (show s.addE (K : Int) = 0 by unfold Bst.addE; rw [if_neg (by rw [HDN.out]; simp), hlen, if_neg h8, if_pos hk1])
    have HD := mkHid (newDisk_any K w (by omega) (by omega))
    have hglt := h.lt g h.fg
    have HB := mkHid h
    have f0 : ∀ Z : World, Z.heap[g]? = w.heap[g]? → Z.cell? ⟨g, 0, none⟩ = some (.slice A n c) ∧ Z.frozen? ⟨g, 0, none⟩ = false := fun Z hZ => ⟨cell_of_row Z g 0 _ _ _ (hZ.trans h.blk), frozen_of_row Z g 0 _ _ (hZ.trans h.blk)⟩
    have HF0 := mkHid f0
    clear h hlen hk hk1 f0 HN
    go_enter Tryd.func7, Tryd.ntmps7
    go_wp2_with fail
    refine HD.out.mono ?_
    rintro e w1 ⟨p, F1, rfl, hd1, hF1, hb1⟩
    have hk1 : w1.heap[g]? = w.heap[g]? := hb1.block g hglt
    obtain ⟨a0, a1⟩ := HF0.out w1 hk1
    have hs1 := hb1.size
    obtain ⟨b0, b1⟩ := HF0.out (w1.alloc (.cells #[ptrV p] 55)) ((Below.heap_alloc _ _ _ (by omega)).trans hk1)
    have HD1 := mkHid hd1
    have HF1 := mkHid hF1
    have HB1 := mkHid hb1
    have HK1 := mkHid hk1
    clear hd1 hF1 hb1 hk1
    go_wp2_with (at_builtin; refine wpList_app _ rfl (.tmp 42) (.tmp 44) _ rfl 0 el_dk A n c (ps.map ptrO) rfl (own_keep HB.out.row (fun b hb => (Below.heap_alloc _ _ b (by omega)).trans (HB1.out.block b hb))) (w1.heap.size + 1) (some ⟨w1.heap.size, 0, none⟩) 1 1 [ptrV p] rfl (SL.of_block (heap_alloc_new w1 _) rfl (by omega)) (fun u hu => by obtain rfl := List.mem_singleton.1 hu; rfl) (by unfold maxLen; omega) (by omega) (by omega) ?_; intro A' c' w3 ho3 hg3 hat3; obtain ⟨d0, d1⟩ := HF0.out w3 (((hg3.block g (by simp; omega) (fun e => HB.out.rg e.symm)).trans (Below.heap_alloc w1 _ g (by omega))).trans HK1.out); have HO3 := mkHid ho3; have HG3 := mkHid hg3; have HAT3 := mkHid hat3; clear ho3 hg3 hat3)
    go_ret2
    obtain ⟨k1, F2, k2, k3⟩ := HB.out.add HD1.out HF1.out HB1.out HO3.out HG3.out HAT3.out (by omega)
    refine ⟨n, .nilIface, rfl, fun _ => by rw [HLEN.out], fun e => absurd HE.out e, ⟨fun _ => rfl, fun e => absurd HE.out e⟩, k1, F2, ?_, k3⟩
    unfold Bst.added
    rw [if_pos HE.out, Int.toNat_natCast]
    exact k2

end Go.Proofs.YtpoeneabhoajaaaDoor
