/- portageref02.Same and bytes.Equal by contract: the bytes are equal. -/
import Derived.Test.YtbgfccfhiocomaaRows
import Derived.Test.YtbgfccfhiocomaaMem
namespace Go.Proofs.Ytbgfccfhiocomaa
open Go.RowKit

theorem BS.str {P : Program} {w : World} {B n : Nat} {a : Option Addr} {l : List Int} (h : BS w B a n l) (src e dst : TypeId) (hs : P.underlying src = some (.slice e)) (he : P.underlying e = some (.int .u8)) (hd : P.underlying dst = some .string) (c : Nat) :
    (convert src dst (.slice a n c)).run P w = .ok (.string (strOfNums l)) w := by
  have hl := h.len
  rcases a with _ | ad
  · have hn : n = 0 := by
      rcases Nat.eq_zero_or_pos n with h0 | h0
      · exact h0
      · obtain ⟨b, o, hh, _⟩ := h.at_ h0
        cases hh
    subst hn
    obtain rfl : l = [] := List.eq_nil_of_length_eq_zero hl
    rw [run_convert_bytes_nil w src e hs he 0 c dst hd]
    rfl
  · rcases Nat.eq_zero_or_pos n with h0 | h0
    · subst h0
      obtain rfl : l = [] := List.eq_nil_of_length_eq_zero hl
      rw [run_convert_bytes_string w src dst e _ 0 c hs he hd, run_bytesToString w ad 0 c [] (by simp [loadCells, loadCellsFrom])]
      rfl
    · obtain ⟨b, o, hh, _⟩ := h.at_ h0
      injection hh with hh
      subst hh
      refine run_convert_bytes_arg w src e hs he b o n c l hl (fun i hi => ?_) dst hd
      obtain ⟨b', o', hh, _, hc, _⟩ := h.at_ hi
      injection hh with hh
      injection hh with h1 h2
      subst h1
      subst h2
      rw [hc]
      simp [List.getD]

theorem strOfNums_inj {l m : List Int} (hl : okBytes l) (hm : okBytes m) : ((strOfNums l).toList == (strOfNums m).toList) = decide (l = m) := by
  rw [Bool.eq_iff_iff, decide_eq_true_iff, beq_iff_eq, ByteArray.toList_eq, ByteArray.toList_eq, strOfNums_data, strOfNums_data]
  constructor
  · intro h
    have key : ∀ (l m : List Int), okBytes l → okBytes m → l.map (fun n => UInt8.ofNat n.toNat) = m.map (fun n => UInt8.ofNat n.toNat) → l = m := by
      intro l
      induction l with
      | nil => intro m _ _ h; cases m with
        | nil => rfl
        | cons => simp at h
      | cons x l ih => intro m hl hm h; cases m with
        | nil => simp at h
        | cons y m =>
          simp only [List.map_cons, List.cons.injEq] at h
          have hx := hl x (by simp)
          have hy := hm y (by simp)
          have e1 : (UInt8.ofNat x.toNat).toNat = (UInt8.ofNat y.toNat).toNat := by rw [h.1]
          simp only [UInt8.toNat_ofNat'] at e1
          have e2 : x = y := by omega
          rw [e2, ih m (fun z hz => hl z (by simp [hz])) (fun z hz => hm z (by simp [hz])) h.2]
    exact key l m hl hm h
  · rintro rfl
    rfl

set_option maxHeartbeats 400000 in
theorem bsame_any (a b : Option Addr) (n m c d B B' : Nat) (l k : List Int) (w : World) (hx : BS w B a n l) (hy : BS w B' b m k) :
    Calls Try.prog 13 #[.slice a n c, .slice b m d] w fun e w' => e = .returned (.bool (decide (l = k))) ∧ w = w' := by
  have h1 := fun (c : Nat) => hx.str (P := Try.prog) 25 5 9 Try.underlying25 Try.underlying5 Try.underlying9 c
  have h2 := fun (c : Nat) => hy.str (P := Try.prog) 25 5 9 Try.underlying25 Try.underlying5 Try.underlying9 c
  have HI := mkHid (strOfNums_inj hx.2 hy.2)
  clear hx hy
  go_enter Try.func13, Try.ntmps13
  go_wp2
  go_ret
  exact ⟨ret_bool HI.out, rfl⟩

set_option maxHeartbeats 400000 in
theorem equal_any (a b : Option Addr) (n m c d B B' : Nat) (l k : List Int) (w : World) (hx : BS w B a n l) (hy : BS w B' b m k) :
    Calls Try.prog 51 #[.slice a n c, .slice b m d] w fun e w' => e = .returned (.bool (decide (l = k))) ∧ w = w' := by
  have h1 := fun (c : Nat) => hx.str (P := Try.prog) 25 5 9 Try.underlying25 Try.underlying5 Try.underlying9 c
  have h2 := fun (c : Nat) => hy.str (P := Try.prog) 25 5 9 Try.underlying25 Try.underlying5 Try.underlying9 c
  have HI := mkHid (strOfNums_inj hx.2 hy.2)
  clear hx hy
  go_enter Try.func51, Try.ntmps51
  go_wp2
  go_ret
  exact ⟨ret_bool HI.out, rfl⟩

end Go.Proofs.Ytbgfccfhiocomaa
