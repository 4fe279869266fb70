/- What bytes say of a node: plain. -/
import Derived.Test.YtbgfccfhiocomaaPacksG
import Derived.Test.YtbgfccfhiocomaaReadsG
import Derived.Test.YtbgfccfhiocomaaSaB
import Derived.Test.YtbgfccfhiocomaaRefGetF
import Derived.Test.YtbgfccfhiocomaaFramePut
import Derived.Test.YtbgfccfhiocomaaFrameLawF
namespace Go.Proofs.Ytbgfccfhiocomaa
open Go.RowKit Go.Shelf


/-- The number back from its bytes. -/
theorem valOf_app (l : List Int) (c : Int) : valOf (l ++ [c]) = valOf l * 256 + c := by unfold valOf; rw [List.foldl_append]; rfl
theorem nb_snoc : ∀ (m : Nat) (V c : Int), 0 ≤ c ∧ c < 256 → nb (m + 1) (V * 256 + c) = nb m V ++ [c]
  | 0, V, c, h => by simp [nb]; omega
  | m + 1, V, c, h => by
    rw [nb, nb_snoc m V c h, nb, List.cons_append]
    congr 1
    have hp : (256 : Int) ^ (m + 1) = 256 * 256 ^ m := by rw [Int.pow_succ, Int.mul_comm]
    rw [hp, ← Int.ediv_ediv_of_nonneg (show (0 : Int) ≤ 256 by omega)]
    congr 1
    congr 1
    omega
theorem nb_val : ∀ (m : Nat) (l : List Int), okBytes l → l.length = m → nb m (valOf l) = l
  | 0, l, _, hl => by rw [List.eq_nil_of_length_eq_zero hl]; rfl
  | m + 1, l, h, hl => by
    have hne : l ≠ [] := fun e => by rw [e] at hl; cases hl
    have e := (List.dropLast_concat_getLast hne).symm
    have hd : l.dropLast.length = m := by rw [List.length_dropLast]; omega
    have hc := h _ (List.getLast_mem hne)
    generalize l.dropLast = d at *
    generalize l.getLast hne = c at *
    subst e
    rw [valOf_app, nb_snoc m _ c hc, nb_val m d (fun x hx => h x (List.mem_append_left _ hx)) hd]
theorem take8_inv {s r : List Int} {v : Int} (h : okBytes s) (ht : takeOf 8 s false = (v, r, false)) : s = nb 8 v ++ r ∧ okBytes r := by
  unfold takeOf at ht
  split at ht
  · simp at ht
  · rename_i hl
    have hl8 : 8 ≤ s.length := by
      rcases Nat.lt_or_ge s.length 8 with h' | h'
      · exact absurd (.inr h') hl
      · exact h'
    split at ht
    · simp at ht
    · injection ht with h1 h2
      injection h2 with h2 h3
      subst h1
      subst h2
      have := nb_val 8 (s.take 8) (h.take 8) (by rw [List.length_take]; omega)
      rw [this, List.take_append_drop]
      exact ⟨rfl, h.drop 8⟩


theorem take8_at {p : List Int} (ok : okBytes p) {j : Nat} (h : (readOf 8 (p.drop j)).2 = true) : takeOf 8 (p.drop j) false = ((readOf 8 (p.drop j)).1, p.drop (j + 8), false) := by
  obtain ⟨h1, h2, h3⟩ := take_read 8 (.inr (.inr (.inr rfl))) (p.drop j) (ok.drop j)
  have h4 := h3 h
  rw [h] at h2
  rw [List.drop_drop] at h4
  exact Prod.ext h1 (Prod.ext h4 h2)

/-! ## A payload as a node -/

theorem read_nb {x : Int} (h : fits 8 x = true) (r : List Int) (hr : okBytes r) : readOf 8 (nb 8 x ++ r) = (x, true) := by
  have h1 := take_nb (.inr (.inr (.inr rfl))) h r
  obtain ⟨h2, h3, _⟩ := take_read 8 (.inr (.inr (.inr rfl))) (nb 8 x ++ r) ((nb_ok x 8).append hr)
  rw [h1] at h2 h3
  refine Prod.ext h2.symm ?_
  cases hb : (readOf 8 (nb 8 x ++ r)).2 with
  | true => rfl
  | false => rw [hb] at h3; cases h3


/-! ## A sector as a node -/
/-- What a right frame of kind k holds, it is the frame of. -/
theorem frame_of_get {k : Int} {l p : List Int} (ok : okBytes l) (h : getOf k l = (0, p)) : l = frameOf k p ∧ p.length ≤ 122 ∧ okBytes p := by
  unfold getOf at h
  split at h
  · cases h
  rename_i hl
  split at h
  · cases h
  rename_i hs
  split at h
  · cases h
  rename_i hk
  have hl : l.length = 128 := Decidable.byContradiction fun e => hl e
  have hs : l.drop 124 = be32 (crcSum (l.take 124)) := Decidable.byContradiction fun e => hs e
  have hk : l[0]?.getD 0 = k := Decidable.byContradiction fun e => hk e
  cases hb : bodyOf l with
  | none => rw [hb] at h; cases h
  | some p' =>
    rw [hb] at h
    injection h with _ h
    subst h
    unfold bodyOf at hb
    split at hb
    · cases hb
    rename_i hn
    injection hb with hb
    have g1 := ok.get 1
    match l, hl with
    | x :: y :: t, hl =>
      simp only [List.length_cons] at hl
      obtain rfl : x = k := hk
      have g1 : 0 ≤ y ∧ y < 256 := g1
      obtain ⟨m, rfl⟩ := Int.eq_ofNat_of_zero_le g1.1
      have hm : m ≤ 122 := by
        have : ¬ (122 : Int) < (m : Int) := fun e => hn (.inl e)
        omega
      have hy1 : ((x :: ((m : Nat) : Int) :: t : List Int)[1]?.getD 0).toNat = m := Int.toNat_natCast m
      have hz : ((t.take 122).drop m).all (· == 0) = true := by
        cases hz : ((t.take 122).drop m).all (· == 0) with
        | true => rfl
        | false =>
          refine absurd (.inr ?_) hn
          rw [hy1, show 2 + m = m + 1 + 1 by omega]
          simpa using hz
      have hp : p' = t.take m := by
        rw [← hb, hy1, show 2 + m = m + 1 + 1 by omega]
        simp
      have hpl : p'.length = m := by rw [hp, List.length_take]; omega
      have hrep : (t.take 122).drop m = List.replicate (122 - m) 0 := by
        rw [List.eq_replicate_iff]
        refine ⟨by rw [List.length_drop, List.length_take]; omega, fun b hb => ?_⟩
        have := List.all_eq_true.1 hz b hb
        simpa using this
      have hhead : (x :: (m : Int) :: t).take 124 = frameHead x p' := by
        unfold frameHead
        rw [hpl, List.take_succ_cons, List.take_succ_cons]
        congr 2
        rw [← hrep, hp]
        have := List.take_append_drop m (t.take 122)
        rw [List.take_take, Nat.min_eq_left hm] at this
        exact this.symm
      refine ⟨?_, by omega, ?_⟩
      · unfold frameOf
        rw [← hhead, ← hs, List.take_append_drop]
      · rw [hp]
        exact fun z hz => ok z (List.mem_cons_of_mem _ (List.mem_cons_of_mem _ (List.mem_of_mem_take hz)))
theorem frame_inj {k : Int} {l m : List Int} (hl : l.length ≤ 122) (hm : m.length ≤ 122) (h : frameOf k l = frameOf k m) : l = m := by
  have h1 := frame_body (k := k) hl
  rw [h, frame_body hm] at h1
  injection h1 with h1
  exact h1.symm

end Go.Proofs.Ytbgfccfhiocomaa
