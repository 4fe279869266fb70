/- One bank beside a row of bytes; what the law's calls on one device leave of the others (BankApart's plain law). -/
import Derived.Test.YtpoeneabhoajaaaBkH
namespace Go.Proofs.Ytpoeneabhoajaaa
open Go.RowKit

/-- A byte 7 among noughts. -/
def dB : List Int := zeros.set 7 7
theorem dB_ok : okBytes dB := fun x hx => by
  rcases List.mem_or_eq_of_mem_set hx with h | h
  · exact zeros_ok x h
  · omega
theorem dB_len : dB.length = 128 := by unfold dB; rw [List.length_set, zeros_len]
/-- A bank behind w, and the bytes of block gd, which is none of its blocks. -/
structure OD (w wr : World) (F : Nat → Prop) (g gd : Nat) (s : Bst) : Prop where
  b : BO wr F g s
  lo : ∀ x, F x → w.heap.size ≤ x
  bel : Below w.heap.size w wr
  row : wr.heap[gd]? = some (.cells (dB.map u8).toArray 5 (0, 0))
  out : ¬ F gd
  gl : w.heap.size ≤ gd
section
variable {w wr w1 : World} {F F' : Nat → Prop} {g gd : Nat} {s s' : Bst}
theorem OD.glt (h : OD w wr F g gd s) : gd < wr.heap.size := (Array.getElem?_eq_some_iff.1 h.row).1
theorem OD.below (h : OD w wr F g gd s) (hb : Below wr.heap.size wr w1) : OD w w1 F g gd s := ⟨h.b.below hb, h.lo, h.bel.trans (hb.mono h.bel.size), (hb.block gd h.glt).trans h.row, h.out, h.gl⟩
theorem OD.step (h : OD w wr F g gd s) (ht : Turn F wr w1) (hd : BO w1 F' g s') (hF : ∀ x, F' x → F x ∨ wr.heap.size ≤ x) : OD w w1 F' g gd s' :=
  ⟨hd, fun x hx => (hF x hx).elim (h.lo x) fun e => Nat.le_trans h.bel.size e, h.bel.trans (ht.below h.lo h.bel.size), (ht.block gd h.glt h.out).trans h.row, fun hf => (hF gd hf).elim h.out fun e => by have := h.glt; omega, h.gl⟩
theorem OD.bs (h : OD w wr F g gd s) : BS wr wr.heap.size (some ⟨gd, 0, none⟩) 128 dB := by
  have h1 := SL.of_block (s := 1) (B := wr.heap.size) (m := 128) h.row (by simp [dB_len]) h.glt
  exact ⟨by simpa using h1, dB_ok⟩
end

/-- A device with that sector. -/
def x0 : List Sec := (List.replicate 4 sec0).set 1 ⟨zeros, [dB], false⟩
theorem x0_read : Go.Proofs.Ytpoeneabhoajaaa.rdL x0 1 = dB ∧ rdN x0 1 = 0 ∧ Go.Proofs.Ytpoeneabhoajaaa.rdL (List.replicate 4 sec0) 1 = zeros ∧ rdN (List.replicate 4 sec0) 1 = 0 := by refine ⟨?_, ?_, ?_, ?_⟩ <;> kernel_rfl
theorem x0_crash : crashed x0 [] = List.replicate 4 sec0 := by kernel_rfl
theorem crashB_nil : ∀ d : List (Option (List Sec)), crashB d [] = d.map (Option.map fun ss => crashed ss [])
  | [] => rfl
  | none :: r => by rw [crashB, crashB_nil r]; rfl
  | some ss :: r => by rw [crashB, List.take_nil, List.drop_nil, crashB_nil r]; rfl
/-- The banks while the three writes are done. -/
def bsW (k : Nat) : Bst := ⟨List.replicate k (some x0) ++ List.replicate (3 - k) (some (List.replicate 4 sec0)), false, 0, false, k⟩
theorem bsW_step (k : Nat) (hk : k < 3) : (bsW k).wrE k 1 128 = 0 ∧ (bsW k).wrote k 1 dB = bsW (k + 1) := by
  obtain rfl | rfl | rfl : k = 0 ∨ k = 1 ∨ k = 2 := by omega
  all_goals constructor <;> kernel_rfl
theorem bsW_few (k : Nat) : (bsW k).few 1 := fun j ss hj x hx => by
  have hm := List.mem_of_getElem? hj
  have key : ∀ y ∈ x0, y.wait.length ≤ 1 := fun y hy => by
    rcases List.mem_or_eq_of_mem_set hy with h | h
    · rw [List.eq_of_mem_replicate h]; exact Nat.zero_le _
    · rw [h]; exact Nat.le_refl _
  rcases List.mem_append.1 hm with h | h
  · have := List.eq_of_mem_replicate h
    injection this with this
    subst this
    exact key x hx
  · have := List.eq_of_mem_replicate h
    injection this with this
    subst this
    rw [List.eq_of_mem_replicate hx]; exact Nat.zero_le _

/-- All devices but dv are as they were. -/
structure AP (dv q : Nat) (s : Bst) : Prop where
  ar : s.armed = false
  dn : s.down = false
  d0 : 0 ≤ s.done
  d1 : s.done ≤ 3 + (q : Int)
  ot : ∀ i : Nat, i < 3 → i ≠ dv → s.ds[i]? = some (some x0)
  fw : s.few (1 + q)
theorem AP.start (dv : Nat) : AP dv 0 (bsW 3) := ⟨rfl, rfl, by simp [bsW], by simp [bsW], fun i hi _ => by
  obtain rfl | rfl | rfl : i = 0 ∨ i = 1 ∨ i = 2 := by omega
  all_goals rfl, bsW_few 3⟩
theorem AP.more {dv q : Nat} {s : Bst} (h : AP dv q s) : AP dv (q + 1) s := ⟨h.ar, h.dn, h.d0, by have := h.d1; omega, h.ot, few_more h.fw (by omega)⟩
theorem AP.set {dv q : Nat} {s : Bst} (h : AP dv q s) (o : Option (List Sec)) (k : Int) (hk0 : 0 ≤ k) (hk1 : k ≤ 1) (hf : ∀ ss, o = some ss → ∀ x ∈ ss, x.wait.length ≤ 1 + (q + 1)) : AP dv (q + 1) { s with ds := s.ds.set dv o, done := s.done + k } := by
  refine ⟨h.ar, h.dn, by have := h.d0; simp only; omega, by have := h.d1; simp only; omega, fun i hi hne => ?_, fun j ss hj => ?_⟩
  · simp only
    rw [List.getElem?_set_ne (Ne.symm hne)]
    exact h.ot i hi hne
  · simp only at hj
    by_cases hij : dv = j
    · subst hij
      have hl : dv < s.ds.length := by have := (List.getElem?_eq_some_iff.1 hj).1; rw [List.length_set] at this; exact this
      rw [List.getElem?_set_self hl] at hj
      injection hj with hj
      exact hf ss hj
    · rw [List.getElem?_set_ne hij] at hj
      exact few_more h.fw (by omega) j ss hj
theorem AP.does {dv q : Nat} {s : Bst} (h : AP dv q s) (ok : Bool) (ss : List Sec) (hf : ok = true → ∀ x ∈ ss, x.wait.length ≤ 1 + (q + 1)) : AP dv (q + 1) (s.does ok (dv : Int) ss) := by
  obtain ⟨ca, cz⟩ := counted_off h.ar
  unfold Bst.does
  cases ok with
  | false => rw [if_pos (.inr rfl)]; exact h.more
  | true =>
    rw [if_neg (by rw [h.dn]; simp), if_neg (by rw [cz]; simp), ca, Int.toNat_natCast]
    exact h.set (some ss) 1 (by omega) (by omega) fun s1 e => by injection e with e; subst e; exact hf rfl
theorem AP.live {dv q : Nat} {s : Bst} (h : AP dv q s) (i : Int) : s.liveE i = s.devE i := if_neg (by rw [h.dn]; simp)
theorem AP.wrote {dv q : Nat} {s : Bst} (h : AP dv q s) (k : Int) (l : List Int) : AP dv (q + 1) (s.wrote dv k l) := by
  rw [wrote_does]
  refine h.does _ _ fun ho => ?_
  have hd : s.devE dv = 0 := by
    have := (Bool.and_eq_true_iff.1 (Bool.and_eq_true_iff.1 ho).1).1
    exact of_decide_eq_true this
  have := wnext_few (i := k) (l := l) (few_sec h.fw (i := dv) (by rw [h.live]; exact hd))
  exact fun x hx => by have := this x hx; omega
theorem AP.flush {dv q : Nat} {s : Bst} (h : AP dv q s) : AP dv (q + 1) (s.flush1 dv) := by
  rw [flush_does]
  refine h.does _ _ fun _ x hx => ?_
  obtain ⟨y, _, rfl⟩ := List.mem_map.1 hx
  exact Nat.zero_le _
theorem AP.set0 {dv q : Nat} {s : Bst} (h : AP dv q s) (o : Option (List Sec)) (hf : ∀ ss, o = some ss → ∀ x ∈ ss, x.wait.length ≤ 1 + (q + 1)) : AP dv (q + 1) { s with ds := s.ds.set dv o } := by
  have := h.set o 0 (by omega) (by omega) hf
  rw [Int.add_zero] at this
  exact this
theorem AP.detached {dv q : Nat} {s : Bst} (h : AP dv q s) : AP dv (q + 1) (s.detached dv) := by
  unfold Bst.detached
  split
  · exact h.more
  · rw [Int.toNat_natCast]; exact h.set0 none fun _ e => by cases e
theorem AP.badded {dv q : Nat} {s : Bst} (h : AP dv q s) (k : Int) (on : Bool) : AP dv (q + 1) (s.badded dv k on) := by
  unfold Bst.badded
  split
  · exact h.more
  · rename_i hn
    have hd : s.devE dv = 0 := by
      rcases Decidable.em (s.devE dv = 0) with e | e
      · exact e
      · exact absurd (by unfold Bst.badE; rw [if_pos e]; exact e) hn
    have hs := few_sec h.fw (i := dv) (by rw [h.live]; exact hd)
    rw [Int.toNat_natCast]
    refine h.set0 _ fun ss e x hx => ?_
    injection e with e
    subst e
    unfold bnext at hx
    split at hx
    · rename_i y hy
      rcases List.mem_or_eq_of_mem_set hx with hx | rfl
      · have := hs x hx; omega
      · have := hs y (List.mem_of_getElem? hy); simp only; omega
    · have := hs x hx; omega
theorem AP.filled {dv q : Nat} {s : Bst} (h : AP dv q s) (l : List Int) : AP dv (q + 1) (s.filledB dv l) := by
  unfold Bst.filledB
  split
  · exact h.more
  · rw [Int.toNat_natCast]
    refine h.set0 _ fun ss e x hx => ?_
    injection e with e
    subst e
    obtain ⟨y, _, rfl⟩ := List.mem_map.1 hx
    exact Nat.zero_le _
theorem AP.read {dv q : Nat} {s : Bst} (h : AP dv q s) {i : Nat} (hi : i < 3) (hne : i ≠ dv) : s.rdE i 1 = 0 ∧ s.rdL i 1 = dB := by
  obtain ⟨h1, h2⟩ := dev_ok (h.ot i hi hne)
  have h3 : s.liveE i = 0 := (h.live i).trans h1
  refine ⟨?_, ?_⟩
  · unfold Bst.rdE; rw [if_neg (by rw [h3]; simp), h2]; exact x0_read.2.1
  · unfold Bst.rdL; rw [if_neg (by rw [h3]; simp), h2]; exact x0_read.1
theorem AP.crash {dv q : Nat} {s : Bst} (h : AP dv q s) {i : Nat} (hi : i < 3) (hne : i ≠ dv) : (s.crashedB []).rdE i 1 = 0 ∧ (s.crashedB []).rdL i 1 = zeros := by
  have h0 : (s.crashedB []).ds[i]? = some (some (List.replicate 4 sec0)) := by
    show (crashB s.ds [])[i]? = _
    rw [crashB_nil, List.getElem?_map, h.ot i hi hne, ← x0_crash]
    rfl
  obtain ⟨h1, h2⟩ := dev_ok h0
  have h3 : (s.crashedB []).liveE i = 0 := by unfold Bst.liveE; rw [if_neg (by simp [Bst.crashedB])]; exact h1
  refine ⟨?_, ?_⟩
  · unfold Bst.rdE; rw [if_neg (by rw [h3]; simp), h2]; exact x0_read.2.2.2
  · unfold Bst.rdL; rw [if_neg (by rw [h3]; simp), h2]; exact x0_read.2.2.1

/-- 'make([]byte, 128)' behind a guard. -/
theorem run_make128 (w8 : World) : ∃ wm, (∀ W, W = w8 → (Instr.makeSlice 31 (.int .i64 128) (.int .i64 128)).run Try.prog W = .ok (.slice (some ⟨w8.heap.size, 0, none⟩) 128 128) wm) ∧ wm.ownsRow w8.heap.size 5 1 (.slice (some ⟨w8.heap.size, 0, none⟩) 128 128) 128 (zeros.map u8) ∧ Below w8.heap.size w8 wm := by
  obtain ⟨ht, ⟨ii, z, hi, hz, hsi, hbi, hzs⟩, _⟩ := el_u8
  have hz' : z = .int .u8 0 := by
    have : (Try.prog.info? 5).map (·.zero) = some (some (.int .u8 0)) := by kernel_rfl
    rw [hi] at this
    simp only [Option.map_some, Option.some.injEq] at this
    rw [hz] at this
    injection this
  subst hz'
  obtain ⟨wm, hrun, hom, hgm⟩ := run_make_full (P := Try.prog) (w := w8) w8.heap.size _ _ ii _ 1 ht hi hz hsi .i64 .i64 128 (by rw [hbi]; omega) (by unfold maxLen; omega) (Nat.le_refl _)
  rw [zeros_cells] at hom
  exact ⟨wm, fun W hW => by subst hW; exact hrun, hom, (Below.refl _ _).grown hgm (Nat.le_refl _) (fun k hk => by cases hk)⟩

end Go.Proofs.Ytpoeneabhoajaaa
