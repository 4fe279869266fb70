/- Plain laws of the sum (CRC-32): the program's steps and the document's bit by bit come to one number; one byte changed changes it. No program in sight. -/
import Derived.Test.YtbgfccfhiocomaaMem
namespace Go.Proofs.Ytbgfccfhiocomaa
open Go.RowKit

/-! ## The program's steps, in the walk's words -/
def crcStep (s : Int) : Int := if (bits .and .u32 s 1 == 1) = true then bits .xor .u32 (s / 2) 3988292384 else s / 2
def crcSteps : Nat → Int → Int
  | 0, s => s
  | k + 1, s => crcStep (crcSteps k s)
def crcByte (s c : Int) : Int := crcSteps 8 (bits .xor .u32 s c)
def crcBytes (s : Int) (l : List Int) : Int := l.foldl crcByte s
def crcSum (l : List Int) : Int := bits .xor .u32 IntKind.u32.max (crcBytes 4294967295 l)

theorem crcBytes_snoc (s : Int) (l : List Int) (k : Nat) (h : k < l.length) : crcBytes s (l.take (k + 1)) = crcSteps 8 (bits .xor .u32 (crcBytes s (l.take k)) (l[k]?.getD 0)) := by
  rw [List.take_succ_eq_append_getElem h, List.getElem?_eq_getElem h]
  unfold crcBytes; rw [List.foldl_append]; rfl

theorem crcBytes_flat (s : Int) (ls : List (List Int)) (k : Nat) (h : k < ls.length) : crcBytes s (ls.take (k + 1)).flatten = crcBytes (crcBytes s (ls.take k).flatten) (ls[k]?.getD []) := by
  rw [List.take_succ_eq_append_getElem h, List.getElem?_eq_getElem h]
  unfold crcBytes; rw [List.flatten_append, List.foldl_append]; simp

/-! ## In natural numbers -/
def nStep (s : Nat) : Nat := if s % 2 = 1 then s / 2 ^^^ 3988292384 else s / 2
def nSteps : Nat → Nat → Nat
  | 0, s => s
  | k + 1, s => nStep (nSteps k s)
def nByte (s c : Nat) : Nat := nSteps 8 (s ^^^ c)
def nBytes (s : Nat) (l : List Int) : Nat := l.foldl (fun s c => nByte s c.toNat) s
def nSum (l : List Int) : Nat := 4294967295 ^^^ nBytes 4294967295 l

theorem xor_lt32 {a b : Nat} (ha : a < 4294967296) (hb : b < 4294967296) : a ^^^ b < 4294967296 := Nat.xor_lt_two_pow (n := 32) ha hb
theorem nStep_lt {s : Nat} (h : s < 4294967296) : nStep s < 4294967296 := by
  unfold nStep; split
  · exact xor_lt32 (by omega) (by omega)
  · omega
theorem nSteps_lt {s : Nat} (h : s < 4294967296) : ∀ k, nSteps k s < 4294967296
  | 0 => h
  | k + 1 => nStep_lt (nSteps_lt h k)
theorem nByte_lt {s c : Nat} (h : s < 4294967296) (hc : c < 4294967296) : nByte s c < 4294967296 := nSteps_lt (xor_lt32 h hc) 8
theorem nBytes_lt : ∀ (l : List Int) (s : Nat), s < 4294967296 → okBytes l → nBytes s l < 4294967296
  | [], s, h, _ => h
  | x :: l, s, h, hl => by
    have hx := hl x (by simp)
    exact nBytes_lt l _ (nByte_lt h (by omega)) fun y hy => hl y (by simp [hy])
theorem nSum_lt {l : List Int} (h : okBytes l) : nSum l < 4294967296 := xor_lt32 (by omega) (nBytes_lt l _ (by omega) h)

theorem u32_and1 (s : Nat) (h : s < 4294967296) : bits .and .u32 (s : Int) 1 = ((s % 2 : Nat) : Int) := by
  have := u32_and_nat s 1 h (by omega)
  rw [nat_mask1] at this
  exact this
theorem crcStep_nat {s : Nat} (h : s < 4294967296) : crcStep (s : Int) = (nStep s : Int) := by
  unfold crcStep nStep
  rw [u32_and1 s h]
  by_cases h1 : s % 2 = 1
  · rw [if_pos h1, if_pos (by rw [h1]; decide)]
    exact u32_xor_nat (s / 2) 3988292384 (by omega) (by omega)
  · rw [if_neg h1, if_neg (by rw [show s % 2 = 0 by omega]; decide)]
    omega
theorem crcSteps_nat {s : Nat} (h : s < 4294967296) : ∀ k, crcSteps k (s : Int) = (nSteps k s : Int)
  | 0 => rfl
  | k + 1 => by rw [crcSteps, crcSteps_nat h k, crcStep_nat (nSteps_lt h k)]; rfl
theorem crcByte_nat {s c : Nat} (h : s < 4294967296) (hc : c < 4294967296) : crcByte (s : Int) (c : Int) = (nByte s c : Int) := by
  unfold crcByte
  rw [u32_xor_nat s c h hc, crcSteps_nat (xor_lt32 h hc)]; rfl
theorem crcBytes_nat : ∀ (l : List Int) (s : Nat), s < 4294967296 → okBytes l → crcBytes (s : Int) l = (nBytes s l : Int)
  | [], s, _, _ => rfl
  | x :: l, s, h, hl => by
    have hx := hl x (by simp)
    show crcBytes (crcByte (s : Int) x) l = _
    obtain ⟨c, rfl⟩ := Int.eq_ofNat_of_zero_le hx.1
    rw [crcByte_nat h (by omega), crcBytes_nat l _ (nByte_lt h (by omega)) fun y hy => hl y (by simp [hy])]
    rfl
theorem crcSum_nat {l : List Int} (h : okBytes l) : crcSum l = (nSum l : Int) := by
  unfold crcSum
  rw [show (4294967295 : Int) = ((4294967295 : Nat) : Int) from rfl, crcBytes_nat l _ (by omega) h]
  exact u32_xor_nat 4294967295 _ (by omega) (nBytes_lt l _ (by omega) h)
theorem crcSum_range {l : List Int} (h : okBytes l) : 0 ≤ crcSum l ∧ crcSum l < 4294967296 := by
  have := nSum_lt h
  rw [crcSum_nat h]; omega

/-! ## The document's: bit by bit -/
def rStep (s b j : Nat) : Nat := if s % 2 = b / 2 ^ j % 2 then s / 2 else s / 2 ^^^ 3988292384
def rSteps (s b : Nat) : Nat → Nat
  | 0 => s
  | j + 1 => rStep (rSteps s b j) b j
def rBytes (s : Nat) (l : List Int) : Nat := l.foldl (fun s c => rSteps s c.toNat 8) s

theorem rBytes_snoc (s : Nat) (l : List Int) (k : Nat) (h : k < l.length) : rBytes s (l.take (k + 1)) = rSteps (rBytes s (l.take k)) (l[k]?.getD 0).toNat 8 := by
  rw [List.take_succ_eq_append_getElem h, List.getElem?_eq_getElem h]
  unfold rBytes; rw [List.foldl_append]; rfl
theorem rStep_lt {s : Nat} (h : s < 4294967296) (b j : Nat) : rStep s b j < 4294967296 := by
  unfold rStep; split
  · omega
  · exact xor_lt32 (by omega) (by omega)
theorem rSteps_lt {s : Nat} (h : s < 4294967296) (b : Nat) : ∀ j, rSteps s b j < 4294967296
  | 0 => h
  | j + 1 => rStep_lt (rSteps_lt h b j) b j
theorem rBytes_lt : ∀ (l : List Int) (s : Nat), s < 4294967296 → rBytes s l < 4294967296
  | [], _, h => h
  | _ :: l, _, h => rBytes_lt l _ (rSteps_lt h _ 8)

theorem xor_half (a b : Nat) : (a ^^^ b) / 2 = a / 2 ^^^ b / 2 := by
  have := Nat.shiftRight_xor_distrib (a := a) (b := b) (i := 1)
  simpa [Nat.shiftRight_succ] using this
theorem xor_low (a b : Nat) : (a ^^^ b) % 2 = (a % 2 + b % 2) % 2 := by
  have h : (a ^^^ b).testBit 0 = (a.testBit 0 ^^ b.testBit 0) := Nat.testBit_xor a b 0
  simp only [Nat.testBit_zero] at h
  revert h
  rcases Nat.mod_two_eq_zero_or_one a with ha | ha <;> rcases Nat.mod_two_eq_zero_or_one b with hb | hb <;> rcases Nat.mod_two_eq_zero_or_one (a ^^^ b) with hc | hc <;> rw [hc, ha, hb] <;> decide
theorem xor_swap (a b c : Nat) : a ^^^ b ^^^ c = a ^^^ c ^^^ b := by rw [Nat.xor_assoc, Nat.xor_comm b c, ← Nat.xor_assoc]

/-- After j steps the program's number is the document's, with what is left of the byte laid over it. -/
theorem steps_same (s b : Nat) : ∀ j, nSteps j (s ^^^ b) = rSteps s b j ^^^ b / 2 ^ j
  | 0 => by simp [nSteps, rSteps]
  | j + 1 => by
    rw [nSteps, steps_same s b j, rSteps, nStep, rStep, xor_low, xor_half, Nat.div_div_eq_div_mul, ← Nat.pow_succ]
    by_cases h : rSteps s b j % 2 = b / 2 ^ j % 2
    · rw [if_neg (by omega), if_pos h]
    · rw [if_pos (by omega), if_neg h, xor_swap]
theorem byte_same (s b : Nat) (hb : b < 256) : nByte s b = rSteps s b 8 := by
  unfold nByte
  rw [steps_same s b 8, Nat.div_eq_of_lt (by omega), Nat.xor_zero]
theorem bytes_same : ∀ (l : List Int) (s : Nat), okBytes l → nBytes s l = rBytes s l
  | [], _, _ => rfl
  | x :: l, s, hl => by
    have hx := hl x (by simp)
    show nBytes (nByte s x.toNat) l = rBytes (rSteps s x.toNat 8) l
    rw [byte_same s _ (by omega)]
    exact bytes_same l _ fun y hy => hl y (by simp [hy])
theorem not32 (x : Nat) (h : x < 4294967296) : 4294967295 ^^^ x = 4294967295 - x := by
  have h1 : (BitVec.ofNat 32 4294967295 ^^^ BitVec.ofNat 32 x).toNat = 4294967295 ^^^ x := by
    rw [BitVec.toNat_xor, BitVec.toNat_ofNat, BitVec.toNat_ofNat, Nat.mod_eq_of_lt (by omega), Nat.mod_eq_of_lt (by omega)]
  have h2 : BitVec.ofNat 32 4294967295 ^^^ BitVec.ofNat 32 x = ~~~ (BitVec.ofNat 32 x) := by
    have : BitVec.ofNat 32 4294967295 = BitVec.allOnes 32 := by decide
    rw [this, BitVec.allOnes_xor]
  rw [← h1, h2, BitVec.toNat_not, BitVec.toNat_ofNat, Nat.mod_eq_of_lt (by omega)]
/-- THE LAW: the program's sum is the document's. -/
theorem sum_same {l : List Int} (h : okBytes l) : crcSum l = 4294967295 - (rBytes 4294967295 l : Int) := by
  have := rBytes_lt l 4294967295 (by omega)
  rw [crcSum_nat h, nSum, bytes_same l _ h, not32 _ this]
  omega

/-- The document's step, in the walk's words. -/
theorem i64_and1 (n : Int) : bits .and .i64 n 1 = n % 2 := by
  have h1 : (BitVec.ofInt 64 1).toNat = 2 ^ 1 - 1 := by decide
  have key : (BitVec.ofInt 64 n &&& BitVec.ofInt 64 1).toNat = (n % ((2 ^ 64 : Nat) : Int)).toNat % 2 ^ 1 := by
    rw [BitVec.toNat_and, BitVec.toNat_ofInt, h1, Nat.and_two_pow_sub_one_eq_mod]
  show IntKind.i64.wrap ((BitVec.ofInt 64 n &&& BitVec.ofInt 64 1).toNat : Nat) = n % 2
  rw [key, IntKind.wrap_i64]
  omega
theorem i64_xor_nat (a b : Nat) (ha : a < 4611686018427387904) (hb : b < 4611686018427387904) : bits .xor .i64 (a : Int) (b : Int) = ((a ^^^ b : Nat) : Int) := by
  have hx : a ^^^ b < 2 ^ 62 := Nat.xor_lt_two_pow (by omega) (by omega)
  show IntKind.i64.wrap ((BitVec.ofInt 64 (a : Int) ^^^ BitVec.ofInt 64 (b : Int)).toNat : Int) = _
  rw [BitVec.toNat_xor, BitVec.ofInt_natCast, BitVec.ofInt_natCast, BitVec.toNat_ofNat, BitVec.toNat_ofNat, Nat.mod_eq_of_lt (by omega), Nat.mod_eq_of_lt (by omega), IntKind.wrap_i64]
  omega
theorem rstep_bits {s j : Nat} {b : Int} (hb : 0 ≤ b) : (bits .and .i64 (s : Int) 1 != bits .and .i64 (b / 2 ^ j) 1) = decide (s % 2 ≠ b.toNat / 2 ^ j % 2) := by
  obtain ⟨c, rfl⟩ := Int.eq_ofNat_of_zero_le hb
  rw [i64_and1, i64_and1, Int.toNat_natCast]
  have e : ((c : Int) / 2 ^ j) % 2 = ((c / 2 ^ j % 2 : Nat) : Int) := by simp
  rw [e, Bool.eq_iff_iff, bne_iff_ne, decide_eq_true_iff]
  omega
theorem rstep_yes {s j : Nat} {b : Int} (hb : 0 ≤ b) (hs : s < 4294967296) (h : (bits .and .i64 (s : Int) 1 != bits .and .i64 (b / 2 ^ j) 1) = true) :
    bits .xor .i64 ((s : Int) / 2) 3988292384 = (rStep s b.toNat j : Int) := by
  rw [rstep_bits hb, decide_eq_true_iff] at h
  rw [rStep, if_neg h]
  exact i64_xor_nat (s / 2) 3988292384 (by omega) (by omega)
theorem rstep_no {s j : Nat} {b : Int} (hb : 0 ≤ b) (h : (bits .and .i64 (s : Int) 1 != bits .and .i64 (b / 2 ^ j) 1) = false) :
    (s : Int) / 2 = (rStep s b.toNat j : Int) := by
  rw [rstep_bits hb, decide_eq_false_iff_not, Decidable.not_not] at h
  rw [rStep, if_pos h]
  omega

/-! ## One byte changed changes the sum -/
theorem xor_cancel {a b c : Nat} (h : a ^^^ c = b ^^^ c) : a = b := by
  have := congrArg (· ^^^ c) h
  simpa [Nat.xor_assoc] using this
theorem nStep_inj {s t : Nat} (hs : s < 4294967296) (ht : t < 4294967296) (h : nStep s = nStep t) : s = t := by
  unfold nStep at h
  have top : ∀ x : Nat, x < 2147483648 → x ^^^ 3988292384 ≥ 2147483648 := by
    intro x hx
    have hb : (x ^^^ 3988292384).testBit 31 = true := by
      rw [Nat.testBit_xor, Nat.testBit_lt_two_pow (by omega)]; decide
    have := Nat.ge_two_pow_of_testBit hb
    omega
  by_cases h1 : s % 2 = 1 <;> by_cases h2 : t % 2 = 1
  · rw [if_pos h1, if_pos h2] at h
    have := xor_cancel h
    omega
  · rw [if_pos h1, if_neg h2] at h
    have := top (s / 2) (by omega)
    omega
  · rw [if_neg h1, if_pos h2] at h
    have := top (t / 2) (by omega)
    omega
  · rw [if_neg h1, if_neg h2] at h
    omega
theorem nSteps_inj {s t : Nat} (hs : s < 4294967296) (ht : t < 4294967296) : ∀ k, nSteps k s = nSteps k t → s = t
  | 0, h => h
  | k + 1, h => nSteps_inj hs ht k (nStep_inj (nSteps_lt hs k) (nSteps_lt ht k) h)
theorem nByte_inj {s t c : Nat} (hs : s < 4294967296) (ht : t < 4294967296) (hc : c < 4294967296) (h : nByte s c = nByte t c) : s = t :=
  xor_cancel (nSteps_inj (xor_lt32 hs hc) (xor_lt32 ht hc) 8 h)
theorem nBytes_inj : ∀ (l : List Int) {s t : Nat}, s < 4294967296 → t < 4294967296 → okBytes l → nBytes s l = nBytes t l → s = t
  | [], _, _, _, _, _, h => h
  | x :: l, s, t, hs, ht, hl, h => by
    have hx := hl x (by simp)
    exact nByte_inj hs ht (by omega) (nBytes_inj l (nByte_lt hs (by omega)) (nByte_lt ht (by omega)) (fun y hy => hl y (by simp [hy])) h)
/-- THE LAW: of two lists of bytes that part in one place only, the sums part. -/
theorem sum_parts {l r : List Int} {x y : Int} (h : okBytes (l ++ x :: r)) (hy : 0 ≤ y ∧ y < 256) (hne : x ≠ y) : crcSum (l ++ x :: r) ≠ crcSum (l ++ y :: r) := by
  have hx : 0 ≤ x ∧ x < 256 := h x (by simp)
  have hl : okBytes l := fun z hz => h z (by simp [hz])
  have hr : okBytes r := fun z hz => h z (by simp [hz])
  have h' : okBytes (l ++ y :: r) := hl.append fun z hz => by
    rcases List.mem_cons.1 hz with rfl | hz
    · exact hy
    · exact hr z hz
  rw [crcSum_nat h, crcSum_nat h']
  intro e
  have e1 : nSum (l ++ x :: r) = nSum (l ++ y :: r) := by omega
  unfold nSum at e1
  rw [Nat.xor_comm, Nat.xor_comm _ (nBytes _ (l ++ y :: r))] at e1
  have e2 := xor_cancel e1
  unfold nBytes at e2
  rw [List.foldl_append, List.foldl_append, List.foldl_cons, List.foldl_cons] at e2
  have hs := nBytes_lt l 4294967295 (by omega) hl
  have e3 := nBytes_inj r (nByte_lt hs (c := x.toNat) (by omega)) (nByte_lt hs (c := y.toNat) (by omega)) hr e2
  have e4 := nSteps_inj (xor_lt32 hs (by omega)) (xor_lt32 hs (by omega)) 8 e3
  rw [Nat.xor_comm, Nat.xor_comm _ y.toNat] at e4
  have := xor_cancel e4
  omega

/-- A byte that is turned by a number that is not 0 is another byte. -/
theorem xor_byte {a b : Int} (ha : 0 ≤ a ∧ a < 256) (hb : 0 ≤ b ∧ b < 256) (hne : b ≠ 0) : (0 ≤ bits .xor .u8 a b ∧ bits .xor .u8 a b < 256) ∧ a ≠ bits .xor .u8 a b := by
  rw [u8_xor a b ha.1 ha.2 hb.1 hb.2]
  have hlt : a.toNat ^^^ b.toNat < 256 := Nat.xor_lt_two_pow (n := 8) (by omega) (by omega)
  refine ⟨by omega, fun e => ?_⟩
  have e1 : a.toNat ^^^ b.toNat = a.toNat := by omega
  have e2 : b.toNat ^^^ a.toNat = 0 ^^^ a.toNat := by rw [Nat.xor_comm, e1, Nat.zero_xor]
  have := xor_cancel e2
  omega
theorem sum_set {l : List Int} {p : Nat} {y : Int} (h : okBytes l) (hp : p < l.length) (hy : 0 ≤ y ∧ y < 256) (hne : l[p]?.getD 0 ≠ y) : okBytes (l.set p y) ∧ (crcSum (l.set p y) != crcSum l) = true := by
  have e1 : l = l.take p ++ (l[p]?.getD 0) :: l.drop (p + 1) := by
    rw [List.getElem?_eq_getElem hp, Option.getD_some, ← List.drop_eq_getElem_cons hp, List.take_append_drop]
  have e2 : l.set p y = l.take p ++ y :: l.drop (p + 1) := List.set_eq_take_append_cons_drop .. |>.trans (by rw [if_pos hp])
  have h1 : okBytes (l.take p ++ (l[p]?.getD 0) :: l.drop (p + 1)) := by rw [← e1]; exact h
  refine ⟨fun z hz => ?_, ?_⟩
  · rcases List.mem_or_eq_of_mem_set hz with hz | rfl
    · exact h z hz
    · exact hy
  · rw [bne_iff_ne, e2]
    intro e
    have := sum_parts h1 hy hne
    rw [← e1] at this
    exact this e.symm

end Go.Proofs.Ytbgfccfhiocomaa
