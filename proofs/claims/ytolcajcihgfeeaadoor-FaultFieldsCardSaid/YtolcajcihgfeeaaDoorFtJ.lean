/- strconv.Itoa by contract (the library's contract, its numbers those of this seat's dump: laysItoa was printed by lay-plain.mjs), and the reference's Digits: both are the decimal numeral. -/
import Derived.Test.YtolcajcihgfeeaaDoorFtI
import Derived.Shelf.Strconv.Itoa0
import Derived.Shelf.Strconv.Itoa1
import Derived.Shelf.LaysM
import Derived.Shelf.Strconv.Itoa2
import Derived.Shelf.Strconv.Itoa3
import Derived.IntWalk
import Derived.Lib.ItoaLen
import Derived.Deep.RegionWith
namespace Go.Proofs.YtolcajcihgfeeaaDoor
open Go.RowKit Go.Shelf Go.Sort

def laysItoa_ren : Go.Shelf.Ren := ⟨fun | 171 => 29 | 243 => 36 | 246 => 39 | 283 => 40 | 284 => 41 | 285 => 42 | 286 => 43 | 129 => 45 | 317 => 44 | 318 => 46 | 319 => 47 | 320 => 48 | 337 => 49 | 338 => 50 | n => n, fun | 3 => 3 | 9 => 9 | 2 => 2 | 4 => 4 | 171 => 99 | 0 => 0 | 53 => 100 | 37 => 92 | 5 => 5 | 173 => 103 | 212 => 107 | 51 => 108 | 20 => 20 | 213 => 109 | 46 => 111 | 232 => 114 | 233 => 115 | n => n, fun | 17 => 1 | 18 => 2 | 19 => 3 | n => n⟩
theorem laysItoa : Go.Proofs.LaysM.n171 Tryd.prog laysItoa_ren := {
  mixed := by kernel_rfl
  f129 := Tryd.func45.trans (congrArg some (by kernel_rfl))
  f171 := Tryd.func29.trans (congrArg some (by kernel_rfl))
  f243 := Tryd.func36.trans (congrArg some (by kernel_rfl))
  f246 := Tryd.func39.trans (congrArg some (by kernel_rfl))
  f283 := Tryd.func40.trans (congrArg some (by kernel_rfl))
  f284 := Tryd.func41.trans (congrArg some (by kernel_rfl))
  f285 := Tryd.func42.trans (congrArg some (by kernel_rfl))
  f286 := Tryd.func43.trans (congrArg some (by kernel_rfl))
  f317 := Tryd.func44.trans (congrArg some (by kernel_rfl))
  f318 := Tryd.func46.trans (congrArg some (by kernel_rfl))
  f319 := Tryd.func47.trans (congrArg some (by kernel_rfl))
  f320 := Tryd.func48.trans (congrArg some (by kernel_rfl))
  f337 := Tryd.func49.trans (congrArg some (by kernel_rfl))
  f338 := Tryd.func50.trans (congrArg some (by kernel_rfl))
  t0 := Tryd.underlying0
  a0 := Tryd.isAgg0
  z0 := Tryd.sizeOf0
  v0 := Tryd.zeroValue0
  t2 := Tryd.underlying2
  a2 := Tryd.isAgg2
  z2 := Tryd.sizeOf2
  v2 := Tryd.zeroValue2
  t3 := Tryd.underlying3
  a3 := Tryd.isAgg3
  z3 := Tryd.sizeOf3
  v3 := Tryd.zeroValue3
  t4 := Tryd.underlying4
  a4 := Tryd.isAgg4
  z4 := Tryd.sizeOf4
  v4 := Tryd.zeroValue4
  t5 := Tryd.underlying5
  a5 := Tryd.isAgg5
  z5 := Tryd.sizeOf5
  v5 := Tryd.zeroValue5
  t9 := Tryd.underlying9
  a9 := Tryd.isAgg9
  z9 := Tryd.sizeOf9
  v9 := Tryd.zeroValue9
  t20 := Tryd.underlying20
  a20 := Tryd.isAgg20
  z20 := Tryd.sizeOf20
  v20 := Tryd.zeroValue20
  t37 := Tryd.underlying92
  a37 := Tryd.isAgg92
  z37 := Tryd.sizeOf92
  v37 := Tryd.zeroValue92
  t46 := Tryd.underlying111
  a46 := Tryd.isAgg111
  z46 := Tryd.sizeOf111
  v46 := Tryd.zeroValue111
  t51 := Tryd.underlying108
  a51 := Tryd.isAgg108
  z51 := Tryd.sizeOf108
  v51 := Tryd.zeroValue108
  t53 := Tryd.underlying100
  a53 := Tryd.isAgg100
  z53 := Tryd.sizeOf100
  v53 := Tryd.zeroValue100
  t171 := Tryd.underlying99
  a171 := Tryd.isAgg99
  z171 := Tryd.sizeOf99
  v171 := Tryd.zeroValue99
  t173 := Tryd.underlying103
  a173 := Tryd.isAgg103
  z173 := Tryd.sizeOf103
  v173 := Tryd.zeroValue103
  t212 := Tryd.underlying107
  a212 := Tryd.isAgg107
  z212 := Tryd.sizeOf107
  v212 := Tryd.zeroValue107
  t213 := Tryd.underlying109
  a213 := Tryd.isAgg109
  z213 := Tryd.sizeOf109
  t232 := Tryd.underlying114
  a232 := Tryd.isAgg114
  z232 := Tryd.sizeOf114
  v232 := Tryd.zeroValue114
  t233 := Tryd.underlying115
  a233 := Tryd.isAgg115
  z233 := Tryd.sizeOf115
  v233 := Tryd.zeroValue115
  g17 := by kernel_rfl
  g18 := by kernel_rfl
  g19 := by kernel_rfl
  i0 := by kernel_rfl
  i2 := by kernel_rfl
  i3 := by kernel_rfl
  i4 := by kernel_rfl
  i5 := by kernel_rfl
  i9 := by kernel_rfl
  i20 := by kernel_rfl
  i37 := by kernel_rfl
  i46 := by kernel_rfl
  i51 := by kernel_rfl
  i53 := by kernel_rfl
  i171 := by kernel_rfl
  i173 := by kernel_rfl
  i212 := by kernel_rfl
  i232 := by kernel_rfl
  i233 := by kernel_rfl
  m17 := by kernel_rfl
  m18 := by kernel_rfl
  m19 := by kernel_rfl }

/-- A text as a value. -/
abbrev strV (l : List UInt8) : Value := .string ⟨l.toArray⟩
/-- The library's table of powers, laid. -/
def PowT (w : World) : Prop := Lib.TabIs Tryd.prog w "internal/strconv.uint64pow10" .u64 Lib.pow10Tab
theorem below_growF (w : World) (k : Nat) (os : Array Obj) : Below w.heap.size w (Go.Sort.grow (w.drewN k) os) :=
  ⟨rfl, rfl, rfl, by show w.heap.size ≤ (w.heap ++ os).size; rw [Array.size_append]; omega, fun j hj => by show (w.heap ++ os)[j]? = _; rw [Array.getElem?_append_left hj]⟩
theorem itoa_any (n : Int) (w : World) (hn : I64 n) (ht : PowT w) :
    Calls Tryd.prog 29 #[.int .i64 n] w fun e w' => e = .returned (strV (Lib.itoa n)) ∧ Below w.heap.size w w' :=
  (Any.strconv_Itoa laysItoa n hn.1 hn.2 w ht).mono fun e w' ⟨he, k, os, hw⟩ => ⟨he, by rw [hw]; exact below_growF w k os⟩

/-! ## The numeral, by Go's division -/
theorem itoa_small (n : Nat) (h : n < 10) : Lib.itoa (n : Int) = [UInt8.ofNat (48 + n)] := by
  unfold Lib.itoa
  rw [if_neg (by omega), Int.toNat_natCast, Lib.decDigits_one h]
theorem itoa_smallneg (n : Nat) (h : n < 10) (h0 : 0 < n) : Lib.itoa (-(n : Int)) = [45, UInt8.ofNat (48 + n)] := by
  unfold Lib.itoa
  rw [if_pos (by omega), Int.natAbs_neg, Int.natAbs_natCast, Lib.decDigits_one h]
theorem decDigits_step (u : Nat) (h : ¬ u < 10) : Lib.decDigits u = Lib.decDigits (u / 10) ++ [UInt8.ofNat (48 + u % 10)] := by
  conv => lhs; rw [Lib.decDigits]
  rw [dif_neg h]
theorem itoa_step (n : Nat) (h : ¬ n < 10) : Lib.itoa (n : Int) = Lib.itoa ((n / 10 : Nat) : Int) ++ [UInt8.ofNat (48 + n % 10)] := by
  unfold Lib.itoa
  rw [if_neg (by omega), if_neg (by omega), Int.toNat_natCast, Int.toNat_natCast, decDigits_step n h]
theorem itoa_stepneg (n : Nat) (h : ¬ n < 10) : Lib.itoa (-(n : Int)) = Lib.itoa (-((n / 10 : Nat) : Int)) ++ [UInt8.ofNat (48 + n % 10)] := by
  unfold Lib.itoa
  rw [if_pos (by omega), if_pos (by omega), Int.natAbs_neg, Int.natAbs_natCast, Int.natAbs_neg, Int.natAbs_natCast, decDigits_step n h]
  rfl

theorem below_step2 {w w1 w2 : World} (h1 : Below w.heap.size w w1) (h2 : Below w1.heap.size w1 w2) : Below w.heap.size w w2 := h1.trans (h2.mono h1.size)
theorem str_add (x y : List UInt8) : Value.string (⟨x.toArray⟩ ++ ⟨y.toArray⟩) = strV (x ++ y) := by rw [ByteArray.mk_append_mk]
theorem bcellF {W w1 : World} (hb : Below W.heap.size W w1) : (∀ b o, b < W.heap.size → w1.cell? ⟨b, o, none⟩ = W.cell? ⟨b, o, none⟩) ∧ (∀ b o, b < W.heap.size → w1.frozen? ⟨b, o, none⟩ = W.frozen? ⟨b, o, none⟩) :=
  ⟨fun b o h => hb.cell (p := ⟨b, o, none⟩) h, fun b o h => hb.frozen (p := ⟨b, o, none⟩) h⟩
theorem conv_one (x : Int) (W : World) (b : Nat) (h : W.cell? ⟨b, 0, none⟩ = some (.int .u8 x)) :
    (convert 92 9 (.slice (some ⟨b, 0, none⟩) 1 1)).run Tryd.prog W = .ok (.string ⟨#[UInt8.ofNat x.toNat]⟩) W :=
  run_convert_bytes_arg (P := Tryd.prog) W 92 5 Tryd.underlying92 Tryd.underlying5 b 0 1 1 [x] rfl (fun i hi => by
    obtain rfl : i = 0 := by omega
    exact h) 9 Tryd.underlying9
set_option maxRecDepth 20000 in
set_option maxHeartbeats 4000000 in
theorem digits_small (z : Int) (h : 0 ≤ z) (h2 : z < 10) (w : World) :
    Calls Tryd.prog 30 #[.int .i64 z] w fun e w' => e = .returned (strV [UInt8.ofNat (48 + z).toNat]) ∧ Below w.heap.size w w' := by
  have hc := conv_one (48 + z) (w.alloc (.cells #[.int .u8 (48 + z)] 5)) w.heap.size (by simp)
  go_enter Tryd.func30, Tryd.ntmps30
  go_wp2_with fail
  go_ret
  exact ⟨rfl, below_alF _⟩
set_option maxRecDepth 20000 in
set_option maxHeartbeats 4000000 in
theorem digits_smallneg (z : Int) (h : z < 0) (h2 : -10 < z) (w : World) :
    Calls Tryd.prog 30 #[.int .i64 z] w fun e w' => e = .returned (strV [45, UInt8.ofNat (48 - z).toNat]) ∧ Below w.heap.size w w' := by
  have hc := conv_one (48 - z) (w.alloc (.cells #[.int .u8 (48 - z)] 5)) w.heap.size (by simp)
  go_enter Tryd.func30, Tryd.ntmps30
  go_wp2_with fail
  go_ret
  exact ⟨rfl, below_alF _⟩
set_option maxRecDepth 20000 in
set_option maxHeartbeats 8000000 in
theorem digits_stepA (z Q D : Int) (hz : z ≤ -10 ∨ 10 ≤ z) (h1 : -9223372036854775808 ≤ z) (h2 : z ≤ 9223372036854775807) (hq : z.tdiv 10 = Q) (hd : z.tmod 10 = D) (hD0 : 0 ≤ D) (hD1 : D < 10) (hQ1 : -9223372036854775808 ≤ Q) (hQ2 : Q ≤ 9223372036854775807) (w : World) (l : List UInt8) (hl : l.length ≤ 100) (IH : ∀ W, Calls Tryd.prog 30 #[.int .i64 Q] W fun e w' => e = .returned (strV l) ∧ Below W.heap.size W w') :
    Calls Tryd.prog 30 #[.int .i64 z] w fun e w' => e = .returned (strV (l ++ [UInt8.ofNat (48 + D).toNat])) ∧ Below w.heap.size w w' := by
  have HI := mkHid IH
  clear IH
  have hw1 : IntKind.i64.wrap (48 + D) = 48 + D := IntWalk.i64_in _ ⟨by omega, by omega⟩
  have hw2 : IntKind.u8.wrap (48 + D) = 48 + D := IntWalk.u8_in _ ⟨by omega, by omega⟩
  have hw3 : IntKind.i64.wrap Q = Q := IntWalk.i64_in _ ⟨hQ1, hQ2⟩
  have HW := mkHid (And.intro hw1 (And.intro hw2 hw3))
  clear hw1 hw2 hw3
  have HCV := mkHid (conv_one (48 + D))
  rcases hz with hz | hz
  all_goals
    go_enter Tryd.func30, Tryd.ntmps30
    go_wp2_with fail
    obtain ⟨hw1, hw2, hw3⟩ := HW.out
    have hl1 : ¬ 9223372036854775807 < l.length + 1 := by omega
    have hl2 : ¬ 9223372036854775807 ≤ l.length := by omega
    have hl3 : l.length < 9223372036854775807 := by omega
    have hcv := HCV.out
    go_region_with ((go_at_call 30; refine (HI.out _).mono ?_; rintro e w1 ⟨rfl, hb⟩; obtain ⟨hbc, hbf⟩ := bcellF hb; have HBB := mkHid hb; clear hb))
    all_goals
      clear hw1 hw2 hw3 hcv hl1 hl2 hl3
      go_wp2_with fail
      go_ret
      refine ⟨congrArg Ending.returned (str_add l [UInt8.ofNat (48 + D).toNat]), ?_⟩
      first
        | exact HBB.out
        | exact HBB.out.drew
        | exact HBB.out.alloc HBB.out.size _
        | exact (HBB.out.alloc HBB.out.size _).drew
        | exact HBB.out.drew.alloc HBB.out.size _
        | exact below_step2 (below_alF _) HBB.out
        | exact below_step2 (below_alF _).drew HBB.out
        | exact (below_step2 (below_alF _) HBB.out).drew
        | exact (below_step2 (below_alF _).drew HBB.out).drew
        | exact (below_step2 (Below.refl _ _).drew HBB.out).alloc HBB.out.size _
        | exact (below_step2 (Below.refl _ _).drew HBB.out).alloc (by simpa using HBB.out.size) _
set_option maxRecDepth 20000 in
set_option maxHeartbeats 8000000 in
theorem digits_stepB (z Q D : Int) (hz : z ≤ -10 ∨ 10 ≤ z) (h1 : -9223372036854775808 ≤ z) (h2 : z ≤ 9223372036854775807) (hq : z.tdiv 10 = Q) (hd : z.tmod 10 = -D) (hD0 : 0 < D) (hD1 : D < 10) (hQ1 : -9223372036854775808 ≤ Q) (hQ2 : Q ≤ 9223372036854775807) (w : World) (l : List UInt8) (hl : l.length ≤ 100) (IH : ∀ W, Calls Tryd.prog 30 #[.int .i64 Q] W fun e w' => e = .returned (strV l) ∧ Below W.heap.size W w') :
    Calls Tryd.prog 30 #[.int .i64 z] w fun e w' => e = .returned (strV (l ++ [UInt8.ofNat (48 + D).toNat])) ∧ Below w.heap.size w w' := by
  have HI := mkHid IH
  clear IH
  have hw1 : IntKind.i64.wrap (48 + D) = 48 + D := IntWalk.i64_in _ ⟨by omega, by omega⟩
  have hw2 : IntKind.u8.wrap (48 + D) = 48 + D := IntWalk.u8_in _ ⟨by omega, by omega⟩
  have hw3 : IntKind.i64.wrap Q = Q := IntWalk.i64_in _ ⟨hQ1, hQ2⟩
  have HW := mkHid (And.intro hw1 (And.intro hw2 hw3))
  clear hw1 hw2 hw3
  have HCV := mkHid (conv_one (48 + D))
  rcases hz with hz | hz
  all_goals
    go_enter Tryd.func30, Tryd.ntmps30
    go_wp2_with fail
    obtain ⟨hw1, hw2, hw3⟩ := HW.out
    have hl1 : ¬ 9223372036854775807 < l.length + 1 := by omega
    have hl2 : ¬ 9223372036854775807 ≤ l.length := by omega
    have hl3 : l.length < 9223372036854775807 := by omega
    have hcv := HCV.out
    go_region_with ((go_at_call 30; refine (HI.out _).mono ?_; rintro e w1 ⟨rfl, hb⟩; obtain ⟨hbc, hbf⟩ := bcellF hb; have HBB := mkHid hb; clear hb))
    all_goals
      clear hw1 hw2 hw3 hcv hl1 hl2 hl3
      go_wp2_with fail
      go_ret
      refine ⟨congrArg Ending.returned (str_add l [UInt8.ofNat (48 + D).toNat]), ?_⟩
      first
        | exact HBB.out
        | exact HBB.out.drew
        | exact HBB.out.alloc HBB.out.size _
        | exact (HBB.out.alloc HBB.out.size _).drew
        | exact HBB.out.drew.alloc HBB.out.size _
        | exact below_step2 (below_alF _) HBB.out
        | exact below_step2 (below_alF _).drew HBB.out
        | exact (below_step2 (below_alF _) HBB.out).drew
        | exact (below_step2 (below_alF _).drew HBB.out).drew
        | exact (below_step2 (Below.refl _ _).drew HBB.out).alloc HBB.out.size _
        | exact (below_step2 (Below.refl _ _).drew HBB.out).alloc (by simpa using HBB.out.size) _

/-- The reference's digits are the numeral. -/
theorem digits_any : ∀ (N : Nat) (z : Int), z.natAbs < N → -9223372036854775808 ≤ z → z ≤ 9223372036854775807 → ∀ w : World,
    Calls Tryd.prog 30 #[.int .i64 z] w fun e w' => e = .returned (strV (Lib.itoa z)) ∧ Below w.heap.size w w'
  | 0, z, h, _, _, _ => absurd h (by omega)
  | N + 1, z, hN, h1, h2, w => by
    by_cases hs : -10 < z ∧ z < 10
    · by_cases h0 : 0 ≤ z
      · obtain ⟨n, rfl⟩ := Int.eq_ofNat_of_zero_le h0
        rw [itoa_small n (by omega)]
        have h := digits_small (n : Int) h0 hs.2 w
        rwa [show (48 + (n : Int)).toNat = 48 + n by omega] at h
      · obtain ⟨n, hn⟩ : ∃ n : Nat, z = -(n : Int) := ⟨z.natAbs, by omega⟩
        subst hn
        rw [itoa_smallneg n (by omega) (by omega)]
        have h := digits_smallneg (-(n : Int)) (by omega) hs.1 w
        rwa [show (48 - -(n : Int)).toNat = 48 + n by omega] at h
    · by_cases h0 : 0 ≤ z
      · obtain ⟨n, rfl⟩ := Int.eq_ofNat_of_zero_le h0
        rw [itoa_step n (by omega)]
        have h := digits_stepA (n : Int) ((n / 10 : Nat) : Int) ((n % 10 : Nat) : Int) (.inr (by omega)) h1 h2 (by rw [Int.tdiv_eq_ediv_of_nonneg h0]; omega) (by rw [Int.tmod_eq_emod_of_nonneg h0]; omega) (by omega) (by omega) (by omega) (by omega) w _ (by have := Lib.itoa_length_le ((n / 10 : Nat) : Int) (by omega) (by omega); omega) (fun W => digits_any N ((n / 10 : Nat) : Int) (by omega) (by omega) (by omega) W)
        rwa [show (48 + ((n % 10 : Nat) : Int)).toNat = 48 + n % 10 by omega] at h
      · obtain ⟨n, hn⟩ : ∃ n : Nat, z = -(n : Int) := ⟨z.natAbs, by omega⟩
        subst hn
        rw [itoa_stepneg n (by omega)]
        have hq : (-(n : Int)).tdiv 10 = -((n / 10 : Nat) : Int) := by rw [Int.neg_tdiv, Int.tdiv_eq_ediv_of_nonneg (by omega)]; omega
        have hm : (-(n : Int)).tmod 10 = -((n % 10 : Nat) : Int) := by rw [Int.neg_tmod, Int.tmod_eq_emod_of_nonneg (by omega)]; omega
        have hlen : (Lib.itoa (-((n / 10 : Nat) : Int))).length ≤ 100 := by have := Lib.itoa_length_le (-((n / 10 : Nat) : Int)) (by omega) (by omega); omega
        by_cases hz : n % 10 = 0
        · have h := digits_stepA (-(n : Int)) (-((n / 10 : Nat) : Int)) ((n % 10 : Nat) : Int) (.inl (by omega)) h1 h2 hq (by rw [hm, hz]; rfl) (by omega) (by omega) (by omega) (by omega) w _ hlen (fun W => digits_any N (-((n / 10 : Nat) : Int)) (by omega) (by omega) (by omega) W)
          rwa [show (48 + ((n % 10 : Nat) : Int)).toNat = 48 + n % 10 by omega] at h
        · have h := digits_stepB (-(n : Int)) (-((n / 10 : Nat) : Int)) ((n % 10 : Nat) : Int) (.inl (by omega)) h1 h2 hq hm (by omega) (by omega) (by omega) (by omega) w _ hlen (fun W => digits_any N (-((n / 10 : Nat) : Int)) (by omega) (by omega) (by omega) W)
          rwa [show (48 + ((n % 10 : Nat) : Int)).toNat = 48 + n % 10 by omega] at h
end Go.Proofs.YtolcajcihgfeeaaDoor
