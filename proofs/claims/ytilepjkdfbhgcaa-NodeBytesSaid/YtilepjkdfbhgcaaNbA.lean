/- What bytes say of a node: plain. -/
import Derived.Test.YtilepjkdfbhgcaaNdS
import Derived.Test.YtilepjkdfbhgcaaPacksF
import Derived.Test.YtilepjkdfbhgcaaReadsF
import Derived.Test.YtilepjkdfbhgcaaFrameLawF
namespace Go.Proofs.Ytilepjkdfbhgcaa
open Go.RowKit Go.Shelf

/-- A pair's bytes; a node's payload. -/
def pairB (x : Int × Int) : List Int := nb 8 x.1 ++ nb 8 x.2
def nodeB (lv : Int) (xs : List (Int × Int)) : List Int := nb 1 lv ++ (nb 1 (xs.length : Int) ++ xs.flatMap pairB)
theorem pairB_len (x : Int × Int) : (pairB x).length = 16 := by unfold pairB; rw [List.length_append, nb_len, nb_len]
theorem pairB_ok (x : Int × Int) : okBytes (pairB x) := (nb_ok _ 8).append (nb_ok _ 8)
theorem pairsB_len : ∀ xs : List (Int × Int), (xs.flatMap pairB).length = 16 * xs.length
  | [] => rfl
  | x :: xs => by rw [List.flatMap_cons, List.length_append, pairB_len, pairsB_len xs, List.length_cons]; omega
theorem pairsB_ok : ∀ xs : List (Int × Int), okBytes (xs.flatMap pairB)
  | [] => fun x hx => by cases hx
  | x :: xs => by rw [List.flatMap_cons]; exact (pairB_ok x).append (pairsB_ok xs)
theorem nodeB_len (lv : Int) (xs : List (Int × Int)) : (nodeB lv xs).length = 2 + 16 * xs.length := by
  unfold nodeB
  rw [List.length_append, List.length_append, nb_len, nb_len, pairsB_len]
  omega
theorem nodeB_ok (lv : Int) (xs : List (Int × Int)) : okBytes (nodeB lv xs) := (nb_ok _ 1).append ((nb_ok _ 1).append (pairsB_ok xs))
theorem nb1_of {x : Int} (h0 : 0 ≤ x) (h1 : x < 256) : nb 1 x = [x] := by simp [nb]; omega

/-- The number back from its bytes. -/
theorem valOf_app (l : List Int) (c : Int) : valOf (l ++ [c]) = valOf l * 256 + c := by unfold valOf; rw [List.foldl_append]; rfl
theorem nb_snoc : ∀ (m : Nat) (V c : Int), 0 ≤ c ∧ c < 256 → nb (m + 1) (V * 256 + c) = nb m V ++ [c]
  | 0, V, c, h => by simp [nb]; omega
  | m + 1, V, c, h => by
    rw [nb, nb_snoc m V c h, nb, List.cons_append]
    congr 1
    have hp : (256 : Int) ^ (m + 1) = 256 * 256 ^ m := by rw [Int.pow_succ, Int.mul_comm]
    rw [hp, ← Int.ediv_ediv_of_nonneg (show (0 : Int) ≤ 256 by omega)]
    congr 1
    congr 1
    omega
theorem nb_val : ∀ (m : Nat) (l : List Int), okBytes l → l.length = m → nb m (valOf l) = l
  | 0, l, _, hl => by rw [List.eq_nil_of_length_eq_zero hl]; rfl
  | m + 1, l, h, hl => by
    have hne : l ≠ [] := fun e => by rw [e] at hl; cases hl
    have e := (List.dropLast_concat_getLast hne).symm
    have hd : l.dropLast.length = m := by rw [List.length_dropLast]; omega
    have hc := h _ (List.getLast_mem hne)
    generalize l.dropLast = d at *
    generalize l.getLast hne = c at *
    subst e
    rw [valOf_app, nb_snoc m _ c hc, nb_val m d (fun x hx => h x (List.mem_append_left _ hx)) hd]
theorem take8_inv {s r : List Int} {v : Int} (h : okBytes s) (ht : takeOf 8 s false = (v, r, false)) : s = nb 8 v ++ r ∧ okBytes r := by
  unfold takeOf at ht
  split at ht
  · simp at ht
  · rename_i hl
    have hl8 : 8 ≤ s.length := by
      rcases Nat.lt_or_ge s.length 8 with h' | h'
      · exact absurd (.inr h') hl
      · exact h'
    split at ht
    · simp at ht
    · injection ht with h1 h2
      injection h2 with h2 h3
      subst h1
      subst h2
      have := nb_val 8 (s.take 8) (h.take 8) (by rw [List.length_take]; omega)
      rw [this, List.take_append_drop]
      exact ⟨rfl, h.drop 8⟩

/-- One pair is read; so many are read. -/
def rd8 (s : List Int × Bool) : (Int × Int) × (List Int × Bool) :=
  (((takeOf 8 s.1 s.2).1, (takeOf 8 (takeOf 8 s.1 s.2).2.1 (takeOf 8 s.1 s.2).2.2).1), (takeOf 8 (takeOf 8 s.1 s.2).2.1 (takeOf 8 s.1 s.2).2.2).2)
def rd8N : Nat → List Int × Bool → List (Int × Int) × (List Int × Bool)
  | 0, s => ([], s)
  | k + 1, s => ((rd8N k s).1 ++ [(rd8 (rd8N k s).2).1], (rd8 (rd8N k s).2).2)
theorem rd8N_len : ∀ (k : Nat) (s : List Int × Bool), (rd8N k s).1.length = k
  | 0, _ => rfl
  | k + 1, s => by rw [rd8N]; simp [rd8N_len k s]
theorem valOf_nonneg (l : List Int) (h : okBytes l) : 0 ≤ valOf l := by
  have := (valOf_range l.length l h (Nat.le_refl _)).1
  rwa [List.take_length] at this
theorem takeOf_ok {bs : List Int} (h : okBytes bs) (size : Nat) (bad : Bool) : 0 ≤ (takeOf size bs bad).1 ∧ (takeOf size bs bad).1 ≤ 4611686018427387903 ∧ okBytes (takeOf size bs bad).2.1 := by
  unfold takeOf
  split
  · exact ⟨Int.le_refl _, by omega, h⟩
  · split
    · exact ⟨Int.le_refl _, by omega, h.drop _⟩
    · rename_i h2
      exact ⟨valOf_nonneg _ (h.take _), by omega, h.drop _⟩
theorem rd8_ok {s : List Int × Bool} (h : okBytes s.1) : EnOk (rd8 s).1 ∧ okBytes (rd8 s).2.1 := by
  have h1 := takeOf_ok h 8 s.2
  have h2 := takeOf_ok h1.2.2 8 (takeOf 8 s.1 s.2).2.2
  unfold rd8 EnOk I64
  exact ⟨⟨by simp only; omega, by simp only; omega⟩, h2.2.2⟩
theorem rd8N_ok : ∀ (k : Nat) (s : List Int × Bool), okBytes s.1 → (∀ x ∈ (rd8N k s).1, EnOk x) ∧ okBytes (rd8N k s).2.1
  | 0, s, h => ⟨fun x hx => (by cases hx), h⟩
  | k + 1, s, h => by
    obtain ⟨h1, h2⟩ := rd8N_ok k s h
    have h3 := rd8_ok h2
    rw [rd8N]
    refine ⟨fun x hx => ?_, h3.2⟩
    rcases List.mem_append.1 hx with hx | hx
    · exact h1 x hx
    · obtain rfl := List.mem_singleton.1 hx
      exact h3.1

/-- The pair that stands there, as the document reads it; is it one? -/
def pairAt (p : List Int) (i : Nat) : Int × Int := ((readOf 8 (p.drop (2 + 16 * i))).1, (readOf 8 (p.drop (10 + 16 * i))).1)
def pairIs (p : List Int) (i : Nat) : Bool := (readOf 8 (p.drop (2 + 16 * i))).2 && (readOf 8 (p.drop (10 + 16 * i))).2
theorem take8_at {p : List Int} (ok : okBytes p) {j : Nat} (h : (readOf 8 (p.drop j)).2 = true) : takeOf 8 (p.drop j) false = ((readOf 8 (p.drop j)).1, p.drop (j + 8), false) := by
  obtain ⟨h1, h2, h3⟩ := take_read 8 (.inr (.inr (.inr rfl))) (p.drop j) (ok.drop j)
  have h4 := h3 h
  rw [h] at h2
  rw [List.drop_drop] at h4
  exact Prod.ext h1 (Prod.ext h4 h2)
theorem rd8N_good {p : List Int} (ok : okBytes p) : ∀ k : Nat, (∀ i, i < k → pairIs p i = true) → rd8N k (p.drop 2, false) = ((List.range k).map (pairAt p), (p.drop (2 + 16 * k), false))
  | 0, _ => rfl
  | k + 1, h => by
    have ih := rd8N_good ok k fun i hi => h i (by omega)
    have hk := h k (by omega)
    unfold pairIs at hk
    rw [Bool.and_eq_true] at hk
    have h1 := take8_at ok hk.1
    have h2 := take8_at ok hk.2
    rw [show 10 + 16 * k = 2 + 16 * k + 8 by omega] at h2
    rw [rd8N, ih]
    unfold rd8
    simp only [h1, h2]
    rw [List.range_succ, List.map_append]
    simp only [List.map_cons, List.map_nil, pairAt]
    rw [show 10 + 16 * k = 2 + 16 * k + 8 by omega, show 2 + 16 * k + 8 + 8 = 2 + 16 * (k + 1) by omega]
/-- What was read so stood there. -/
theorem rd8N_inv : ∀ (k : Nat) (s r : List Int) (xs : List (Int × Int)), okBytes s → rd8N k (s, false) = (xs, (r, false)) → s = xs.flatMap pairB ++ r
  | 0, s, r, xs, _, h => by
    injection h with h1 h2
    injection h2 with h2 _
    subst h1
    subst h2
    rfl
  | k + 1, s, r, xs, ok, h => by
    have hok := (rd8N_ok k (s, false) ok).2
    rw [rd8N] at h
    injection h with h1 h2
    generalize hz : rd8N k (s, false) = Z at *
    obtain ⟨ys, t, b⟩ := Z
    simp only at h1 h2 hok
    unfold rd8 at h1 h2
    simp only at h1 h2
    have bads : ∀ (size : Nat) (l : List Int), (takeOf size l true).2.2 = true := fun size l => by unfold takeOf; rw [if_pos (.inl rfl)]
    have b2 : (takeOf 8 t b).2.2 = false := by
      cases hb : (takeOf 8 t b).2.2 with
      | false => rfl
      | true =>
        rw [hb] at h2
        have := bads 8 (takeOf 8 t b).2.1
        rw [h2] at this
        cases this
    have b1 : b = false := by
      cases b with
      | false => rfl
      | true => rw [bads] at b2; cases b2
    subst b1
    have e1 : takeOf 8 t false = ((takeOf 8 t false).1, (takeOf 8 t false).2.1, false) := Prod.ext rfl (Prod.ext rfl b2)
    obtain ⟨i1, ok1⟩ := take8_inv hok e1
    rw [b2] at h1 h2
    have e2 : takeOf 8 (takeOf 8 t false).2.1 false = ((takeOf 8 (takeOf 8 t false).2.1 false).1, r, false) := Prod.ext rfl h2
    obtain ⟨i2, _⟩ := take8_inv ok1 e2
    have ih := rd8N_inv k s t ys ok hz
    rw [ih, ← h1, List.flatMap_append, List.append_assoc]
    congr 1
    refine (i1.trans (congrArg _ i2)).trans ?_
    simp [pairB]

/-! ## A payload as a node -/
/-- What the program reads: level, pairs. -/
def rawN (p : List Int) : Int × List (Int × Int) :=
  ((takeOf 1 p false).1, (rd8N (min (takeOf 1 (takeOf 1 p false).2.1 (takeOf 1 p false).2.2).1 7).toNat (takeOf 1 (takeOf 1 p false).2.1 (takeOf 1 p false).2.2).2).1)
def rightX (r : Int × List (Int × Int)) : Bool := rightN r.1 (keysOf r.2) (valsOf r.2)
def okP (p : List Int) : Bool := rightX (rawN p) && decide (nodeB (rawN p).1 (rawN p).2 = p)
/-- What the document reads. -/
def cntOf (p : List Int) : Nat := (p[1]?.getD 0).toNat
def rawD (p : List Int) : Int × List (Int × Int) := (p[0]?.getD 0, (List.range (cntOf p)).map (pairAt p))
def fitD (p : List Int) : Bool := decide (2 ≤ p.length ∧ p.length = 2 + 16 * cntOf p) && (List.range (cntOf p)).all (pairIs p)
def okD (p : List Int) : Bool := fitD p && rightX (rawD p)

theorem rightX_ok {r : Int × List (Int × Int)} (h : rightX r = true) : (0 ≤ r.1 ∧ r.1 ≤ 20 ∧ 1 ≤ r.2.length ∧ r.2.length ≤ 7) ∧ ∀ x ∈ r.2, fitsP x = true := by
  obtain ⟨h1, h2, _, h3, h4, _, h5⟩ := rightN_ok h
  rw [keys_len] at h3 h4
  rw [pairs_of_maps] at h5
  exact ⟨⟨h1, h2, h3, h4⟩, h5⟩
theorem fits8 {x : Int × Int} (h : fitsP x = true) : fits 8 x.1 = true ∧ fits 8 x.2 = true := by
  have := of_decide_eq_true h
  unfold fits
  rw [if_pos rfl, if_pos rfl]
  exact ⟨decide_eq_true ⟨by omega, by omega⟩, decide_eq_true ⟨by omega, by omega⟩⟩
theorem read_nb {x : Int} (h : fits 8 x = true) (r : List Int) (hr : okBytes r) : readOf 8 (nb 8 x ++ r) = (x, true) := by
  have h1 := take_nb (.inr (.inr (.inr rfl))) h r
  obtain ⟨h2, h3, _⟩ := take_read 8 (.inr (.inr (.inr rfl))) (nb 8 x ++ r) ((nb_ok x 8).append hr)
  rw [h1] at h2 h3
  refine Prod.ext h2.symm ?_
  cases hb : (readOf 8 (nb 8 x ++ r)).2 with
  | true => rfl
  | false => rw [hb] at h3; cases h3
theorem pairsB_drop : ∀ (i : Nat) (xs : List (Int × Int)), (xs.flatMap pairB).drop (16 * i) = (xs.drop i).flatMap pairB
  | 0, xs => rfl
  | i + 1, [] => by simp
  | i + 1, x :: xs => by
    have hl := pairB_len x
    rw [List.flatMap_cons, List.drop_append, List.drop_of_length_le (by omega), List.nil_append, hl, show 16 * (i + 1) - 16 = 16 * i by omega, pairsB_drop i xs, List.drop_succ_cons]
theorem nodeB_head {lv : Int} {xs : List (Int × Int)} (h0 : 0 ≤ lv) (h1 : lv < 256) (h2 : xs.length < 256) : nodeB lv xs = lv :: (xs.length : Int) :: xs.flatMap pairB := by
  unfold nodeB
  rw [nb1_of h0 h1, nb1_of (by omega) (by omega)]
  rfl
theorem nodeB_at {lv : Int} {xs : List (Int × Int)} (h0 : 0 ≤ lv) (h1 : lv < 256) (h2 : xs.length < 256) (hf : ∀ x ∈ xs, fitsP x = true) {i : Nat} (hi : i < xs.length) : pairIs (nodeB lv xs) i = true ∧ pairAt (nodeB lv xs) i = xs[i] := by
  have e1 : (nodeB lv xs).drop (2 + 16 * i) = nb 8 xs[i].1 ++ (nb 8 xs[i].2 ++ (xs.drop (i + 1)).flatMap pairB) := by
    rw [nodeB_head h0 h1 h2, show 2 + 16 * i = 16 * i + 1 + 1 by omega, List.drop_succ_cons, List.drop_succ_cons, pairsB_drop, List.drop_eq_getElem_cons hi, List.flatMap_cons]
    simp [pairB]
  have e2 : (nodeB lv xs).drop (10 + 16 * i) = nb 8 xs[i].2 ++ (xs.drop (i + 1)).flatMap pairB := by
    rw [show 10 + 16 * i = (2 + 16 * i) + 8 by omega, ← List.drop_drop, e1, List.drop_append, List.drop_of_length_le (by rw [nb_len]; omega), List.nil_append, nb_len]
    rfl
  obtain ⟨f1, f2⟩ := fits8 (hf _ (List.getElem_mem hi))
  have r1 := read_nb f1 (nb 8 xs[i].2 ++ (xs.drop (i + 1)).flatMap pairB) ((nb_ok _ 8).append (pairsB_ok _))
  have r2 := read_nb f2 ((xs.drop (i + 1)).flatMap pairB) (pairsB_ok _)
  unfold pairIs pairAt
  rw [e1, e2, r1, r2]
  exact ⟨rfl, rfl⟩
theorem range_pairs {p : List Int} {xs : List (Int × Int)} (h : ∀ i (hi : i < xs.length), pairAt p i = xs[i]) : (List.range xs.length).map (pairAt p) = xs := by
  apply List.ext_getElem
  · simp
  · intro i h1 h2
    rw [List.getElem_map, List.getElem_range]
    exact h i h2
theorem take1_at {l : List Int} (ok : okBytes l) {j : Nat} (h : j < l.length) : takeOf 1 (l.drop j) false = (l[j]?.getD 0, l.drop (j + 1), false) := by
  have hg := ok.get j
  rw [List.drop_eq_getElem_cons h]
  rw [show l[j] = l[j]?.getD 0 by rw [List.getElem?_eq_getElem h]; rfl]
  generalize l[j]?.getD 0 = x at *
  unfold takeOf
  rw [if_neg (by simp)]
  have hv : valOf ((x :: l.drop (j + 1)).take 1) = x := by simp [valOf]
  rw [hv, if_neg (by omega)]
  rfl

/-- The two readings are one. -/
theorem parse_same {p : List Int} (ok : okBytes p) : okP p = okD p ∧ (okD p = true → rawN p = rawD p) := by
  have hD : okD p = true → rawN p = rawD p ∧ nodeB (rawN p).1 (rawN p).2 = p := fun h => by
    unfold okD at h
    rw [Bool.and_eq_true] at h
    obtain ⟨hf, hr⟩ := h
    unfold fitD at hf
    rw [Bool.and_eq_true] at hf
    obtain ⟨hl1, hl2⟩ := of_decide_eq_true hf.1
    have hall := List.all_eq_true.1 hf.2
    obtain ⟨⟨_, _, hc1, hc7⟩, _⟩ := rightX_ok hr
    have hcl : (rawD p).2.length = cntOf p := by simp [rawD]
    rw [hcl] at hc1 hc7
    have g0 := ok.get 0
    have g1 := ok.get 1
    have hp1 : p[1]?.getD 0 = (cntOf p : Int) := by unfold cntOf; omega
    have t0 := take1_at ok (j := 0) (by omega)
    have t1 := take1_at ok (j := 1) (by omega)
    rw [List.drop_zero] at t0
    have hg := rd8N_good ok (cntOf p) fun i hi => hall i (List.mem_range.2 hi)
    have hraw : rawN p = rawD p := by
      unfold rawN rawD
      rw [t0]
      simp only [t1, hp1]
      rw [show (min (cntOf p : Int) 7).toNat = cntOf p by omega, hg]
    refine ⟨hraw, ?_⟩
    have hinv := rd8N_inv (cntOf p) (p.drop 2) (p.drop (2 + 16 * cntOf p)) _ (ok.drop 2) hg
    rw [List.drop_of_length_le (l := p) (i := 2 + 16 * cntOf p) (by omega), List.append_nil] at hinv
    rw [hraw]
    have h8 : (rawD p).2.length < 256 := by rw [hcl]; omega
    rw [nodeB_head (lv := (rawD p).1) (by exact g0.1) (by exact g0.2) h8, hcl]
    show p[0]?.getD 0 :: (cntOf p : Int) :: ((List.range (cntOf p)).map (pairAt p)).flatMap pairB = p
    rw [← hinv, ← hp1]
    match p, hl1 with
    | x :: y :: t, _ => rfl
  have hP : okP p = true → okD p = true := fun h => by
    unfold okP at h
    rw [Bool.and_eq_true] at h
    obtain ⟨hr, hb⟩ := h
    have hb := of_decide_eq_true hb
    obtain ⟨⟨h0, h1, h2, h3⟩, hf⟩ := rightX_ok hr
    generalize rawN p = r at *
    obtain ⟨lv, xs⟩ := r
    simp only at *
    have hh := nodeB_head (lv := lv) (xs := xs) h0 (by omega) (by omega)
    have hcnt : cntOf p = xs.length := by unfold cntOf; rw [← hb, hh]; simp
    have hat := fun i (hi : i < xs.length) => nodeB_at h0 (show lv < 256 by omega) (show xs.length < 256 by omega) hf hi
    rw [hb] at hat
    have hrawD : rawD p = (lv, xs) := by
      unfold rawD
      rw [hcnt, range_pairs fun i hi => (hat i hi).2, ← hb, hh]
      rfl
    unfold okD fitD
    rw [hrawD, hr, Bool.and_true, Bool.and_eq_true]
    refine ⟨decide_eq_true ?_, List.all_eq_true.2 fun i hi => (hat i (by rw [← hcnt]; exact List.mem_range.1 hi)).1⟩
    rw [hcnt]
    have := nodeB_len lv xs
    rw [hb] at this
    omega
  refine ⟨?_, fun h => (hD h).1⟩
  rw [Bool.eq_iff_iff]
  refine ⟨hP, fun h => ?_⟩
  obtain ⟨h1, h2⟩ := hD h
  unfold okP
  rw [Bool.and_eq_true]
  refine ⟨?_, decide_eq_true h2⟩
  rw [h1]
  unfold okD at h
  rw [Bool.and_eq_true] at h
  exact h.2

/-! ## A sector as a node -/
/-- What a right frame of kind k holds, it is the frame of. -/
theorem frame_of_get {k : Int} {l p : List Int} (ok : okBytes l) (h : getOf k l = (0, p)) : l = frameOf k p ∧ p.length ≤ 122 ∧ okBytes p := by
  unfold getOf at h
  split at h
  · cases h
  rename_i hl
  split at h
  · cases h
  rename_i hs
  split at h
  · cases h
  rename_i hk
  have hl : l.length = 128 := Decidable.byContradiction fun e => hl e
  have hs : l.drop 124 = be32 (crcSum (l.take 124)) := Decidable.byContradiction fun e => hs e
  have hk : l[0]?.getD 0 = k := Decidable.byContradiction fun e => hk e
  cases hb : bodyOf l with
  | none => rw [hb] at h; cases h
  | some p' =>
    rw [hb] at h
    injection h with _ h
    subst h
    unfold bodyOf at hb
    split at hb
    · cases hb
    rename_i hn
    injection hb with hb
    have g1 := ok.get 1
    match l, hl with
    | x :: y :: t, hl =>
      simp only [List.length_cons] at hl
      obtain rfl : x = k := hk
      have g1 : 0 ≤ y ∧ y < 256 := g1
      obtain ⟨m, rfl⟩ := Int.eq_ofNat_of_zero_le g1.1
      have hm : m ≤ 122 := by
        have : ¬ (122 : Int) < (m : Int) := fun e => hn (.inl e)
        omega
      have hy1 : ((x :: ((m : Nat) : Int) :: t : List Int)[1]?.getD 0).toNat = m := Int.toNat_natCast m
      have hz : ((t.take 122).drop m).all (· == 0) = true := by
        cases hz : ((t.take 122).drop m).all (· == 0) with
        | true => rfl
        | false =>
          refine absurd (.inr ?_) hn
          rw [hy1, show 2 + m = m + 1 + 1 by omega]
          simpa using hz
      have hp : p' = t.take m := by
        rw [← hb, hy1, show 2 + m = m + 1 + 1 by omega]
        simp
      have hpl : p'.length = m := by rw [hp, List.length_take]; omega
      have hrep : (t.take 122).drop m = List.replicate (122 - m) 0 := by
        rw [List.eq_replicate_iff]
        refine ⟨by rw [List.length_drop, List.length_take]; omega, fun b hb => ?_⟩
        have := List.all_eq_true.1 hz b hb
        simpa using this
      have hhead : (x :: (m : Int) :: t).take 124 = frameHead x p' := by
        unfold frameHead
        rw [hpl, List.take_succ_cons, List.take_succ_cons]
        congr 2
        rw [← hrep, hp]
        have := List.take_append_drop m (t.take 122)
        rw [List.take_take, Nat.min_eq_left hm] at this
        exact this.symm
      refine ⟨?_, by omega, ?_⟩
      · unfold frameOf
        rw [← hhead, ← hs, List.take_append_drop]
      · rw [hp]
        exact fun z hz => ok z (List.mem_cons_of_mem _ (List.mem_cons_of_mem _ (List.mem_of_mem_take hz)))
theorem frame_inj {k : Int} {l m : List Int} (hl : l.length ≤ 122) (hm : m.length ≤ 122) (h : frameOf k l = frameOf k m) : l = m := by
  have h1 := frame_body (k := k) hl
  rw [h, frame_body hm] at h1
  injection h1 with h1
  exact h1.symm
/-- The error's number, and the node. -/
def parsN (l : List Int) : Int × Int × List (Int × Int) := if (getOf 2 l).1 = 0 ∧ okD (getOf 2 l).2 = true then (0, rawD (getOf 2 l).2) else (70, 0, [])

end Go.Proofs.Ytilepjkdfbhgcaa
