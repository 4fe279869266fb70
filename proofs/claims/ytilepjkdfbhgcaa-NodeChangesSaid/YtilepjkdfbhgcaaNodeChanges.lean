/- portagelaw10.NodeChanges answers true. -/
import Derived.Test.YtilepjkdfbhgcaaNdAB
import Derived.Test.YtilepjkdfbhgcaaNdAE
namespace Go.Proofs.Ytilepjkdfbhgcaa
open Go.RowKit Go.Shelf

theorem cell_al {w : World} {p : Addr} {v : Value} (h : w.cell? p = some v) (o : Obj) : (w.alloc o).cell? p = some v := by
  have hlt : p.block < w.heap.size := by
    rcases Nat.lt_or_ge p.block w.heap.size with h1 | h1
    · exact h1
    · have h2 : w.heap[p.block]? = none := Array.getElem?_eq_none h1
      simp [World.cell?, h2] at h
  exact (World.cell?_of_block (w := w) (a := p) (Below.heap_alloc w o p.block hlt)).trans h
theorem at_world {P : Program} {o : Oper} {a : Act} {K : Act → World → Prop} {Q : Exit → Act → World → Prop} {c : Prop} [Decidable c] {E : Prop} (w : World) (h : if c then Oper.wp P o a w K Q else E) : if c then Oper.wp P o a w K Q else E := h
theorem cell_dr {w : World} {p : Addr} {v : Value} (h : w.cell? p = some v) : w.drew.cell? p = some v := h
/-- Two rows under way, and a pair's block, behind world w9. -/
structure KV (w9 w : World) (A : Option Addr) (p C : Nat) (xs : List Value) (A' : Option Addr) (p' C' : Nat) (ys : List Value) (q : Nat) (x y : Int) : Prop where
  ko : w.ownsRow w9.heap.size 3 1 (.slice A p C) p xs
  vo : w.ownsRow w9.heap.size 3 1 (.slice A' p' C') p' ys
  ap : ∀ g, (Value.slice A p C).ownBlock = some g → (Value.slice A' p' C').ownBlock ≠ some g
  ka : ∀ g, (Value.slice A p C).ownBlock = some g → g ≠ q
  va : ∀ g, (Value.slice A' p' C').ownBlock = some g → g ≠ q
  be : Below w9.heap.size w9 w
  q0 : w.heap[q]? = some (.cells #[.int .i64 x, .int .i64 y] 52 (0, 0))
theorem KV.cells {w9 w : World} {A A' : Option Addr} {p C p' C' q : Nat} {xs ys : List Value} {x y : Int} (h : KV w9 w A p C xs A' p' C' ys q x y) : w.cell? ⟨q, 0, none⟩ = some (.int .i64 x) ∧ w.cell? ⟨q, 1, none⟩ = some (.int .i64 y) :=
  ⟨cell_of_row w q 0 _ _ _ h.q0, cell_of_row w q 1 _ _ _ h.q0⟩
theorem KV.lt {w9 w : World} {A A' : Option Addr} {p C p' C' q : Nat} {xs ys : List Value} {x y : Int} (h : KV w9 w A p C xs A' p' C' ys q x y) : q < w.heap.size := (Array.getElem?_eq_some_iff.1 h.q0).1
theorem KV.key {w9 w0 w w' : World} {A A' A3 : Option Addr} {p C p' C' q p3 C3 : Nat} {xs ys xs3 : List Value} {x y : Int} (h : KV w9 w0 A p C xs A' p' C' ys q x y) (hb : Below w0.heap.size w0 w)
    (ho : w'.ownsRow w9.heap.size 3 1 (.slice A3 p3 C3) p3 xs3) (hg : w.grownBy w' (Value.slice A p C).ownBlock) (hd : (Value.slice A3 p3 C3).ownBlock = (Value.slice A p C).ownBlock ∨ (Value.slice A3 p3 C3).ownBlock = some w.heap.size) :
    KV w9 w' A3 p3 C3 xs3 A' p' C' ys q x y ∧ ∀ b, w0.heap.size ≤ b → b < w.heap.size → w'.heap[b]? = w.heap[b]? := by
  have hs := hb.size
  have hlt := h.lt
  have hold : ∀ b, b < w0.heap.size → (Value.slice A p C).ownBlock ≠ some b → w'.heap[b]? = w0.heap[b]? := fun b hb1 hb2 => (hg.block b (by omega) (fun e => hb2 e.symm)).trans (hb.block b hb1)
  refine ⟨⟨ho, own_blk h.vo fun g hg' => hold g (h.vo.lt g hg').2 (fun e => h.ap g e hg'), fun g h1 h2 => ?_, fun g h1 => ?_, h.va, (h.be.trans (hb.mono h.be.size)).grown hg (Nat.le_trans h.be.size hs) (fun g e => (h.ko.lt g e).1), (hold q hlt (fun e => h.ka q e rfl)).trans h.q0⟩, fun b h1 h2 => hg.block b h2 (fun e => by have := (h.ko.lt b e.symm).2; omega)⟩
  · rcases hd with hd | hd
    · exact h.ap g (hd.symm.trans h1) h2
    · have h3 := (h.vo.lt g h2).2
      have h4 : w.heap.size = g := by have := hd.symm.trans h1; injection this
      omega
  · rcases hd with hd | hd
    · exact h.ka g (hd.symm.trans h1)
    · have h4 : w.heap.size = g := by have := hd.symm.trans h1; injection this
      omega
theorem KV.swap {w9 w : World} {A A' : Option Addr} {p C p' C' q : Nat} {xs ys : List Value} {x y : Int} (h : KV w9 w A p C xs A' p' C' ys q x y) : KV w9 w A' p' C' ys A p C xs q x y :=
  ⟨h.vo, h.ko, fun g h1 h2 => h.ap g h2 h1, h.va, h.ka, h.be, h.q0⟩
theorem one_intC (x : Int) : ∀ u ∈ [Value.int .i64 x], u.oneCell' = true := fun u hu => by
  rw [List.mem_singleton.1 hu]; rfl
theorem cut_len (lv : Int) (L : List (Int × Int)) : (cutOf lv L).length ≤ 1000000 := by
  unfold cutOf
  split
  · simp
  · split <;> simp
theorem cut_few (lv : Int) {L : List (Int × Int)} (h : L.length ≤ 9) : ∀ x ∈ cutOf lv L, x.2.1.length ≤ 1000000 ∧ x.2.2.length ≤ 1000000 := by
  intro x hx
  unfold cutOf at hx
  split at hx
  · cases hx
  · split at hx
    · obtain rfl := List.mem_singleton.1 hx
      simp only [nodeOf, keys_len, vals_len]
      omega
    · simp only [List.mem_cons, List.not_mem_nil, or_false] at hx
      rcases hx with rfl | rfl <;> simp only [nodeOf, keys_len, vals_len, List.length_take, List.length_drop] <;> omega
theorem errV_nz (c : Int) (h : c ≠ 0) : errV c = codeV c := if_neg h
theorem own_emptyS {w : World} {B k : Nat} {e : TypeId} (s : Nat) (hk : w.heap[k]? = some (.cells #[] e (0, 0))) (hb : B ≤ k) : w.ownsRow B e s (.slice (some ⟨k, 0, none⟩) 0 0) 0 [] :=
  own_of (cur := []) hb hk (Nat.le_refl _) (Nat.zero_le _) (by simp) (by simp)
theorem step_app0S {P : Program} (w : World) {ops : Array Oper} {o : Oper} {a : Act} {K : Act → World → Prop} {Q : Exit → Act → World → Prop} {E : Prop} (hgd : o.guard = none) (s x : Operand) (t : TypeId)
    (ho : o.op = .call { callee := .builtin .append, args := #[s, x], argTypes := #[t, t] })
    (base : Nat) {e : TypeId} {sz bytes : Nat} (he : ElemOk P t e sz bytes) (k : Nat) (hs : a.eval s = .slice (some ⟨k, 0, none⟩) 0 0) (hk : w.heap[k]? = some (.cells #[] e (0, 0))) (hb : base ≤ k)
    (B : Nat) (A2 : Option Addr) (m c2 : Nat) (news : List Value) (hx : a.eval x = .slice A2 m c2) (hr : SL w B sz A2 m news) (h1 : ∀ u ∈ news, u.oneCell' = true)
    (h63 : m ≤ maxLen) (hbytes : m * bytes ≤ 140737488355328) (hbase : base ≤ w.heap.size)
    (h : ∀ A' c' w', w'.ownsRow base e sz (.slice A' m c') m news → w.grownBy w' (some k) →
      ((Value.slice A' m c').ownBlock = some k ∨ (Value.slice A' m c').ownBlock = some w.heap.size) → K (a.put o.dst (.slice A' m c')) w') :
    if Region.wanted o (yielded ops a.tmps) = true then Oper.wp P o a w K Q else E :=
  step_app w hgd s x t ho base he (some ⟨k, 0, none⟩) 0 0 [] hs (own_emptyS sz hk hb) B A2 m c2 news hx hr h1 (by omega) (by rw [Nat.zero_add]; exact hbytes) hbase fun A' c' w' h2 h3 h4 => by
    rw [Nat.zero_add] at h2 h4 ⊢
    exact h A' c' w' h2 h3 h4

set_option maxRecDepth 20000 in
set_option maxHeartbeats 8000000 in
theorem nodeChanges_any (lv : Int) (a a' s : Option Addr) (n m c c' k cs : Nat) (ks vs : List Int) (at_ : Int) (qs : List (Int × Int)) (w : World) (hk : IS w w.heap.size a n ks) (hv : IS w w.heap.size a' m vs) (hq : ES w w.heap.size s k qs) :
    Calls Try.prog 9 #[.agg #[.int .i64 lv, .slice a n c, .slice a' m c'], .int .i64 at_, .slice s k cs] w fun e w' => e = .returned (.bool true) ∧ Below w.heap.size w w' := by
  have HLQ := mkHid hq.len
  have HLK := mkHid hk.len
  have HLV := mkHid hv.len
  obtain ⟨W, hW⟩ : ∃ W, w.alloc (.cells #[.int .i64 lv, .slice a n c, .slice a' m c'] 24) = W := ⟨_, rfl⟩
  have HAL := mkHid (show Below w.heap.size w W by rw [← hW]; exact below_al (Below.refl _ _) _)
  have HKS := mkHid ((hk.below HAL.out).more HAL.out.size)
  have HVS := mkHid ((hv.below HAL.out).more HAL.out.size)
  have hQ : W.heap[w.heap.size]? = some (.cells #[.int .i64 lv, .slice a n c, .slice a' m c'] 24) := by rw [← hW]; exact heap_alloc_new _ _
  have HK := mkHid (show ∀ Z, Below W.heap.size W Z → (Z.cell? ⟨w.heap.size, 0, none⟩ = some (.int .i64 lv) ∧ Z.cell? ⟨w.heap.size, 1, none⟩ = some (.slice a n c) ∧ Z.cell? ⟨w.heap.size, 2, none⟩ = some (.slice a' m c')) from fun Z hZ =>
    have h := (hZ.block _ (Array.getElem?_eq_some_iff.1 hQ).1).trans hQ
    ⟨cell_of_row Z w.heap.size 0 _ _ _ h, cell_of_row Z w.heap.size 1 _ _ _ h, cell_of_row Z w.heap.size 2 _ _ _ h⟩)
  obtain ⟨k0, k1, k2⟩ := HK.out W (Below.refl _ _)
  clear hk hv hQ
  have HQS := mkHid ((hq.below HAL.out).more HAL.out.size)
  clear hq
  obtain ⟨M, hM⟩ : ∃ M : Int, (if n < m then (m : Int) else (n : Int)) = M := ⟨_, rfl⟩
  obtain ⟨M', hM'⟩ : ∃ M' : Int, (if M < (k : Int) then (k : Int) else M) = M' := ⟨_, rfl⟩
  have hmx : (n : Int) ≤ M' ∧ (m : Int) ≤ M' ∧ (k : Int) ≤ M' := by rw [← hM', ← hM]; split <;> split <;> omega
  by_cases hbig : 200 < M'
  · go_enter Try.func9, Try.ntmps9
    have HB2 := mkHid (Below.refl W.heap.size W)
    go_wp2_with fail
    clear hW
    go_wp2_with fail
    refine (awake_any _).mono ?_
    rintro e w3 ⟨rfl, hb3⟩
    have HB3 := mkHid (HAL.out.trans ((below_next HB2.out hb3).mono HAL.out.size))
    clear hb3
    go_wp2_with fail
    go_ret
    exact ⟨rfl, HB3.out⟩
  have hbig2 : M' ≤ 200 := by omega
  have hn200 : n ≤ 200 := by omega
  have hm200 : m ≤ 200 := by omega
  have hk200 : k ≤ 200 := by omega
  clear hbig hmx
  go_enter Try.func9, Try.ntmps9
  go_wp2_with fail
  clear hW hM hM' hbig2
  refine (lof_any lv a a' n m c c' ks vs W HKS.out HVS.out (by omega) (by omega)).mono ?_
  rintro e w3 ⟨_, rfl, ⟨A1, n1, C1, B1, m1, D1, rfl, i1, i2, _, _⟩, _, hb3⟩
  obtain rfl : n = n1 := by rw [← i1.len, HLK.out]
  obtain rfl : m = m1 := by rw [← i2.len, HLV.out]
  obtain ⟨W4, hW4⟩ : ∃ W4, w3.alloc (.cells #[.int .i64 lv, .slice A1 n C1, .slice B1 m D1] 32) = W4 := ⟨_, rfl⟩
  have hal4 : Below w3.heap.size w3 W4 := by rw [← hW4]; exact below_al (Below.refl _ _) _
  have HB4 := mkHid (below_next hb3 hal4)
  have hQ4 : W4.heap[w3.heap.size]? = some (.cells #[.int .i64 lv, .slice A1 n C1, .slice B1 m D1] 32) := by rw [← hW4]; exact heap_alloc_new _ _
  have HK4 := mkHid (show ∀ Z, Below W4.heap.size W4 Z → (Z.cell? ⟨w3.heap.size, 0, none⟩ = some (.int .i64 lv) ∧ Z.cell? ⟨w3.heap.size, 1, none⟩ = some (.slice A1 n C1) ∧ Z.cell? ⟨w3.heap.size, 2, none⟩ = some (.slice B1 m D1)) from fun Z hZ =>
    have h := (hZ.block _ (Array.getElem?_eq_some_iff.1 hQ4).1).trans hQ4
    ⟨cell_of_row Z w3.heap.size 0 _ _ _ h, cell_of_row Z w3.heap.size 1 _ _ _ h, cell_of_row Z w3.heap.size 2 _ _ _ h⟩)
  have HI1 := mkHid ((i1.below hal4).more hal4.size)
  have HI2 := mkHid ((i2.below hal4).more hal4.size)
  have HQ4 := mkHid ((HQS.out.below HB4.out).more HB4.out.size)
  have HCH := mkHid (fun Z (hZ : Below W4.heap.size W4 Z) (E : Option Addr) (G : Nat) (ho : Z.ownsRow W4.heap.size 52 2 (.slice E k G) k (qs.flatMap enC)) => change_any lv A1 B1 E n m C1 D1 k G ks vs at_ qs Z ((HI1.out.below hZ).more hZ.size) ((HI2.out.below hZ).more hZ.size) (own_less ho (Nat.zero_le _)) HQ4.out.2)
  have hkm : k ≤ maxLen := by unfold maxLen; omega
  clear i1 i2 hb3 hal4 hQ4 k0 k1 k2
  obtain ⟨x0, x1, x2⟩ := HK4.out W4 (Below.refl _ _)
  go_wp2_with fail
  have hx0' := HK4.out W4 (Below.refl _ _)
  go_region_held3 (fun Z => (Z.cell? ⟨w3.heap.size, 0, none⟩ = some (.int .i64 lv) ∧ Z.cell? ⟨w3.heap.size, 1, none⟩ = some (.slice A1 n C1) ∧ Z.cell? ⟨w3.heap.size, 2, none⟩ = some (.slice B1 m D1))) (first | exact hky | exact HK4.out _ (by first | exact HBY.out | exact HBY.out.drew | exact below_al HBY.out _ | exact (below_al HBY.out _).drew | exact below_al (Below.refl _ _) _ | exact (below_al (Below.refl _ _) _).drew | exact below_al (Below.refl _ _).drew _ | exact (Below.refl _ _).drew | exact Below.refl _ _)) (first
    | (refine step_app0S _ rfl (.tmp 31) (.tmp 32) _ rfl W4.heap.size el_pair W4.heap.size rfl (heap_alloc_new _ _) (Nat.le_refl _) W4.heap.size s k cs (qs.flatMap enC) rfl (HQ4.out.below (by first | exact HBY.out | exact HBY.out.drew | exact below_al HBY.out _ | exact (below_al HBY.out _).drew | exact below_al (Below.refl _ _) _ | exact (below_al (Below.refl _ _) _).drew | exact below_al (Below.refl _ _).drew _ | exact (Below.refl _ _).drew | exact Below.refl _ _)).1 (enC_one qs) hkm (by omega) (Below.size (by first | exact HBY.out | exact HBY.out.drew | exact below_al HBY.out _ | exact (below_al HBY.out _).drew | exact below_al (Below.refl _ _) _ | exact (below_al (Below.refl _ _) _).drew | exact below_al (Below.refl _ _).drew _ | exact (Below.refl _ _).drew | exact Below.refl _ _)) ?_; intro E G wy hoy hgy _; have HBY := mkHid (below_gr (show Below W4.heap.size W4 _ from (by first | exact HBY.out | exact HBY.out.drew | exact below_al HBY.out _ | exact (below_al HBY.out _).drew | exact below_al (Below.refl _ _) _ | exact (below_al (Below.refl _ _) _).drew | exact below_al (Below.refl _ _).drew _ | exact (Below.refl _ _).drew | exact Below.refl _ _)) hgy (fun g hg => by injection hg with hg; exact Nat.le_of_eq hg)); have hky := HK4.out _ HBY.out; have HOY := mkHid hoy; clear hoy hgy)
    | (go_at_call 25; (first | refine (HCH.out _ HBY.out E G HOY.out).mono ?_ | refine (HCH.out _ HBY.out.drew E G HOY.out.drew).mono ?_); rintro e wz ⟨A5, C5, rfl, hle5, hns5, hbz⟩; have HBY2 := mkHid (below_next (show Below W4.heap.size W4 _ from (by first | exact HBY.out | exact HBY.out.drew | exact below_al HBY.out _ | exact (below_al HBY.out _).drew | exact below_al (Below.refl _ _) _ | exact (below_al (Below.refl _ _) _).drew | exact below_al (Below.refl _ _).drew _ | exact (Below.refl _ _).drew | exact Below.refl _ _)) hbz); have hky := HK4.out _ HBY2.out; have HLE := mkHid hle5; have HNS := mkHid hns5; clear hbz hle5 hns5))
  have HB7 := mkHid HBY2.out
  have HBW7 := mkHid (below_next HB4.out HB7.out)
  have HI17 := mkHid ((HI1.out.below HB7.out).more HB7.out.size)
  have HI27 := mkHid ((HI2.out.below HB7.out).more HB7.out.size)
  have HKW7 := mkHid ((HKS.out.below HBW7.out).more HBW7.out.size)
  have HVW7 := mkHid ((HVS.out.below HBW7.out).more HBW7.out.size)
  clear hx0' hky x0 x1 x2 HCH HOY HBY HBY2
  obtain ⟨x0, x1, x2⟩ := HK4.out wz HB7.out
  obtain ⟨k0, k1, k2⟩ := HK.out wz HBW7.out
  go_wp2_with fail
  clear x0 x1 x2 k0 k1 k2
  refine (same_any lv lv A1 B1 a a' n m n m C1 D1 c c' ks vs ks vs wz HI17.out HI27.out HKW7.out HVW7.out (by omega) (by omega)).mono ?_
  rintro e w8 ⟨rfl, hb8⟩
  rw [show sameN (lv, ks, vs) (lv, ks, vs) = true from decide_eq_true rfl]
  have HB8 := mkHid hb8
  have HBW8 := mkHid (below_next HBW7.out hb8)
  clear hb8
  obtain ⟨k0, k1, k2⟩ := HK.out w8 HBW8.out
  go_wp2_with fail
  clear k0 k1 k2
  refine (dright_any lv a a' n m c c' ks vs w8 ((HKS.out.below HBW8.out).more HBW8.out.size) ((HVS.out.below HBW8.out).more HBW8.out.size)).mono ?_
  rintro e w9 ⟨rfl, hb9⟩
  have HB9 := mkHid (below_next HB8.out hb9)
  have HBW9 := mkHid (below_next HBW7.out HB9.out)
  clear hb9
  cases hr : rightN lv ks vs with
  | false =>
    have hpo : changeOf lv ks vs at_ qs = (70, []) := if_pos hr
    rw [hpo, errV_nz 70 (by decide)]
    clear hr hpo
    simp only [List.length_nil]
    go_wp2_with fail
    refine (is_code 70 70 _).mono ?_
    rintro e wv ⟨rfl, hwz⟩
    subst hwz
    rw [show ((70 : Int) != 0 && (70 : Int) == 70) = true from rfl]
    go_wp2_with fail
    refine (awake_any _).mono ?_
    rintro e w10 ⟨rfl, hb10⟩
    have HB10 := mkHid (HAL.out.trans ((below_next HBW9.out hb10).mono HAL.out.size))
    clear hb10
    go_wp2_with fail
    go_ret
    exact ⟨rfl, HB10.out⟩
  | true =>
    have HR := mkHid hr
    have hok := rightN_ok hr
    obtain ⟨_, _, hlen, h1n, hn7, hsr, _⟩ := hok
    have HSR := mkHid hsr
    rw [HLK.out] at h1n hn7
    rw [HLK.out, HLV.out] at hlen
    subst hlen
    clear hr hsr
    have HNS9 := mkHid (HNS.out.next HB9.out)
    have HES9 := mkHid ((HQ4.out.below (below_next HB7.out HB9.out)).more (below_next HB7.out HB9.out).size)
    have HKL := mkHid (show (keysOf qs).length = k by rw [keys_len, HLQ.out])
    have HVL := mkHid (show (valsOf qs).length = k by rw [vals_len, HLQ.out])
    go_wp2_with fail
    go_loopw [10, 11, 56] (fun kk vv i wr => ∃ (p : Nat) (A : Option Addr) (C : Nat) (A' : Option Addr) (C' : Nat), p ≤ k ∧ i = .int .i64 p ∧ kk = .slice A p C ∧ vv = .slice A' p C' ∧ Hid (wr.ownsRow w9.heap.size 3 1 (.slice A p C) p (((keysOf qs).take p).map i64v)) ∧ Hid (wr.ownsRow w9.heap.size 3 1 (.slice A' p C') p (((valsOf qs).take p).map i64v)) ∧ Hid (∀ g, (Value.slice A p C).ownBlock = some g → (Value.slice A' p C').ownBlock ≠ some g) ∧ Hid (Below w9.heap.size w9 wr)) (fun _ _ i _ => k - (intOf i).toNat)
    case atStart => exact ⟨0, none, 0, none, 0, Nat.zero_le _, rfl, rfl, rfl, mkHid (World.ownsRow_nil _ _ _ _), mkHid (World.ownsRow_nil _ _ _ _), mkHid (fun g h => by cases h), mkHid (Below.refl _ _)⟩
    case round =>
      obtain ⟨p, A, C, A', C', hp, rfl, rfl, rfl, HO, HV, HD, HBL⟩ := hrel
      by_cases hlt : p < k
      · obtain ⟨b, o, xy, rfl, hb, hx, _, hc0, hc1⟩ := HES9.out.at_ hlt
        have HX := mkHid (map_take_succ (fun x : Int × Int => x.1) hx)
        have HY := mkHid (map_take_succ (fun x : Int × Int => x.2) hx)
        obtain ⟨x, y⟩ := xy
        simp only at hc0 hc1
        have d0 := (HBL.out.cell (p := ⟨b, o + p * 2, none⟩) hb).trans hc0
        have d1 := (HBL.out.cell (p := ⟨b, o + p * 2 + 1, none⟩) hb).trans hc1
        clear hx hc0 hc1
        go_wp2_with fail
        obtain ⟨W5, hW5⟩ : ∃ W5, wr.alloc (.cells #[.int .i64 x, .int .i64 y] 52) = W5 := ⟨_, rfl⟩
        rw [hW5]
        have HKV := mkHid (show KV w9 W5 A p C _ A' p C' _ wr.heap.size x y from by
          rw [← hW5]
          exact ⟨HO.out.alloc _, HV.out.alloc _, HD.out, fun g hg => by have := (HO.out.lt g hg).2; omega, fun g hg => by have := (HV.out.lt g hg).2; omega, HBL.out.alloc HBL.out.size _, heap_alloc_new _ _⟩)
        clear hW5 d0 d1
        have hky := HKV.out.cells
        have hs5 := HKV.out.be.size
        have hp1 : p + 1 ≤ maxLen := by unfold maxLen; omega
        have hq0' := hky
        obtain ⟨q0, q1⟩ := hq0'
        have b_x := mkHid (show Below W5.heap.size W5 (W5.alloc (.cells #[.int .i64 x] 3)) from below_al (Below.refl _ _) _)
        have b_xd := mkHid (show Below W5.heap.size W5 (W5.alloc (.cells #[.int .i64 x] 3)).drew from b_x.out.drew)
        have z_x := mkHid (show w9.heap.size ≤ (W5.alloc (.cells #[.int .i64 x] 3)).heap.size from Nat.le_trans hs5 b_x.out.size)
        have h_xx := mkHid (show (W5.alloc (.cells #[.int .i64 x] 3)).heap[W5.heap.size]? = some (.cells #[.int .i64 x] 3 (0, 0)) from heap_alloc_new _ _)
        have l_xx := mkHid (show W5.heap.size < (W5.alloc (.cells #[.int .i64 x] 3)).heap.size from (Array.getElem?_eq_some_iff.1 h_xx.out).1)
        have z_xd := mkHid (show w9.heap.size ≤ (W5.alloc (.cells #[.int .i64 x] 3)).drew.heap.size from Nat.le_trans hs5 b_xd.out.size)
        have h_xxd := mkHid (show (W5.alloc (.cells #[.int .i64 x] 3)).drew.heap[W5.heap.size]? = some (.cells #[.int .i64 x] 3 (0, 0)) from by rw [drew_heap]; exact h_xx.out)
        have l_xxd := mkHid (show W5.heap.size < (W5.alloc (.cells #[.int .i64 x] 3)).drew.heap.size from (Array.getElem?_eq_some_iff.1 h_xxd.out).1)
        have b_xy := mkHid (show Below W5.heap.size W5 ((W5.alloc (.cells #[.int .i64 x] 3)).alloc (.cells #[.int .i64 y] 3)) from below_al (below_al (Below.refl _ _) _) _)
        have b_xyd := mkHid (show Below W5.heap.size W5 ((W5.alloc (.cells #[.int .i64 x] 3)).alloc (.cells #[.int .i64 y] 3)).drew from b_xy.out.drew)
        have z_xy := mkHid (show w9.heap.size ≤ ((W5.alloc (.cells #[.int .i64 x] 3)).alloc (.cells #[.int .i64 y] 3)).heap.size from Nat.le_trans hs5 b_xy.out.size)
        have h_xyx := mkHid (show ((W5.alloc (.cells #[.int .i64 x] 3)).alloc (.cells #[.int .i64 y] 3)).heap[W5.heap.size]? = some (.cells #[.int .i64 x] 3 (0, 0)) from (Below.heap_alloc _ _ _ (by simp)).trans (heap_alloc_new _ _))
        have l_xyx := mkHid (show W5.heap.size < ((W5.alloc (.cells #[.int .i64 x] 3)).alloc (.cells #[.int .i64 y] 3)).heap.size from (Array.getElem?_eq_some_iff.1 h_xyx.out).1)
        have h_xyy := mkHid (show ((W5.alloc (.cells #[.int .i64 x] 3)).alloc (.cells #[.int .i64 y] 3)).heap[W5.heap.size + 1]? = some (.cells #[.int .i64 y] 3 (0, 0)) from heap_two W5 _ _)
        have l_xyy := mkHid (show W5.heap.size + 1 < ((W5.alloc (.cells #[.int .i64 x] 3)).alloc (.cells #[.int .i64 y] 3)).heap.size from (Array.getElem?_eq_some_iff.1 h_xyy.out).1)
        have z_xyd := mkHid (show w9.heap.size ≤ ((W5.alloc (.cells #[.int .i64 x] 3)).alloc (.cells #[.int .i64 y] 3)).drew.heap.size from Nat.le_trans hs5 b_xyd.out.size)
        have h_xyxd := mkHid (show ((W5.alloc (.cells #[.int .i64 x] 3)).alloc (.cells #[.int .i64 y] 3)).drew.heap[W5.heap.size]? = some (.cells #[.int .i64 x] 3 (0, 0)) from by rw [drew_heap]; exact h_xyx.out)
        have l_xyxd := mkHid (show W5.heap.size < ((W5.alloc (.cells #[.int .i64 x] 3)).alloc (.cells #[.int .i64 y] 3)).drew.heap.size from (Array.getElem?_eq_some_iff.1 h_xyxd.out).1)
        have h_xyyd := mkHid (show ((W5.alloc (.cells #[.int .i64 x] 3)).alloc (.cells #[.int .i64 y] 3)).drew.heap[W5.heap.size + 1]? = some (.cells #[.int .i64 y] 3 (0, 0)) from by rw [drew_heap]; exact h_xyy.out)
        have l_xyyd := mkHid (show W5.heap.size + 1 < ((W5.alloc (.cells #[.int .i64 x] 3)).alloc (.cells #[.int .i64 y] 3)).drew.heap.size from (Array.getElem?_eq_some_iff.1 h_xyyd.out).1)
        have b_yx := mkHid (show Below W5.heap.size W5 ((W5.alloc (.cells #[.int .i64 y] 3)).alloc (.cells #[.int .i64 x] 3)) from below_al (below_al (Below.refl _ _) _) _)
        have b_yxd := mkHid (show Below W5.heap.size W5 ((W5.alloc (.cells #[.int .i64 y] 3)).alloc (.cells #[.int .i64 x] 3)).drew from b_yx.out.drew)
        have z_yx := mkHid (show w9.heap.size ≤ ((W5.alloc (.cells #[.int .i64 y] 3)).alloc (.cells #[.int .i64 x] 3)).heap.size from Nat.le_trans hs5 b_yx.out.size)
        have h_yxy := mkHid (show ((W5.alloc (.cells #[.int .i64 y] 3)).alloc (.cells #[.int .i64 x] 3)).heap[W5.heap.size]? = some (.cells #[.int .i64 y] 3 (0, 0)) from (Below.heap_alloc _ _ _ (by simp)).trans (heap_alloc_new _ _))
        have l_yxy := mkHid (show W5.heap.size < ((W5.alloc (.cells #[.int .i64 y] 3)).alloc (.cells #[.int .i64 x] 3)).heap.size from (Array.getElem?_eq_some_iff.1 h_yxy.out).1)
        have h_yxx := mkHid (show ((W5.alloc (.cells #[.int .i64 y] 3)).alloc (.cells #[.int .i64 x] 3)).heap[W5.heap.size + 1]? = some (.cells #[.int .i64 x] 3 (0, 0)) from heap_two W5 _ _)
        have l_yxx := mkHid (show W5.heap.size + 1 < ((W5.alloc (.cells #[.int .i64 y] 3)).alloc (.cells #[.int .i64 x] 3)).heap.size from (Array.getElem?_eq_some_iff.1 h_yxx.out).1)
        have z_yxd := mkHid (show w9.heap.size ≤ ((W5.alloc (.cells #[.int .i64 y] 3)).alloc (.cells #[.int .i64 x] 3)).drew.heap.size from Nat.le_trans hs5 b_yxd.out.size)
        have h_yxyd := mkHid (show ((W5.alloc (.cells #[.int .i64 y] 3)).alloc (.cells #[.int .i64 x] 3)).drew.heap[W5.heap.size]? = some (.cells #[.int .i64 y] 3 (0, 0)) from by rw [drew_heap]; exact h_yxy.out)
        have l_yxyd := mkHid (show W5.heap.size < ((W5.alloc (.cells #[.int .i64 y] 3)).alloc (.cells #[.int .i64 x] 3)).drew.heap.size from (Array.getElem?_eq_some_iff.1 h_yxyd.out).1)
        have h_yxxd := mkHid (show ((W5.alloc (.cells #[.int .i64 y] 3)).alloc (.cells #[.int .i64 x] 3)).drew.heap[W5.heap.size + 1]? = some (.cells #[.int .i64 x] 3 (0, 0)) from by rw [drew_heap]; exact h_yxx.out)
        have l_yxxd := mkHid (show W5.heap.size + 1 < ((W5.alloc (.cells #[.int .i64 y] 3)).alloc (.cells #[.int .i64 x] 3)).drew.heap.size from (Array.getElem?_eq_some_iff.1 h_yxxd.out).1)
        go_region_held3 (fun Z => Z.cell? ⟨wr.heap.size, 0, none⟩ = some (.int .i64 x) ∧ Z.cell? ⟨wr.heap.size, 1, none⟩ = some (.int .i64 y)) (with_reducible first | exact hky | (refine ⟨?_, ?_⟩ <;> (repeat (first | exact hky.1 | exact hky.2 | refine cell_dr ?_ | refine cell_al ?_ _)))) (first
          | (with_reducible refine at_world (wk) ?_; refine step_app _ rfl (.tmp 65) (.tmp 68) _ rfl w9.heap.size el_int A' p C' _ rfl (HKW.out.vo) (_ + 1) (some ⟨W5.heap.size, 0, none⟩) 1 1 [.int .i64 y] rfl (SL.of_block (cur := #[.int .i64 y]) (e := 3) (fr := (0, 0)) HE0y.out rfl (Nat.lt_succ_self _)) (one_intC y) hp1 (by omega) (HKW.out.be.size) ?_; intro A4 C4 wv ho4 hg4 hd4; have HKZ := mkHid ((HKW.out.swap.key (Below.refl _ _) ho4 hg4 hd4).1.swap); have hky := HKZ.out.cells; clear ho4 hg4 hd4)
          | (with_reducible refine at_world (wk) ?_; refine step_app _ rfl (.tmp 65) (.tmp 68) _ rfl w9.heap.size el_int A' p C' _ rfl (HKW.out.vo) (_ + 1) (some ⟨W5.heap.size + 1, 0, none⟩) 1 1 [.int .i64 y] rfl (SL.of_block (cur := #[.int .i64 y]) (e := 3) (fr := (0, 0)) HE1y.out rfl (Nat.lt_succ_self _)) (one_intC y) hp1 (by omega) (HKW.out.be.size) ?_; intro A4 C4 wv ho4 hg4 hd4; have HKZ := mkHid ((HKW.out.swap.key (Below.refl _ _) ho4 hg4 hd4).1.swap); have hky := HKZ.out.cells; clear ho4 hg4 hd4)
          | (with_reducible refine at_world (wk.alloc (.cells #[.int .i64 y] 3)) ?_; refine step_app _ rfl (.tmp 65) (.tmp 68) _ rfl w9.heap.size el_int A' p C' _ rfl (own_below HKW.out.vo (below_al (Below.refl _ _) _)) (_ + 1) (some ⟨wk.heap.size, 0, none⟩) 1 1 [.int .i64 y] rfl (SL.of_block (cur := #[.int .i64 y]) (e := 3) (fr := (0, 0)) (heap_alloc_new _ _) rfl (Nat.lt_succ_self _)) (one_intC y) hp1 (by omega) (Nat.le_trans HKW.out.be.size (Below.size (below_al (Below.refl _ _) _))) ?_; intro A4 C4 wv ho4 hg4 hd4; have HKZ := mkHid ((HKW.out.swap.key (below_al (Below.refl _ _) _) ho4 hg4 hd4).1.swap); have hky := HKZ.out.cells; clear ho4 hg4 hd4)
          | (with_reducible refine at_world ((W5.alloc (.cells #[.int .i64 x] 3)).drew) ?_; refine step_app _ rfl (.tmp 60) (.tmp 63) _ rfl w9.heap.size el_int A p C _ rfl (own_below HKV.out.ko b_xd.out) (_ + 1) (some ⟨W5.heap.size, 0, none⟩) 1 1 [.int .i64 x] rfl (SL.of_block (cur := #[.int .i64 x]) (e := 3) (fr := (0, 0)) h_xxd.out rfl (Nat.lt_succ_self _)) (one_intC x) hp1 (by omega) (z_xd.out) ?_; intro A3 C3 wk ho3 hg3 hd3; have HKW := mkHid ((HKV.out.key b_xd.out ho3 hg3 hd3).1); have hky := HKW.out.cells; clear ho3 hg3 hd3)
          | (with_reducible refine at_world ((W5.alloc (.cells #[.int .i64 x] 3))) ?_; refine step_app _ rfl (.tmp 60) (.tmp 63) _ rfl w9.heap.size el_int A p C _ rfl (own_below HKV.out.ko b_x.out) (_ + 1) (some ⟨W5.heap.size, 0, none⟩) 1 1 [.int .i64 x] rfl (SL.of_block (cur := #[.int .i64 x]) (e := 3) (fr := (0, 0)) h_xx.out rfl (Nat.lt_succ_self _)) (one_intC x) hp1 (by omega) (z_x.out) ?_; intro A3 C3 wk ho3 hg3 hd3; have HKW := mkHid ((HKV.out.key b_x.out ho3 hg3 hd3).1); have hky := HKW.out.cells; clear ho3 hg3 hd3)
          | (with_reducible refine at_world (((W5.alloc (.cells #[.int .i64 x] 3)).alloc (.cells #[.int .i64 y] 3)).drew) ?_; refine step_app _ rfl (.tmp 60) (.tmp 63) _ rfl w9.heap.size el_int A p C _ rfl (own_below HKV.out.ko b_xyd.out) (_ + 1) (some ⟨W5.heap.size, 0, none⟩) 1 1 [.int .i64 x] rfl (SL.of_block (cur := #[.int .i64 x]) (e := 3) (fr := (0, 0)) h_xyxd.out rfl (Nat.lt_succ_self _)) (one_intC x) hp1 (by omega) (z_xyd.out) ?_; intro A3 C3 wk ho3 hg3 hd3; have HKW := mkHid ((HKV.out.key b_xyd.out ho3 hg3 hd3).1); have hky := HKW.out.cells; have HE1y := mkHid (((HKV.out.key b_xyd.out ho3 hg3 hd3).2 (W5.heap.size + 1) (by omega) l_xyyd.out).trans h_xyyd.out); clear ho3 hg3 hd3)
          | (with_reducible refine at_world (((W5.alloc (.cells #[.int .i64 x] 3)).alloc (.cells #[.int .i64 y] 3))) ?_; refine step_app _ rfl (.tmp 60) (.tmp 63) _ rfl w9.heap.size el_int A p C _ rfl (own_below HKV.out.ko b_xy.out) (_ + 1) (some ⟨W5.heap.size, 0, none⟩) 1 1 [.int .i64 x] rfl (SL.of_block (cur := #[.int .i64 x]) (e := 3) (fr := (0, 0)) h_xyx.out rfl (Nat.lt_succ_self _)) (one_intC x) hp1 (by omega) (z_xy.out) ?_; intro A3 C3 wk ho3 hg3 hd3; have HKW := mkHid ((HKV.out.key b_xy.out ho3 hg3 hd3).1); have hky := HKW.out.cells; have HE1y := mkHid (((HKV.out.key b_xy.out ho3 hg3 hd3).2 (W5.heap.size + 1) (by omega) l_xyy.out).trans h_xyy.out); clear ho3 hg3 hd3)
          | (with_reducible refine at_world (((W5.alloc (.cells #[.int .i64 y] 3)).alloc (.cells #[.int .i64 x] 3)).drew) ?_; refine step_app _ rfl (.tmp 60) (.tmp 63) _ rfl w9.heap.size el_int A p C _ rfl (own_below HKV.out.ko b_yxd.out) (_ + 1) (some ⟨W5.heap.size + 1, 0, none⟩) 1 1 [.int .i64 x] rfl (SL.of_block (cur := #[.int .i64 x]) (e := 3) (fr := (0, 0)) h_yxxd.out rfl (Nat.lt_succ_self _)) (one_intC x) hp1 (by omega) (z_yxd.out) ?_; intro A3 C3 wk ho3 hg3 hd3; have HKW := mkHid ((HKV.out.key b_yxd.out ho3 hg3 hd3).1); have hky := HKW.out.cells; have HE0y := mkHid (((HKV.out.key b_yxd.out ho3 hg3 hd3).2 (W5.heap.size) (by omega) l_yxyd.out).trans h_yxyd.out); clear ho3 hg3 hd3)
          | (with_reducible refine at_world (((W5.alloc (.cells #[.int .i64 y] 3)).alloc (.cells #[.int .i64 x] 3))) ?_; refine step_app _ rfl (.tmp 60) (.tmp 63) _ rfl w9.heap.size el_int A p C _ rfl (own_below HKV.out.ko b_yx.out) (_ + 1) (some ⟨W5.heap.size + 1, 0, none⟩) 1 1 [.int .i64 x] rfl (SL.of_block (cur := #[.int .i64 x]) (e := 3) (fr := (0, 0)) h_yxx.out rfl (Nat.lt_succ_self _)) (one_intC x) hp1 (by omega) (z_yx.out) ?_; intro A3 C3 wk ho3 hg3 hd3; have HKW := mkHid ((HKV.out.key b_yx.out ho3 hg3 hd3).1); have hky := HKW.out.cells; have HE0y := mkHid (((HKV.out.key b_yx.out ho3 hg3 hd3).2 (W5.heap.size) (by omega) l_yxy.out).trans h_yxy.out); clear ho3 hg3 hd3))
        all_goals
          go_wp2_with fail
          go_roundw
          case measure => simp [intOf]; omega
          case rel =>
            have g1 := HKZ.out.ko
            have g2 := HKZ.out.vo
            refine ⟨p + 1, A3, C3, A4, C4, by omega, by go_num, rfl, rfl, mkHid ?_, mkHid ?_, mkHid HKZ.out.ap, mkHid HKZ.out.be⟩
            · unfold keysOf at g1 ⊢
              rw [HX.out, List.map_append]
              exact g1
            · unfold valsOf at g2 ⊢
              rw [HY.out, List.map_append]
              exact g2
      · obtain rfl : k = p := by omega
        have e1 : (keysOf qs).take k = keysOf qs := List.take_of_length_le (by rw [HKL.out]; exact Nat.le_refl _)
        have e2 : (valsOf qs).take k = valsOf qs := List.take_of_length_le (by rw [HVL.out]; exact Nat.le_refl _)
        rw [e1] at HO
        rw [e2] at HV
        clear e1 e2
        have HIK := mkHid (show IS wr wr.heap.size A k (keysOf qs) from ⟨SL.of_own HO.out, fun x hx => by obtain ⟨y, hy, rfl⟩ := List.mem_map.1 hx; exact (HES9.out.2 y hy).1⟩)
        have HIV := mkHid (show IS wr wr.heap.size A' k (valsOf qs) from ⟨SL.of_own HV.out, fun x hx => by obtain ⟨y, hy, rfl⟩ := List.mem_map.1 hx; exact (HES9.out.2 y hy).2⟩)
        have HBWR := mkHid (below_next HBW9.out HBL.out)
        obtain ⟨k0, k1, k2⟩ := HK.out wr HBWR.out
        by_cases hz : at_ < 0 ∨ (n : Int) ≤ at_ ∨ 2 < k
        · have hpo : changeOf lv ks vs at_ qs = (80, []) := by unfold changeOf; rw [if_neg (by rw [HR.out]; decide), if_pos (by rw [HLK.out, HLQ.out]; exact hz)]
          have HEQ : Hid (changeOf lv ks vs at_ qs = (80, [])) := mkHid hpo
          rw [hpo, errV_nz 80 (by decide)]
          simp only [List.length_nil]
          clear hpo HNS9 HNS HLE
          by_cases hz1 : at_ < 0
          · clear hz
            go_wp2_with fail
            refine (is_code 80 80 _).mono ?_
            rintro e wv ⟨rfl, hwz⟩
            subst hwz
            rw [show ((80 : Int) != 0 && (80 : Int) == 80) = true from rfl]
            go_wp2_with fail
            refine (awake_any _).mono ?_
            rintro e w20 ⟨rfl, hb20⟩
            have HB20 := mkHid (HAL.out.trans ((below_next HBWR.out hb20).mono HAL.out.size))
            clear hb20
            go_wp2_with fail
            go_ret
            exact ⟨rfl, HB20.out⟩
          · have hz0 : 0 ≤ at_ := by omega
            by_cases hz2 : (n : Int) ≤ at_
            · clear hz hz1
              go_wp2_with fail
              refine (is_code 80 80 _).mono ?_
              rintro e wv ⟨rfl, hwz⟩
              subst hwz
              rw [show ((80 : Int) != 0 && (80 : Int) == 80) = true from rfl]
              go_wp2_with fail
              refine (awake_any _).mono ?_
              rintro e w20 ⟨rfl, hb20⟩
              have HB20 := mkHid (HAL.out.trans ((below_next HBWR.out hb20).mono HAL.out.size))
              clear hb20
              go_wp2_with fail
              go_ret
              exact ⟨rfl, HB20.out⟩
            · have hz3 : 2 < k := by omega
              have hz4 : at_ < (n : Int) := by omega
              clear hz hz1 hz2
              go_wp2_with fail
              refine (is_code 80 80 _).mono ?_
              rintro e wv ⟨rfl, hwz⟩
              subst hwz
              rw [show ((80 : Int) != 0 && (80 : Int) == 80) = true from rfl]
              go_wp2_with fail
              refine (awake_any _).mono ?_
              rintro e w20 ⟨rfl, hb20⟩
              have HB20 := mkHid (HAL.out.trans ((below_next HBWR.out hb20).mono HAL.out.size))
              clear hb20
              go_wp2_with fail
              go_ret
              exact ⟨rfl, HB20.out⟩
        · obtain ⟨j, rfl⟩ := Int.eq_ofNat_of_zero_le (show 0 ≤ at_ by omega)
          have hj : j < n := by omega
          have hk2 : k ≤ 2 := by omega
          have hji : (j : Int) < (n : Int) := by omega
          have HKP := mkHid (show keysOf (pairsOf ks vs) = ks from keys_pairs (by rw [HLK.out, HLV.out]))
          have HVP := mkHid (show valsOf (pairsOf ks vs) = vs from vals_pairs (by rw [HLK.out, HLV.out]))
          obtain ⟨L, hL⟩ : ∃ L, (pairsOf ks vs).take j ++ (qs ++ (pairsOf ks vs).drop (j + 1)) = L := ⟨_, rfl⟩
          have HCO := mkHid (show changeOf lv ks vs (j : Int) qs = if ordFrom none L = false then (80, []) else (0, cutOf lv L) from by
            unfold changeOf changeL
            rw [if_neg (by rw [HR.out]; decide), if_neg (by rw [HLK.out, HLQ.out]; omega), Int.toNat_natCast, hL])
          have HLL := mkHid (show L.length ≤ 9 from by
            have h1 : (pairsOf ks vs).length ≤ 7 := by rw [← keys_len, HKP.out, HLK.out]; exact hn7
            rw [← hL]; simp only [List.length_append, List.length_take, List.length_drop, HLQ.out]; omega)
          have HWO := mkHid (show ∀ Z, Below w9.heap.size w9 Z → Z = wr → Calls Try.prog 24 #[.agg #[.int .i64 lv, .slice a n c, .slice a' n c'], .int .i64 (j : Int), .slice A k C, .slice A' k C'] Z (RetN Z lv (keysOf L) (valsOf L)) from fun Z _ hz => by
            subst hz
            have h := without_any lv a a' n c c' (pairsOf ks vs) qs j A A' k C C' Z (by rw [HKP.out]; exact (HKS.out.below HBWR.out).more HBWR.out.size) (by rw [HVP.out]; exact (HVS.out.below HBWR.out).more HBWR.out.size) HIK.out HIV.out hj (by omega) (by omega)
            rwa [show (pairsOf ks vs).take j ++ qs ++ (pairsOf ks vs).drop (j + 1) = L by rw [List.append_assoc, hL]] at h)
          clear hz hL
          go_wp2_with fail
          refine (HWO.out wr HBL.out rfl).mono ?_
          rintro e w10 ⟨v, rfl, ⟨A7, n7, C7, A8, n8, C8, rfl, i7, i8, c7, c8⟩, _, hb10⟩
          have hl7 : n7 = L.length := by rw [← i7.len, keys_len]
          have hl8 : n8 = L.length := by rw [← i8.len, vals_len]
          subst hl7
          subst hl8
          obtain ⟨N, hN⟩ : ∃ N, L.length = N := ⟨_, rfl⟩
          rw [hN] at i7 i8 c7 c8 ⊢
          have hN9 : N ≤ 9 := by rw [← hN]; exact HLL.out
          obtain ⟨W11, hW11⟩ : ∃ W11, w10.alloc (.cells #[.int .i64 lv, .slice A7 N C7, .slice A8 N C8] 24) = W11 := ⟨_, rfl⟩
          have hal11 : Below w10.heap.size w10 W11 := by rw [← hW11]; exact below_al (Below.refl _ _) _
          have HB11 := mkHid (below_next (below_next HBL.out hb10) hal11)
          have HBW11 := mkHid (below_next HBW9.out HB11.out)
          have hQ11 : W11.heap[w10.heap.size]? = some (.cells #[.int .i64 lv, .slice A7 N C7, .slice A8 N C8] 24) := by rw [← hW11]; exact heap_alloc_new _ _
          have HK11 := mkHid (show ∀ Z, Below W11.heap.size W11 Z → (Z.cell? ⟨w10.heap.size, 0, none⟩ = some (.int .i64 lv) ∧ Z.cell? ⟨w10.heap.size, 1, none⟩ = some (.slice A7 N C7) ∧ Z.cell? ⟨w10.heap.size, 2, none⟩ = some (.slice A8 N C8)) from fun Z hZ =>
            have h := (hZ.block _ (Array.getElem?_eq_some_iff.1 hQ11).1).trans hQ11
            ⟨cell_of_row Z w10.heap.size 0 _ _ _ h, cell_of_row Z w10.heap.size 1 _ _ _ h, cell_of_row Z w10.heap.size 2 _ _ _ h⟩)
          have HI7 := mkHid ((i7.below hal11).more hal11.size)
          have HI8 := mkHid ((i8.below hal11).more hal11.size)
          have HC7 := mkHid c7
          have HC8 := mkHid c8
          have HNL := mkHid hN
          have hris : risingN (keysOf L) (valsOf L) = ordFrom none L := by
            unfold risingN
            rw [pairs_of_maps, decide_eq_true (by rw [keys_len, vals_len]), Bool.true_and]
          have HRIS := mkHid hris
          obtain ⟨m0, m1, m2⟩ := HK11.out W11 (Below.refl _ _)
          clear i7 i8 c7 c8 hb10 hal11 hQ11 hN hris k0 k1 k2
          go_wp2_with fail
          clear hW11 m0 m1 m2
          refine (rising_any lv A7 A8 N N C7 C8 (keysOf L) (valsOf L) W11 HI7.out HI8.out (by omega)).mono ?_
          rintro e w12 ⟨rfl, hb12⟩
          rw [HRIS.out]
          have HL12 := mkHid hb12
          have HB12 := mkHid (below_next HB11.out hb12)
          have HBW12 := mkHid (below_next HBW9.out HB12.out)
          clear hb12
          have HCO2 := HCO.out
          cases ho : ordFrom none L with
          | false =>
            have hpo : changeOf lv ks vs (j : Int) qs = (80, []) := by rw [HCO2, if_pos ho]
            rw [hpo, errV_nz 80 (by decide)]
            simp only [List.length_nil]
            clear hpo ho HCO2 HNS9 HNS HLE
            go_wp2_with fail
            refine (is_code 80 80 _).mono ?_
            rintro e wv ⟨rfl, hwz⟩
            subst hwz
            rw [show ((80 : Int) != 0 && (80 : Int) == 80) = true from rfl]
            go_wp2_with fail
            refine (awake_any _).mono ?_
            rintro e w20 ⟨rfl, hb20⟩
            have HB20 := mkHid (HAL.out.trans ((below_next HBW12.out hb20).mono HAL.out.size))
            clear hb20
            go_wp2_with fail
            go_ret
            exact ⟨rfl, HB20.out⟩
          | true =>
            have hpo : changeOf lv ks vs (j : Int) qs = (0, cutOf lv L) := by rw [HCO2, if_neg (by rw [ho]; decide)]
            rw [hpo] at HNS9 ⊢
            rw [errV_no]
            simp only at HNS9
            clear hpo ho HCO2 HNS HLE
            obtain ⟨m0, m1, m2⟩ := HK11.out w12 HL12.out
            go_wp2_with fail
            clear m0 m1 m2
            refine (dcut_any lv A7 A8 N C7 C8 L w12 ((HI7.out.below HL12.out).more HL12.out.size) ((HI8.out.below HL12.out).more HL12.out.size) HC7.out HC8.out).mono ?_
            rintro e w13 ⟨A9, C9, rfl, _, hns9, hb13⟩
            have HNSX := mkHid hns9
            have HB13 := mkHid (below_next HB12.out hb13)
            have HBW13 := mkHid (below_next HBW9.out HB13.out)
            clear hns9 hb13
            go_wp2_with fail
            refine (list_any A5 A9 _ _ C5 C9 _ _ w13 (HNS9.out.next HB13.out) HNSX.out (cut_len lv L) (cut_few lv HLL.out)).mono ?_
            rintro e w14 ⟨rfl, hb14⟩
            rw [decide_eq_true rfl]
            have HBW14 := mkHid (below_next HBW13.out hb14)
            clear hb14
            go_wp2_with fail
            refine (awake_any _).mono ?_
            rintro e w20 ⟨rfl, hb20⟩
            have HB20 := mkHid (HAL.out.trans ((below_next HBW14.out hb20).mono HAL.out.size))
            clear hb20
            go_wp2_with fail
            go_ret
            exact ⟨rfl, HB20.out⟩

end Go.Proofs.Ytilepjkdfbhgcaa
