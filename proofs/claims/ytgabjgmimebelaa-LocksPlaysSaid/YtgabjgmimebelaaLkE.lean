/- Calls of a table's script as an argument; the law's state while a script is played. -/
import Derived.Test.YtgabjgmimebelaaLkD
namespace Go.Proofs.Ytgabjgmimebelaa
open Go.ChangeShapes Go.WideShapes Go.ChangeAt Go.RowKit Go.Deep Go.Shelf

/-- A call of a script. -/
structure LOp where
  kind : Int
  n : Int
  spans : List Sp
def RLop (w : World) (B : Nat) (cs : List Value) (x : LOp) : Prop := ∃ p m k, cs = [.int .i64 x.kind, .int .i64 x.n, .slice p m k] ∧ I64 x.kind ∧ I64 x.n ∧ CapOk m k ∧ SS w (· < B) p m x.spans
/-- The slice (a, n) holds the calls xs. -/
def LOPS (w : World) (B : Nat) (a : Option Addr) (n : Nat) (xs : List LOp) : Prop :=
  xs.length = n ∧ ∀ j, j < n → ∃ b o x p m k, a = some ⟨b, o, none⟩ ∧ b < B ∧ xs[j]? = some x ∧ I64 x.kind ∧ I64 x.n ∧ CapOk m k ∧ SS w (· < B) p m x.spans ∧ w.cell? ⟨b, o + j * 3, none⟩ = some (.int .i64 x.kind) ∧ w.cell? ⟨b, o + j * 3 + 1, none⟩ = some (.int .i64 x.n) ∧ w.cell? ⟨b, o + j * 3 + 2, none⟩ = some (.slice p m k)

section
variable {H : Type} {enc : TypeId × Value → H} {P : Program} {w : World}
theorem fd_lops {t o u s i b : TypeId} {g0 g1 g2 f0 f1 f2 f3 : Field} {fuel : Nat} {v : Value} {x : DataW H × List MemPlace} (h : DataW.trod enc P w 0 (fun _ => true) true fuel t [v] = some x) (ht : P.underlying t = some (.slice o)) (ho : P.underlying o = some (.struct #[g0, g1, g2])) (u0 : g0.type = i) (u1 : g1.type = i) (u2 : g2.type = u) (q0 : g0.offset = 0) (q1 : g1.offset = 1) (q2 : g2.offset = 2)
    (hu : P.underlying u = some (.slice s)) (hs : P.underlying s = some (.struct #[f0, f1, f2, f3]))
    (t0 : f0.type = i) (t1 : f1.type = i) (t2 : f2.type = i) (t3 : f3.type = b) (o0 : f0.offset = 0) (o1 : f1.offset = 1) (o2 : f2.offset = 2) (o3 : f3.offset = 3)
    (hi : P.underlying i = some (.int .i64)) (hb : P.underlying b = some .bool) (ci : P.cellsOf i = 1) (cb : P.cellsOf b = 1) (cs4 : P.cellsOf s = 4) (hby : P.bytesOf s = 32) (cu : P.cellsOf u = 1) (co : P.cellsOf o = 3) (bo : P.bytesOf o = 40) (hsz : ∀ q ∈ x.1.weights P t, q ≤ reachBytes) :
    ∃ a n c l, v = .slice a n c ∧ n ≤ c ∧ c * 40 ≤ 140737488351232 ∧ LOPS w w.heap.size a n l := by
  obtain ⟨a, n, c, l, h1, h2, _, h3, h4⟩ := open_rs (R := RLop w w.heap.size) ht co (by omega) bo (fun fu cs y hh hq => by
    obtain ⟨xs, n, rfl, rfl, hl, hxl, hf⟩ := DataW.trod_struct ho hh
    rw [co] at hl
    match cs, hl, xs, hxl with
    | [v0, v1, v2], _, [y0, y1, y2], _ =>
      have k0 := hf 0 g0 rfl
      have k1 := hf 1 g1 rfl
      have k2 := hf 2 g2 rfl
      rw [u0, q0, ci] at k0
      rw [u1, q1, ci] at k1
      rw [u2, q2, cu] at k2
      obtain ⟨x0, e0, j0⟩ := fd_int (v := v0) (x := y0) (by simpa using k0) hi
      obtain ⟨x1, e1, j1⟩ := fd_int (v := v1) (x := y1) (by simpa using k1) hi
      obtain ⟨p, m, k, l, e2, j2, j3, j4⟩ := fd_spans (v := v2) (x := y2) (by simpa using k2) hu hs t0 t1 t2 t3 o0 o1 o2 o3 hi hb ci cb cs4 hby (fun q hq' => hq q (weights_field (j := 2) (f := g2) (parts := [y0.1, y1.1, y2.1]) ho rfl rfl (by rw [u2]; exact hq')))
      subst e0
      subst e1
      subst e2
      exact ⟨⟨x0, x1, l⟩, p, m, k, rfl, j0, j1, ⟨j2, by unfold maxLen; omega, by omega⟩, j4⟩) h hsz
  refine ⟨a, n, c, l, by simpa using h1, h2, h3, h4.1, fun j hj => ?_⟩
  obtain ⟨b, o, cs, x, e, hlt, _, hc, hx, p, m, k, rfl, i0, i1, hk, hS⟩ := h4.2 j hj
  exact ⟨b, o, x, p, m, k, e, hlt, hx, i0, i1, hk, hS, by simpa using hc 0 _ rfl, by simpa using hc 1 _ rfl, by simpa using hc 2 _ rfl⟩
end

section
variable {w wr w1 w2 : World} {F F' : Nat → Prop} {g : Nat} {A : Option Addr} {n c : Nat} {cells : List Value} {es ts : List En} {last : Nat}
theorem AL.keep (h : AL w wr F A n c cells es) (hk : ∀ r, (Value.slice A n c).ownBlock = some r → w1.heap[r]? = wr.heap[r]?) : AL w w1 F A n c cells es := by
  refine ⟨⟨h.row.1, ?_⟩, h.len, h.els, h.apart⟩
  rcases h.row.2 with h0 | ⟨g, cap, cur, h1, h2, h3, h4⟩
  · exact .inl h0
  · exact .inr ⟨g, cap, cur, h1, h2, (hk g (by rw [h1]; rfl)).trans h3, h4⟩
/-- A store outside of all that the law hangs on. -/
theorem AT.but (h : AT w wr F g A n c cells es ts last) {r : Nat} (hb : But r wr w1) (hr : w.heap.size ≤ r) (hF : ¬ F r) (hA : (Value.slice A n c).ownBlock ≠ some r) : AT w w1 F g A n c cells es ts last :=
  ⟨h.al.keep fun b hb' => hb.block b fun e => hA (e ▸ hb'), h.t.keep (by rw [hb.size]; exact Nat.le_refl _) fun b hf => hb.block b fun e => hF (e ▸ hf), h.lo, ⟨hb.os.trans h.bel.os, hb.tape.trans h.bel.tape, hb.output.trans h.bel.output, by rw [hb.size]; exact h.bel.size, fun k hk => (hb.block k (by omega)).trans (h.bel.block k hk)⟩⟩
/-- Behind an Add of spans that lie in new memory. -/
theorem AT.add' (h : AT w wr F g A n c cells es es last) {a : Option Addr} {m k : Nat} {xs : List Sp} {e : TypeId} {B : Nat} (ho : wr.ownsRow B e 4 (.slice a m k) m (xs.flatMap spC)) (hB : ∀ b, F b → b < B) (hx : ∀ x ∈ xs, SpOk x) (hm : m ≤ 1000) (hn : n ≤ 1000) (hl : last ≤ 1000) (hr : xs.all rightOf = true) :
    Calls Try.prog 14 #[.pointer (some ⟨g, 0, none⟩), .slice a m k] wr fun e w' => e = .returned (.tuple #[.int .i64 ((last : Int) + 1), .nilIface]) ∧ ∃ F', AT w w' F' g A n c cells es (es ++ [⟨(last : Int) + 1, xs⟩]) (last + 1) ∧ Turn F wr w' ∧ ∀ b, F' b → F b ∨ wr.heap.size ≤ b := by
  have hle := h.al.len
  have hcap := own_cap ho
  refine (add_ok F g es last a m k xs wr h.t ((SS.of_own ho hx).keep (fun _ _ => rfl) fun b hb => ⟨hb.2, fun hf => by have := hB b hf; omega⟩) ⟨hcap.1, hcap.2, by omega⟩ (by omega) (by omega) (by omega) hr).mono ?_
  rintro e w' ⟨rfl, ht, F', hT, hF⟩
  refine ⟨rfl, F', ⟨h.al.turn ht hF, hT, fun b hb => ?_, h.bel.trans (ht.below h.lo h.bel.size)⟩, ht, hF⟩
  rcases hF b hb with h1 | h1
  · exact h.lo b h1
  · exact Nat.le_trans h.bel.size h1
theorem AT.no' (h : AT w wr F g A n c cells es es last) {a : Option Addr} {m k : Nat} {xs : List Sp} {e : TypeId} {B : Nat} (ho : wr.ownsRow B e 4 (.slice a m k) m (xs.flatMap spC)) (hx : ∀ x ∈ xs, SpOk x) (hm : m ≤ 1000) (hr : xs.all rightOf = false) :
    Calls Try.prog 14 #[.pointer (some ⟨g, 0, none⟩), .slice a m k] wr fun e w' => e = .returned (.tuple #[.int .i64 0, .iface 66 (.int .i64 20)]) ∧ AT w w' F g A n c cells es es last ∧ Below wr.heap.size wr w' := by
  have hcap := own_cap ho
  refine (add_bad g a m k xs wr ((SS.of_own ho hx).keep (fun _ _ => rfl) fun b hb => hb.2) ⟨hcap.1, hcap.2, by omega⟩ hr).mono ?_
  rintro e w' ⟨rfl, hb⟩
  exact ⟨rfl, h.below hb, hb⟩
/-- Behind the append to the law's row. -/
theorem AT.snoc' {xs : List Sp} (h : AT w wr F g A n c cells es (es ++ [⟨(last : Int) + 1, xs⟩]) (last + 1)) {W : World} (hb : Below wr.heap.size wr W) {p : Option Addr} {m k : Nat} (hs : SS w (· < w.heap.size) p m xs) (hk : CapOk m k) (hl : last ≤ 1000)
    {A' : Option Addr} {c' : Nat} {w3 : World} (ho : w3.ownsRow w.heap.size 42 2 (.slice A' (n + 1) c') (n + 1) (cells ++ [.int .i64 ((last : Int) + 1), .slice p m k])) (hg : W.grownBy w3 (Value.slice A n c).ownBlock)
    (hat : (Value.slice A' (n + 1) c').ownBlock = (Value.slice A n c).ownBlock ∨ (Value.slice A' (n + 1) c').ownBlock = some W.heap.size) : AT w w3 F g A' (n + 1) c' (cells ++ [.int .i64 ((last : Int) + 1), .slice p m k]) (es ++ [⟨(last : Int) + 1, xs⟩]) (es ++ [⟨(last : Int) + 1, xs⟩]) (last + 1) := by
  have hbW := h.below hb
  refine ⟨h.al.put (e := ⟨(last : Int) + 1, xs⟩) h.t.lt hb hs hk ⟨by simp only; omega, by simp only; omega⟩ ho hat, ?_, h.lo, hbW.bel.grown hg hbW.bel.size fun r hr => (h.al.blk hr).1⟩
  refine hbW.t.keep hg.size fun b hf => hg.block b (hbW.t.lt b hf) fun e => ?_
  exact h.al.apart b e.symm hf
end

/-- The numbers of the table: they rise, and none is above the last. -/
def NumOk (es : List En) (last : Nat) : Prop := Up es ∧ ∀ e ∈ es, 1 ≤ e.num ∧ e.num ≤ (last : Int)
theorem NumOk.snoc {es : List En} {last : Nat} (h : NumOk es last) (xs : List Sp) : NumOk (es ++ [⟨(last : Int) + 1, xs⟩]) (last + 1) := by
  refine ⟨List.pairwise_append.2 ⟨h.1, List.pairwise_singleton _ _, fun x hx y hy => ?_⟩, fun e he => ?_⟩
  · obtain rfl := List.mem_singleton.1 hy
    have := (h.2 x hx).2
    simp only
    omega
  · rcases List.mem_append.1 he with h1 | h1
    · have := h.2 e h1
      exact ⟨this.1, by omega⟩
    · obtain rfl := List.mem_singleton.1 h1
      simp only
      omega
theorem erase_filter {es : List En} (h : Up es) {i : Nat} {e : En} (hi : es[i]? = some e) : es.eraseIdx i = es.filter fun x => x.num != e.num := by
  obtain ⟨hl, he⟩ := List.getElem?_eq_some_iff.1 hi
  have hsplit : es = es.take i ++ e :: es.drop (i + 1) := by rw [← he, List.getElem_cons_drop, List.take_append_drop]
  have hA : ∀ x ∈ es.take i, (x.num != e.num) = true := fun x hx => by
    obtain ⟨j, hj⟩ := List.getElem?_of_mem hx
    have hjl := (List.getElem?_eq_some_iff.1 hj).1
    rw [List.length_take] at hjl
    rw [List.getElem?_take_of_lt (by omega)] at hj
    have := h.get hj hi (by omega)
    rw [bne_iff_ne]
    omega
  have hB : ∀ x ∈ es.drop (i + 1), (x.num != e.num) = true := fun x hx => by
    obtain ⟨j, hj⟩ := List.getElem?_of_mem hx
    rw [List.getElem?_drop] at hj
    have := h.get hi hj (by omega)
    rw [bne_iff_ne]
    omega
  rw [List.eraseIdx_eq_take_drop_succ]
  conv => rhs; rw [hsplit]
  rw [List.filter_append, List.filter_cons_of_neg (by simp), List.filter_eq_self.2 hA, List.filter_eq_self.2 hB]
theorem may_out {es : List En} {last : Nat} (h : NumOk es last) {num : Int} (hn : num < 1 ∨ (last : Int) < num) : mayOf es num = false ∧ aheadOf es num = [] := by
  rcases placeOf_cases es num with ⟨h1, _⟩ | ⟨i, e, _, h2, h3, _⟩
  · unfold mayOf aheadOf
    rw [h1]
    simp
  · have := h.2 e (List.mem_of_getElem? h2)
    omega
theorem may_in {es : List En} (h : Up es) {i : Nat} {e : En} (hi : es[i]? = some e) : mayOf es e.num = (aheadOf es e.num).isEmpty := by
  unfold mayOf
  rw [h.place hi]
  simp
theorem ahead_mem {es : List En} {num y : Int} (hy : y ∈ aheadOf es num) : y ∈ es.map En.num := by
  unfold aheadOf at hy
  split at hy
  · cases hy
  · unfold aheadAt at hy
    obtain ⟨e, he, rfl⟩ := List.mem_map.1 hy
    exact List.mem_map.2 ⟨e, List.mem_of_mem_take (List.mem_filter.1 he).1, rfl⟩
theorem ahead_len (es : List En) (num : Int) : (aheadOf es num).length ≤ es.length := by
  unfold aheadOf
  split
  · simp
  · unfold aheadAt
    rw [List.length_map]
    exact Nat.le_trans (List.length_filter_le _ _) (by rw [List.length_take]; omega)
/-- A grown row leaves another one as it was. -/
theorem own_other {w w' : World} {base : Nat} {e : TypeId} {s n : Nat} {v : Value} {xs : List Value} {r : Option Nat} (h : w.ownsRow base e s v n xs) (hg : w.grownBy w' r) (hr : ∀ b, v.ownBlock = some b → r ≠ some b) : w'.ownsRow base e s v n xs := by
  refine ⟨h.1, ?_⟩
  rcases h.2 with h0 | ⟨g, cap, cur, h1, h2, h3, h4⟩
  · exact .inl h0
  · exact .inr ⟨g, cap, cur, h1, h2, (hg.block g (Array.getElem?_eq_some_iff.1 h3).1 (fun e => hr g (by rw [h1]; rfl) e.symm)).trans h3, h4⟩
theorem NumOk.erase {es : List En} {last : Nat} (h : NumOk es last) (i : Nat) : NumOk (es.eraseIdx i) last :=
  ⟨List.Pairwise.sublist (List.eraseIdx_sublist es i) h.1, fun e he => h.2 e ((List.eraseIdx_sublist es i).subset he)⟩
end Go.Proofs.Ytgabjgmimebelaa
