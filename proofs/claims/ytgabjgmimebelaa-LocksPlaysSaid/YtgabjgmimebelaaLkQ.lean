/- The law's own row of entries beside a table: what it tells, what Add and append leave of it. -/
import Derived.Test.YtgabjgmimebelaaLkP
import Derived.Test.YtgabjgmimebelaaAwake15
namespace Go.Proofs.Ytgabjgmimebelaa
open Go.RowKit Go.Shelf

theorem el_rent : ElemOk Try.prog 33 42 2 32 := .mk' Try.underlying33 (z := .agg #[.int .i64 0, .slice none 0 0]) (by kernel_rfl) rfl (by decide)

/-- The law's row of entries: new memory behind w, apart from F; the spans read in w. -/
structure AL (w wr : World) (F : Nat → Prop) (A : Option Addr) (n c : Nat) (cells : List Value) (es : List En) : Prop where
  row : wr.ownsRow w.heap.size 42 2 (.slice A n c) n cells
  len : es.length = n
  els : ∀ j e, es[j]? = some e → ∃ a m k, cells[j * 2]? = some (.int .i64 e.num) ∧ cells[j * 2 + 1]? = some (.slice a m k) ∧ I64 e.num ∧ CapOk m k ∧ SS w (· < w.heap.size) a m e.spans
  apart : ∀ r, (Value.slice A n c).ownBlock = some r → ¬ F r
section
variable {w wr w1 : World} {F F' : Nat → Prop} {A : Option Addr} {n c : Nat} {cells : List Value} {es : List En}
theorem AL.blk (h : AL w wr F A n c cells es) {r : Nat} (hr : (Value.slice A n c).ownBlock = some r) : w.heap.size ≤ r ∧ r < wr.heap.size := h.row.lt r hr
theorem AL.list (h : AL w wr F A n c cells es) (hb : Below w.heap.size w wr) : ES wr (· < wr.heap.size) A n es := by
  refine ⟨h.len, fun j hj => ?_⟩
  have hl := h.len
  obtain ⟨a, m, k, h0, h1, hi, hc, hs⟩ := h.els j _ (List.getElem?_eq_getElem (by omega))
  obtain ⟨r, cap, hv, _, hlt⟩ := h.row.form (by omega)
  have ha : A = some ⟨r, 0, none⟩ := by injection hv
  subst ha
  have c0 := h.row.cells (g := r) rfl _ _ h0
  have c1 := h.row.cells (g := r) rfl _ _ h1
  have e1 : ∀ q, (⟨r, 0, none⟩ : Addr).add q = ⟨r, 0 + q, none⟩ := by intro q; unfold Addr.add; split <;> simp_all
  rw [e1] at c0 c1
  exact ⟨r, 0, _, a, m, k, rfl, hlt, List.getElem?_eq_getElem (by omega), hi, c0, c1, hc, hs.keep (fun b hb' => hb.block b hb') fun b hb' => Nat.lt_of_lt_of_le hb' hb.size⟩
theorem AL.turn (h : AL w wr F A n c cells es) (ht : Turn F wr w1) (hF : ∀ b, F' b → F b ∨ wr.heap.size ≤ b) : AL w w1 F' A n c cells es := by
  refine ⟨⟨h.row.1, ?_⟩, h.len, h.els, fun r hr hf => ?_⟩
  · rcases h.row.2 with h0 | ⟨g, cap, cur, h1, h2, h3, h4⟩
    · exact .inl h0
    · exact .inr ⟨g, cap, cur, h1, h2, (ht.block g (Array.getElem?_eq_some_iff.1 h3).1 (h.apart g (by rw [h1]; rfl))).trans h3, h4⟩
  · rcases hF r hf with h1 | h1
    · exact h.apart r hr h1
    · have := (h.blk hr).2; omega
theorem AL.below (h : AL w wr F A n c cells es) (hb : Below wr.heap.size wr w1) : AL w w1 F A n c cells es := h.turn (Turn.of_below hb) fun _ hb => .inl hb
end

/-- The law's state while entries come: its own row, the table, what was there. -/
structure AT (w wr : World) (F : Nat → Prop) (g : Nat) (A : Option Addr) (n c : Nat) (cells : List Value) (es ts : List En) (last : Nat) : Prop where
  al : AL w wr F A n c cells es
  t : T wr F g ts last
  lo : ∀ b, F b → w.heap.size ≤ b
  bel : Below w.heap.size w wr
section
variable {w wr w1 w2 : World} {F F' : Nat → Prop} {g : Nat} {A : Option Addr} {n c : Nat} {cells : List Value} {es ts : List En} {last : Nat}
theorem AT.below (h : AT w wr F g A n c cells es ts last) (hb : Below wr.heap.size wr w1) : AT w w1 F g A n c cells es ts last :=
  ⟨h.al.below hb, h.t.below hb, h.lo, h.bel.trans (hb.mono h.bel.size)⟩
/-- Behind an Add of spans that lie in new memory. -/
theorem AT.add (h : AT w wr F g A n c cells es es n) {a : Option Addr} {m k : Nat} {xs : List Sp} {e : TypeId} {B : Nat} (ho : wr.ownsRow B e 4 (.slice a m k) m (xs.flatMap spC)) (hB : ∀ b, F b → b < B) (hx : ∀ x ∈ xs, SpOk x) (hm : m ≤ 1000) (hn : n ≤ 1000) (hr : xs.all rightOf = true) :
    Calls Try.prog 14 #[.pointer (some ⟨g, 0, none⟩), .slice a m k] wr fun e w' => e = .returned (.tuple #[.int .i64 ((n : Int) + 1), .nilIface]) ∧ ∃ F', AT w w' F' g A n c cells es (es ++ [⟨(n : Int) + 1, xs⟩]) (n + 1) := by
  have hl := h.al.len
  have hcap := own_cap ho
  refine (add_ok F g es n a m k xs wr h.t ((SS.of_own ho hx).keep (fun _ _ => rfl) fun b hb => ⟨hb.2, fun hf => by have := hB b hf; omega⟩) ⟨hcap.1, hcap.2, by omega⟩ (by omega) (by omega) (by omega) hr).mono ?_
  rintro e w' ⟨rfl, ht, F', hT, hF⟩
  refine ⟨rfl, F', h.al.turn ht hF, hT, fun b hb => ?_, h.bel.trans (ht.below h.lo h.bel.size)⟩
  rcases hF b hb with h1 | h1
  · exact h.lo b h1
  · exact Nat.le_trans h.bel.size h1
theorem AT.no (h : AT w wr F g A n c cells es es n) {a : Option Addr} {m k : Nat} {xs : List Sp} {e : TypeId} {B : Nat} (ho : wr.ownsRow B e 4 (.slice a m k) m (xs.flatMap spC)) (hx : ∀ x ∈ xs, SpOk x) (hm : m ≤ 1000) (hr : xs.all rightOf = false) :
    Calls Try.prog 14 #[.pointer (some ⟨g, 0, none⟩), .slice a m k] wr fun e w' => e = .returned (.tuple #[.int .i64 0, .iface 66 (.int .i64 20)]) ∧ AT w w' F g A n c cells es es n := by
  have hcap := own_cap ho
  refine (add_bad g a m k xs wr ((SS.of_own ho hx).keep (fun _ _ => rfl) fun b hb => hb.2) ⟨hcap.1, hcap.2, by omega⟩ hr).mono ?_
  rintro e w' ⟨rfl, hb⟩
  exact ⟨rfl, h.below hb⟩
/-- Behind the append to the law's row. -/
theorem AT.snoc {xs : List Sp} (h : AT w wr F g A n c cells es (es ++ [⟨(n : Int) + 1, xs⟩]) (n + 1)) {W : World} (hb : Below wr.heap.size wr W) {p : Option Addr} {m k : Nat} (hs : SS w (· < w.heap.size) p m xs) (hk : CapOk m k) (hn : n ≤ 1000)
    {A' : Option Addr} {c' : Nat} {w3 : World} (ho : w3.ownsRow w.heap.size 42 2 (.slice A' (n + 1) c') (n + 1) (cells ++ [.int .i64 ((n : Int) + 1), .slice p m k])) (hg : W.grownBy w3 (Value.slice A n c).ownBlock)
    (hat : (Value.slice A' (n + 1) c').ownBlock = (Value.slice A n c).ownBlock ∨ (Value.slice A' (n + 1) c').ownBlock = some W.heap.size) : AT w w3 F g A' (n + 1) c' (cells ++ [.int .i64 ((n : Int) + 1), .slice p m k]) (es ++ [⟨(n : Int) + 1, xs⟩]) (es ++ [⟨(n : Int) + 1, xs⟩]) (n + 1) := by
  have hl := h.al.len
  have hcl : cells.length = n * 2 := h.al.row.1
  have hbW := h.below hb
  refine ⟨⟨ho, by simp [hl], fun j e he => ?_, fun r hr hf => ?_⟩, ?_, h.lo, hbW.bel.grown hg hbW.bel.size fun r hr => (h.al.blk hr).1⟩
  · by_cases hj : j < es.length
    · rw [List.getElem?_append_left hj] at he
      obtain ⟨a, m', k', h0, h1, h2⟩ := h.al.els j e he
      exact ⟨a, m', k', by rw [List.getElem?_append_left (by omega)]; exact h0, by rw [List.getElem?_append_left (by omega)]; exact h1, h2⟩
    · have hjl := (List.getElem?_eq_some_iff.1 he).1
      rw [List.length_append, List.length_singleton] at hjl
      obtain rfl : j = n := by omega
      rw [List.getElem?_append_right (by omega), hl, Nat.sub_self] at he
      obtain rfl : (⟨(j : Int) + 1, xs⟩ : En) = e := by simpa using he
      exact ⟨p, m, k, by rw [List.getElem?_append_right (by omega), hcl, Nat.sub_self]; rfl, by rw [List.getElem?_append_right (by omega), hcl, show j * 2 + 1 - j * 2 = 1 by omega]; rfl, ⟨by simp only; omega, by simp only; omega⟩, hk, hs⟩
  · rcases hat with h1 | h1
    · exact h.al.apart r (h1 ▸ hr) hf
    · rw [h1] at hr
      injection hr with hr
      have := hbW.t.lt r hf
      omega
  · refine hbW.t.keep hg.size fun b hf => hg.block b (hbW.t.lt b hf) fun e => ?_
    exact h.al.apart b e.symm hf
end

/-- The table while it is worked off: seen from the world W at the work's start. -/
structure LT (W wr : World) (F : Nat → Prop) (g : Nat) (es : List En) (last : Nat) (D : Option Addr) (C : Nat) (dl : List Int) : Prop where
  t : T wr F g es last
  turn : Turn F W wr
  lo : ∀ b, F b → b < W.heap.size
  row : wr.ownsRow W.heap.size 3 1 (.slice D dl.length C) dl.length (dl.map i64v)
section
variable {W wr w1 : World} {F : Nat → Prop} {g : Nat} {es : List En} {last C : Nat} {D : Option Addr} {dl : List Int}
theorem LT.below (h : LT W wr F g es last D C dl) (hb : Below wr.heap.size wr w1) : LT W w1 F g es last D C dl :=
  ⟨h.t.below hb, h.turn.trans (Turn.of_below (F := F) hb) fun _ hb => .inl hb, h.lo, own_below h.row hb⟩
theorem LT.done (h : LT W wr F g es last D C dl) (num : Int) (hn : I64 num) {i : Nat} (hi : i < es.length) (hp : placeOf es num = i) (hm : mayOf es num = true) :
    Calls Try.prog 18 #[.pointer (some ⟨g, 0, none⟩), .int .i64 num] wr fun e w' => e = .returned .nilIface ∧ Turn F wr w' ∧ LT W w' F g (es.eraseIdx i) last D C dl := by
  refine (done_ok F g es last num wr h.t hn i hi hp hm).mono ?_
  rintro e w' ⟨rfl, ht, hT⟩
  refine ⟨rfl, ht, hT, h.turn.trans ht fun _ hb => .inl hb, h.lo, ⟨h.row.1, ?_⟩⟩
  rcases h.row.2 with h0 | ⟨r, cap, cur, h1, h2, h3, h4⟩
  · exact .inl h0
  · exact .inr ⟨r, cap, cur, h1, h2, (ht.block r (Array.getElem?_eq_some_iff.1 h3).1 fun hf => by have := h.lo r hf; omega).trans h3, h4⟩
theorem LT.snoc (h : LT W wr F g es last D C dl) {V : World} (hb : Below wr.heap.size wr V) {x : Int} {D' : Option Addr} {C' : Nat} {w3 : World} (ho : w3.ownsRow W.heap.size 3 1 (.slice D' (dl.length + 1) C') (dl.length + 1) (dl.map i64v ++ [i64v x])) (hg : V.grownBy w3 (Value.slice D dl.length C).ownBlock) :
    LT W w3 F g es last D' C' (dl ++ [x]) := by
  have hV := h.below hb
  refine ⟨hV.t.keep hg.size fun b hf => hg.block b (hV.t.lt b hf) fun e => ?_, ⟨hg.os.trans hV.turn.os, hg.tape.trans hV.turn.tape, hg.output.trans hV.turn.output, Nat.le_trans hV.turn.size hg.size, fun k hk hf => ?_⟩, h.lo, ?_⟩
  · have := own_base hV.row b e.symm
    have := h.lo b hf
    omega
  · refine (hg.block k (by have := hV.turn.size; omega) fun e => ?_).trans (hV.turn.block k hk hf)
    have := own_base hV.row k e.symm
    omega
  · rw [List.length_append, List.length_singleton, List.map_append]
    exact ho
end
end Go.Proofs.Ytgabjgmimebelaa
