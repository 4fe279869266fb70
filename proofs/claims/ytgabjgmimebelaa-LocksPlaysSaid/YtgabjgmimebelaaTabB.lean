/- Entries in slices, the table's state; entry.clash, Table.place, Table.Ahead, Table.May by contract. -/
import Derived.Test.YtgabjgmimebelaaTabA
import Derived.Deep.RegionHeld3
namespace Go.Proofs.Ytgabjgmimebelaa
open Go.RowKit Go.Shelf

/-- An entry. -/
structure En where
  num : Int
  spans : List Sp
/-- Do two entries clash? -/
def enClash (e o : En) : Bool := e.spans.any fun x => o.spans.any fun y => clashOf x y

theorem el_int : ElemOk Try.prog 30 3 1 8 := .mk' Try.underlying30 (z := .int .i64 0) (by kernel_rfl) rfl (by decide)
theorem el_span : ElemOk Try.prog 39 24 4 32 := .mk' Try.underlying39 (z := .agg #[.int .i64 0, .int .i64 0, .int .i64 0, .bool false]) (by kernel_rfl) rfl (by decide)
theorem el_entry : ElemOk Try.prog 62 69 2 32 := .mk' Try.underlying62 (z := .agg #[.int .i64 0, .slice none 0 0]) (by kernel_rfl) rfl (by decide)

set_option maxRecDepth 20000 in
theorem eclash_any (num num' : Int) (a a' : Option Addr) (n c n' c' : Nat) (xs ys : List Sp) (w : World) (hx : SS w (· < w.heap.size) a n xs) (hc : CapOk n c) (hy : SS w (· < w.heap.size) a' n' ys) (hc' : CapOk n' c') :
    Calls Try.prog 39 #[.agg #[.int .i64 num, .slice a n c], .agg #[.int .i64 num', .slice a' n' c']] w fun e w' => e = .returned (.bool (xs.any fun x => ys.any fun y => clashOf x y)) ∧ Below w.heap.size w w' := by
  have HX := mkHid hx
  have HY := mkHid hy
  have HC := mkHid hc
  have HC' := mkHid hc'
  clear hx hy hc hc'
  go_enter Try.func39, Try.ntmps39
  go_wp2_with fail
  refine (hasS_any (fun x => ys.any fun y => clashOf x y) _ _ _ eg_clash1 a n c xs _ (pred_clash1 _ num' a' n' c' ys _ _ (heap_alloc2_new _ _ _) (HY.out.keep (fun b hh => (Below.heap_alloc _ _ b (by simp; omega)).trans (Below.heap_alloc _ _ b hh)) (fun b hh => by simp; omega)) HC'.out) (HX.out.keep (fun b hh => (Below.heap_alloc _ _ b (by simp; omega)).trans (Below.heap_alloc _ _ b hh)) (fun b hh => by simp; omega)) HC.out).mono ?_
  rintro e w1 ⟨rfl, hb1⟩
  go_wp2_with fail
  go_ret
  exact ⟨rfl, (((Below.refl _ _).alloc (Nat.le_refl _) _).alloc (by simp) _).trans (hb1.mono (by simp; omega))⟩

/-! ## Entries in a slice -/
/-- The slice (a, n) holds the entries es, their spans in blocks that Ok tells, as is its own. -/
def ES (w : World) (Ok : Nat → Prop) (a : Option Addr) (n : Nat) (es : List En) : Prop :=
  es.length = n ∧ ∀ j, j < n → ∃ b o e p m k, a = some ⟨b, o, none⟩ ∧ Ok b ∧ es[j]? = some e ∧ I64 e.num ∧ w.cell? ⟨b, o + j * 2, none⟩ = some (.int .i64 e.num) ∧ w.cell? ⟨b, o + j * 2 + 1, none⟩ = some (.slice p m k) ∧ CapOk m k ∧ SS w Ok p m e.spans
theorem ES.keep {w w' : World} {Ok Ok' : Nat → Prop} {a : Option Addr} {n : Nat} {es : List En} (h : ES w Ok a n es) (hk : ∀ b, Ok b → w'.heap[b]? = w.heap[b]?) (ho : ∀ b, Ok b → Ok' b) : ES w' Ok' a n es :=
  ⟨h.1, fun j hj => by
    obtain ⟨b, o, e, p, m, k, ha, hb, he, hi, h0, h1, hc, hs⟩ := h.2 j hj
    exact ⟨b, o, e, p, m, k, ha, ho b hb, he, hi, (World.cell?_of_block (w := w) (hk b hb)).trans h0, (World.cell?_of_block (w := w) (hk b hb)).trans h1, hc, hs.keep hk ho⟩⟩
theorem ES.below {w w' : World} {B : Nat} {a : Option Addr} {n : Nat} {es : List En} (h : ES w (· < B) a n es) (hb : Below B w w') : ES w' (· < B) a n es := h.keep (fun b hh => hb.block b hh) fun _ hh => hh

/-- What is asked of a predicate on entries. -/
def PredE (g : Nat) (fst caps : Array Value) (p : En → Bool) (w : World) : Prop :=
  ∀ (W : World) (x : En) (a : Option Addr) (n c : Nat), I64 x.num → Below w.heap.size w W → Calls Try.prog g (fst.push (.agg #[.int .i64 x.num, .slice a n c]) ++ caps) W fun e w' => e = .returned (.bool (p x)) ∧ Below w.heap.size w w'

set_option maxRecDepth 20000 in
set_option maxHeartbeats 2000000 in
theorem indexE_any (p : En → Bool) (g : Nat) (fst caps : Array Value) (eg : ∀ args w, (callFunc g args).run Try.prog w = .ok (.enter g args) w) (a : Option Addr) (n c : Nat) (xs : List En) (w : World) (hp : PredE g fst caps p w) (hs : ES w (· < w.heap.size) a n xs) (hc : CapOk n c) :
    Calls Try.prog 43 #[.slice a n c, .func (.func g) fst caps] w fun e w' => e = .returned (.int .i64 (idxOf p xs)) ∧ Below w.heap.size w w' := by
  obtain ⟨hn1, hn2, hn3⟩ := hc
  go_enter Try.func43, Try.ntmps43
  go_wp2_with fail
  go_loopw [8] (fun i wr => ∃ q : Nat, q ≤ n ∧ i = .int .i64 q ∧ Hid (Below w.heap.size w wr) ∧ Hid (∀ j y, j < q → xs[j]? = some y → p y = false)) (fun i _ => n - (intOf i).toNat)
  case atStart => exact ⟨0, Nat.zero_le _, rfl, mkHid (Below.refl _ _), mkHid fun j _ hj => absurd hj (by omega)⟩
  case round =>
    obtain ⟨q, hq, rfl, HB, HN⟩ := hrel
    by_cases hlt : q < n
    · obtain ⟨b, o, x, p', m', k', rfl, hb, hx, hI, h0, h1, _, _⟩ := hs.2 q hlt
      have c0 := (HB.out.cell (p := ⟨b, o + q * 2, none⟩) hb).trans h0
      have c1 := (HB.out.cell (p := ⟨b, o + q * 2 + 1, none⟩) hb).trans h1
      have HX := mkHid hx
      have hcall := hp wr x p' m' k' hI HB.out
      have HS := mkHid hs
      clear h0 h1 hx hs hp
      go_wp2_with fail
      refine hcall.mono ?_
      rintro e w1 ⟨rfl, hb1⟩
      cases hpx : p x with
      | true =>
        go_wp2_with fail
        go_ret
        exact ⟨by rw [idxOf_hit HX.out hpx HN.out]; rfl, hb1⟩
      | false =>
        have HP := mkHid hpx
        clear hpx
        go_wp2_with fail
        go_round
        case measure => simp [intOf]; omega
        case rel =>
          refine ⟨q + 1, by omega, by go_num, mkHid hb1, mkHid fun j y hj hy => ?_⟩
          by_cases e : j < q
          · exact HN.out j y e hy
          · obtain rfl : j = q := by omega
            rw [HX.out] at hy
            injection hy with hy
            rw [← hy]; exact HP.out
    · obtain rfl : q = n := by omega
      have HL := mkHid hs.1
      clear hs hp
      go_wp2_with fail
      go_ret
      refine ⟨?_, HB.out⟩
      rw [idxOf_miss fun j y hy => HN.out j y (by have := (List.getElem?_eq_some_iff.1 hy).1; have := HL.out; omega) hy]
      rfl

/-- An entry with the number that block k holds. -/
theorem pred_place (k : Nat) (num : Int) (fr : Nat × Nat) (w : World) (hn : I64 num) (hk : w.heap[k]? = some (.cells #[.int .i64 num] 3 fr)) :
    PredE 44 #[] #[.pointer (some ⟨k, 0, none⟩)] (fun x => x.num == num) w := fun W x a n c hI hb => by
  show Calls Try.prog 44 #[.agg #[.int .i64 x.num, .slice a n c], .pointer (some ⟨k, 0, none⟩)] W _
  have hlt : k < w.heap.size := (Array.getElem?_eq_some_iff.1 hk).1
  have hltW : k < W.heap.size := Nat.lt_of_lt_of_le hlt hb.size
  have c0 : (W.alloc (.cells #[.int .i64 x.num, .slice a n c] 69)).cell? ⟨k, 0, none⟩ = some (.int .i64 num) := (World.cell?_of_block (w := W) (Below.heap_alloc W _ k hltW)).trans (cell_of_row W k 0 _ _ _ ((hb.block k hlt).trans hk))
  have HB := mkHid hb
  clear hk hb
  obtain ⟨i0, i1⟩ := hI
  obtain ⟨j0, j1⟩ := hn
  go_enter Try.func44, Try.ntmps44
  go_wp2_with fail
  go_ret
  exact ⟨rfl, HB.out.alloc HB.out.size _⟩

/-! ## The table -/
/-- Block g is a table of the entries es, the last number 'last'; F tells its blocks: its own, its row's, its entries' spans'. -/
structure TK (w : World) (F : Nat → Prop) (g : Nat) (A : Option Addr) (n c : Nat) (cells : List Value) (es : List En) (last : Nat) : Prop where
  blk : w.heap[g]? = some (.cells #[.slice A n c, .int .i64 last] 64 (0, 0))
  row : w.ownsRow 0 69 2 (.slice A n c) n cells
  len : es.length = n
  els : ∀ j e, es[j]? = some e → ∃ a m k, cells[j * 2]? = some (.int .i64 e.num) ∧ cells[j * 2 + 1]? = some (.slice a m k) ∧ I64 e.num ∧ CapOk m k ∧ SS w (fun b => F b ∧ b ≠ g ∧ some b ≠ (Value.slice A n c).ownBlock) a m e.spans
  fg : F g
  fr : ∀ r, (Value.slice A n c).ownBlock = some r → F r
  lt : ∀ b, F b → b < w.heap.size
  hi : last ≤ 1000000
  nl : n ≤ 1000000
/-- The same, the row's place left open. -/
def T (w : World) (F : Nat → Prop) (g : Nat) (es : List En) (last : Nat) : Prop := ∃ A n c cells, TK w F g A n c cells es last
section
variable {w w' : World} {F : Nat → Prop} {g : Nat} {A : Option Addr} {n c : Nat} {cells : List Value} {es : List En} {last : Nat}
theorem TK.cap (h : TK w F g A n c cells es last) : CapOk n c := by
  have := own_cap h.row
  exact ⟨this.1, this.2, by have := h.nl; omega⟩
theorem TK.list (h : TK w F g A n c cells es last) : ES w F A n es := by
  refine ⟨h.len, fun j hj => ?_⟩
  have hl := h.len
  obtain ⟨a, m, k, h0, h1, hi, hc, hs⟩ := h.els j _ (List.getElem?_eq_getElem (by omega))
  obtain ⟨r, cap, hv, _, hlt⟩ := h.row.form (by omega)
  have ha : A = some ⟨r, 0, none⟩ := by injection hv
  subst ha
  have c0 := h.row.cells (g := r) rfl _ _ h0
  have c1 := h.row.cells (g := r) rfl _ _ h1
  have e1 : ∀ q, (⟨r, 0, none⟩ : Addr).add q = ⟨r, 0 + q, none⟩ := by intro q; unfold Addr.add; split <;> simp_all
  rw [e1] at c0 c1
  exact ⟨r, 0, _, a, m, k, rfl, h.fr r rfl, List.getElem?_eq_getElem (by omega), hi, c0, c1, hc, hs.keep (fun _ _ => rfl) fun b hb => hb.1⟩
/-- The state while no block of its own turns. -/
theorem TK.keep (h : TK w F g A n c cells es last) (hs : w.heap.size ≤ w'.heap.size) (hk : ∀ b, F b → w'.heap[b]? = w.heap[b]?) : TK w' F g A n c cells es last := by
  refine ⟨(hk g h.fg).trans h.blk, ?_, h.len, fun j e he => ?_, h.fg, h.fr, fun b hb => Nat.lt_of_lt_of_le (h.lt b hb) hs, h.hi, h.nl⟩
  · refine ⟨h.row.1, ?_⟩
    rcases h.row.2 with h0 | ⟨r, cap, cur, h1, h2, h3, h4⟩
    · exact .inl h0
    · exact .inr ⟨r, cap, cur, h1, h2, (hk r (h.fr r (by rw [h1]; rfl))).trans h3, h4⟩
  · obtain ⟨a, m, k, h0, h1, hi, hc, hs⟩ := h.els j e he
    exact ⟨a, m, k, h0, h1, hi, hc, hs.keep (fun b hb => hk b hb.1) fun _ hb => hb⟩
theorem TK.below (h : TK w F g A n c cells es last) (hb : Below w.heap.size w w') : TK w' F g A n c cells es last := h.keep hb.size fun b hF => hb.block b (h.lt b hF)
theorem T.keep (h : T w F g es last) (hs : w.heap.size ≤ w'.heap.size) (hk : ∀ b, F b → w'.heap[b]? = w.heap[b]?) : T w' F g es last := by
  obtain ⟨A, n, c, cells, h⟩ := h
  exact ⟨A, n, c, cells, h.keep hs hk⟩
theorem T.below (h : T w F g es last) (hb : Below w.heap.size w w') : T w' F g es last := by
  obtain ⟨A, n, c, cells, h⟩ := h
  exact ⟨A, n, c, cells, h.below hb⟩
theorem T.glt (h : T w F g es last) : g < w.heap.size := by
  obtain ⟨A, n, c, cells, h⟩ := h
  exact h.lt g h.fg
theorem T.lt (h : T w F g es last) : ∀ b, F b → b < w.heap.size := by
  obtain ⟨A, n, c, cells, h⟩ := h
  exact h.lt
end

def placeOf (es : List En) (num : Int) : Int := idxOf (fun x => x.num == num) es

set_option maxRecDepth 20000 in
theorem place_any (F : Nat → Prop) (g : Nat) (es : List En) (last : Nat) (num : Int) (w : World) (h : T w F g es last) (hn : I64 num) :
    Calls Try.prog 37 #[.pointer (some ⟨g, 0, none⟩), .int .i64 num] w fun e w' => e = .returned (.int .i64 (placeOf es num)) ∧ Below w.heap.size w w' := by
  obtain ⟨A, n, c, cells, h⟩ := h
  have hg := h.lt g h.fg
  have c0 : (w.alloc (.cells #[.int .i64 num] 3)).cell? ⟨g, 0, none⟩ = some (.slice A n c) := (World.cell?_of_block (w := w) (Below.heap_alloc w _ g hg)).trans (cell_of_row w g 0 _ _ _ h.blk)
  have HC := mkHid h.cap
  have HE := mkHid (h.list.keep (w' := w.alloc (.cells #[.int .i64 num] 3)) (Ok' := (· < (w.alloc (.cells #[.int .i64 num] 3)).heap.size)) (fun b hb => Below.heap_alloc _ _ _ (h.lt b hb)) (fun b hb => by have := h.lt b hb; simp; omega))
  have HN := mkHid hn
  clear h hn
  go_enter Try.func37, Try.ntmps37
  go_wp2_with fail
  refine (indexE_any (fun x => x.num == num) _ _ _ eg_place A n c es _ (pred_place _ num _ _ HN.out (heap_alloc_new w _)) HE.out HC.out).mono ?_
  rintro e w1 ⟨rfl, hb1⟩
  go_wp2_with fail
  go_ret
  exact ⟨rfl, ((Below.refl _ _).alloc (Nat.le_refl _) _).trans (hb1.mono (by simp))⟩

end Go.Proofs.Ytgabjgmimebelaa
