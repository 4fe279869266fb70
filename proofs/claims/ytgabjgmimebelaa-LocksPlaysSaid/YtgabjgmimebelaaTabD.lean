/- New, slices.Clone of spans, Table.Add by contract. -/
import Derived.Test.YtgabjgmimebelaaTabC
import Derived.Lib.SlBytesConst
namespace Go.Proofs.Ytgabjgmimebelaa
open Go.RowKit Go.Shelf

/-- An operation's own law for append, for a region that draws its order. -/
theorem step_app {P : Program} (w : World) {ops : Array Oper} {o : Oper} {a : Act} {K : Act → World → Prop} {Q : Exit → Act → World → Prop} {E : Prop} (hgd : o.guard = none) (s x : Operand) (t : TypeId)
    (ho : o.op = .call { callee := .builtin .append, args := #[s, x], argTypes := #[t, t] })
    (base : Nat) {e : TypeId} {size bytes : Nat} (he : ElemOk P t e size bytes) (A : Option Addr) (n c : Nat) (xs : List Value) (hs : a.eval s = .slice A n c) (hown : w.ownsRow base e size (.slice A n c) n xs)
    (B : Nat) (A2 : Option Addr) (m c2 : Nat) (news : List Value) (hx : a.eval x = .slice A2 m c2) (hr : SL w B size A2 m news) (h1 : ∀ u ∈ news, u.oneCell' = true)
    (h63 : n + m ≤ maxLen) (hbytes : (n + m) * bytes ≤ 140737488355328) (hbase : base ≤ w.heap.size)
    (h : ∀ A' c' w', w'.ownsRow base e size (.slice A' (n + m) c') (n + m) (xs ++ news) → w.grownBy w' (Value.slice A n c).ownBlock →
      ((Value.slice A' (n + m) c').ownBlock = (Value.slice A n c).ownBlock ∨ (Value.slice A' (n + m) c').ownBlock = some w.heap.size) → K (a.put o.dst (.slice A' (n + m) c')) w') :
    if Region.wanted o (yielded ops a.tmps) = true then Oper.wp P o a w K Q else E := by
  have hw : Region.wanted o (yielded ops a.tmps) = true := by simp [Region.wanted, hgd]
  rw [if_pos hw]
  obtain ⟨A', c', w', hrun, h2, h3, h4⟩ := run_app (P := P) w base (ty := o.type) he A n c xs hown B A2 m c2 news hr h1 h63 hbytes hbase
  unfold Oper.wp execOp
  simp only [ho, resolve, invoke, builtin, Sem.run_bind, Sem.run_pure, Result.andThen_ok, List.map_toArray, List.map_cons, List.map_nil, hs, hx, hrun]
  exact h A' c' w' h2 h3 h4

/-! ## Frames -/
/-- What lay in w and is not of F lies unturned in w'. -/
structure Turn (F : Nat → Prop) (w w' : World) : Prop where
  os : w'.os = w.os
  tape : w'.tape = w.tape
  output : w'.output = w.output
  size : w.heap.size ≤ w'.heap.size
  block : ∀ k, k < w.heap.size → ¬ F k → w'.heap[k]? = w.heap[k]?
section
variable {F F' : Nat → Prop} {w w1 w' : World} {B : Nat}
theorem Turn.of_below (h : Below w.heap.size w w') : Turn F w w' := ⟨h.os, h.tape, h.output, h.size, fun k hk _ => h.block k hk⟩
theorem Turn.below (h : Turn F w w') (hF : ∀ b, F b → B ≤ b) (hB : B ≤ w.heap.size) : Below B w w' := ⟨h.os, h.tape, h.output, h.size, fun k hk => h.block k (by omega) fun hf => by have := hF k hf; omega⟩
theorem Turn.trans (h : Turn F w w1) (k : Turn F' w1 w') (hF : ∀ b, F' b → F b ∨ w.heap.size ≤ b) : Turn F w w' :=
  ⟨k.os.trans h.os, k.tape.trans h.tape, k.output.trans h.output, Nat.le_trans h.size k.size, fun b hb hf => (k.block b (Nat.lt_of_lt_of_le hb h.size) fun hf' => by rcases hF b hf' with h1 | h1; exact hf h1; omega).trans (h.block b hb hf)⟩
end

theorem flat_get {α β : Type} (f : α → List β) (k : Nat) (hf : ∀ x, (f x).length = k) : ∀ (xs : List α) (j i : Nat), i < k → (xs.flatMap f)[j * k + i]? = xs[j]?.bind fun x => (f x)[i]?
  | [], j, i, _ => by simp
  | x :: xs, 0, i, hi => by
    rw [List.flatMap_cons, List.getElem?_append_left (by rw [hf]; omega)]
    simp
  | x :: xs, j + 1, i, hi => by
    rw [List.flatMap_cons, List.getElem?_append_right (by rw [hf, Nat.add_mul]; omega), hf, show (j + 1) * k + i - k = j * k + i by rw [Nat.add_mul]; omega, flat_get f k hf xs j i hi]
    rfl
theorem flat_len {α β : Type} (f : α → List β) (k : Nat) (hf : ∀ x, (f x).length = k) (xs : List α) : (xs.flatMap f).length = xs.length * k := by
  induction xs with
  | nil => simp
  | cons x xs ih => rw [List.flatMap_cons, List.length_append, hf, ih, List.length_cons, Nat.add_mul]; omega

/-- A span's cells. -/
def spC (s : Sp) : List Value := [.int .i64 s.vol, .int .i64 s.frm, .int .i64 s.len, .bool s.wr]
theorem spC_one (xs : List Sp) : ∀ u ∈ xs.flatMap spC, u.oneCell' = true := by
  intro u hu
  obtain ⟨s, _, hs⟩ := List.mem_flatMap.1 hu
  simp only [spC, List.mem_cons, List.not_mem_nil, or_false] at hs
  rcases hs with rfl | rfl | rfl | rfl <;> rfl
theorem SS.sl {w : World} {B : Nat} {a : Option Addr} {n : Nat} {xs : List Sp} (h : SS w (· < B) a n xs) : SL w B 4 a n (xs.flatMap spC) := by
  refine ⟨by rw [flat_len spC 4 (fun _ => rfl), h.1], fun j hj => ?_⟩
  obtain ⟨b, o, x, ha, hb, hx, _, h0, h1, h2, h3⟩ := h.2 (j / 4) (by omega)
  refine ⟨b, o, ha, hb, ?_⟩
  have hm : j % 4 < 4 := Nat.mod_lt _ (by omega)
  have hj4 : j = j / 4 * 4 + j % 4 := by omega
  have hg := flat_get spC 4 (fun _ => rfl) xs (j / 4) (j % 4) hm
  rw [← hj4, hx] at hg
  rw [hg]
  clear hg
  generalize j / 4 = p at *
  generalize j % 4 = i at *
  subst hj4
  have : i = 0 ∨ i = 1 ∨ i = 2 ∨ i = 3 := by omega
  rcases this with rfl | rfl | rfl | rfl
  · exact h0
  · exact h1
  · exact h2
  · exact h3
theorem SS.of_own {w : World} {base : Nat} {e : TypeId} {a : Option Addr} {n c : Nat} {xs : List Sp} (h : w.ownsRow base e 4 (.slice a n c) n (xs.flatMap spC)) (ho : ∀ x ∈ xs, SpOk x) : SS w (fun b => base ≤ b ∧ b < w.heap.size) a n xs := by
  have hl : xs.length = n := by have := h.1; rw [flat_len spC 4 (fun _ => rfl)] at this; omega
  refine ⟨hl, fun j hj => ?_⟩
  obtain ⟨r, cap, hv, hb, hlt⟩ := h.form (by omega)
  have ha : a = some ⟨r, 0, none⟩ := by injection hv
  subst ha
  have hx : xs[j]? = some xs[j] := List.getElem?_eq_getElem (by omega)
  have e1 : ∀ q, (⟨r, 0, none⟩ : Addr).add q = ⟨r, 0 + q, none⟩ := by intro q; unfold Addr.add; split <;> simp_all
  have cell : ∀ i v, i < 4 → (spC xs[j])[i]? = some v → w.cell? ⟨r, 0 + (j * 4 + i), none⟩ = some v := by
    intro i v hi hv
    have := h.cells (g := r) rfl (j * 4 + i) v (by rw [flat_get spC 4 (fun _ => rfl) xs j i hi, hx]; exact hv)
    rwa [e1] at this
  refine ⟨r, 0, xs[j], rfl, ⟨hb, hlt⟩, hx, ho _ (List.getElem_mem _), ?_, ?_, ?_, ?_⟩
  · exact cell 0 _ (by omega) rfl
  · rw [Nat.add_assoc]; exact cell 1 _ (by omega) rfl
  · rw [Nat.add_assoc]; exact cell 2 _ (by omega) rfl
  · rw [Nat.add_assoc]; exact cell 3 _ (by omega) rfl

set_option maxRecDepth 20000 in
theorem new_any (w : World) : Calls Try.prog 13 #[] w fun e w' => e = .returned (.pointer (some ⟨w.heap.size, 0, none⟩)) ∧ T w' (fun b => b = w.heap.size) w.heap.size [] 0 ∧ Below w.heap.size w w' := by
  go_enter Try.func13, Try.ntmps13
  go_wp2_with fail
  go_ret
  refine ⟨rfl, ⟨none, 0, 0, [], ?_⟩, (Below.refl _ _).alloc (Nat.le_refl _) _⟩
  exact { blk := heap_alloc_new w _, row := World.ownsRow_nil _ _ _ _, len := rfl, els := fun j e h => by { simp at h }, fg := rfl, fr := fun r h => by { cases h }, lt := fun b hb => by { subst hb; simp }, hi := by omega, nl := by omega }

/-- A new slice of spans is answered; what was there is as it was. -/
def RetS (w : World) (xs : List Sp) (e : Ending) (w' : World) : Prop :=
  ∃ A c, e = .returned (.slice A xs.length c) ∧ w'.ownsRow w.heap.size 24 4 (.slice A xs.length c) xs.length (xs.flatMap spC) ∧ Below w.heap.size w w'

set_option maxRecDepth 20000 in
theorem cloneS_any (a : Option Addr) (n c : Nat) (xs : List Sp) (w : World) (hs : SS w (· < w.heap.size) a n xs) (hn : n ≤ 1000000) :
    Calls Try.prog 34 #[.slice a n c] w (RetS w xs) := by
  have hq := fun (w : World) (a : Option Addr) (n c n' c' : Nat) => Lib.run_eql_slice_nil (P := Try.prog) w 39 24 a n c n' c' Try.underlying39
  obtain rfl := hs.1
  have HS := mkHid hs
  clear hs
  rcases a with _ | ad
  · have hn0 : xs.length = 0 := by
      rcases Nat.eq_zero_or_pos xs.length with h0 | h0
      · exact h0
      · obtain ⟨b, o, _, hh, _⟩ := HS.out.2 0 h0
        cases hh
    obtain rfl := List.eq_nil_of_length_eq_zero hn0
    go_enter Try.func34, Try.ntmps34
    go_wp2_with fail
    go_ret
    exact ⟨none, 0, rfl, World.ownsRow_nil _ _ _ _, Below.refl _ _⟩
  · go_enter Try.func34, Try.ntmps34
    go_wp2_with (at_builtin; refine wpList_app _ rfl (.tmp 5) (.tmp 6) _ rfl w.heap.size el_span (some ⟨w.heap.size, 0, none⟩) 0 0 [] rfl (World.ownsRow_made w #[] 0 (Nat.le_refl _) (Nat.zero_le _) rfl) w.heap.size (some ad) xs.length c _ rfl (HS.out.sl.alloc (Nat.le_refl _) _) (spC_one _) (by unfold maxLen; omega) (by omega) (by simp) ?_; intro A' c' w1 hown hg hat)
    simp only [Nat.zero_add, List.nil_append] at hown
    have HO := mkHid hown
    have HG := mkHid hg
    clear hown hg hat
    go_ret
    exact ⟨A', c', rfl, HO.out, ((Below.refl _ _).alloc (Nat.le_refl _) _).grown HG.out (by simp) (fun k hk => by simp [Value.ownBlock] at hk; omega)⟩

end Go.Proofs.Ytgabjgmimebelaa
