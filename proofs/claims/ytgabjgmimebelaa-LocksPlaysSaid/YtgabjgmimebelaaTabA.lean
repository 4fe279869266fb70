/- Spans in slices; slices.IndexFunc and slices.ContainsFunc at spans by contract, for whatever predicate. -/
import Derived.Test.YtgabjgmimebelaaRefClash
import Derived.Test.YtgabjgmimebelaaOpenRows
import Derived.Shelf.Abstract
namespace Go.Proofs.Ytgabjgmimebelaa
open Go.RowKit Go.Shelf

/-- A span's cells. -/
def RSp (cs : List Value) (s : Sp) : Prop := cs = [.int .i64 s.vol, .int .i64 s.frm, .int .i64 s.len, .bool s.wr] ∧ SpOk s

/-- The slice (a, n) holds the spans xs; its block is one of those that Ok tells. -/
def SS (w : World) (Ok : Nat → Prop) (a : Option Addr) (n : Nat) (xs : List Sp) : Prop :=
  xs.length = n ∧ ∀ j, j < n → ∃ b o x, a = some ⟨b, o, none⟩ ∧ Ok b ∧ xs[j]? = some x ∧ SpOk x ∧ w.cell? ⟨b, o + j * 4, none⟩ = some (.int .i64 x.vol) ∧ w.cell? ⟨b, o + j * 4 + 1, none⟩ = some (.int .i64 x.frm) ∧ w.cell? ⟨b, o + j * 4 + 2, none⟩ = some (.int .i64 x.len) ∧ w.cell? ⟨b, o + j * 4 + 3, none⟩ = some (.bool x.wr)
section
variable {w w' : World} {Ok Ok' : Nat → Prop} {a : Option Addr} {n : Nat} {xs : List Sp}
theorem SS.keep (h : SS w Ok a n xs) (hk : ∀ b, Ok b → w'.heap[b]? = w.heap[b]?) (ho : ∀ b, Ok b → Ok' b) : SS w' Ok' a n xs :=
  ⟨h.1, fun j hj => by
    obtain ⟨b, o, x, e, hb, hx, hs, h0, h1, h2, h3⟩ := h.2 j hj
    exact ⟨b, o, x, e, ho b hb, hx, hs, (World.cell?_of_block (w := w) (hk b hb)).trans h0, (World.cell?_of_block (w := w) (hk b hb)).trans h1, (World.cell?_of_block (w := w) (hk b hb)).trans h2, (World.cell?_of_block (w := w) (hk b hb)).trans h3⟩⟩
theorem SS.nil : SS w Ok a 0 [] := ⟨rfl, fun j hj => absurd hj (by omega)⟩
theorem SS.ok (h : SS w Ok a n xs) : ∀ x ∈ xs, SpOk x := by
  intro x hx
  obtain ⟨j, hj, rfl⟩ := List.getElem_of_mem hx
  obtain ⟨_, _, y, _, _, hy, hs, _⟩ := h.2 j (by rw [← h.1]; exact hj)
  rw [List.getElem?_eq_getElem hj] at hy
  injection hy with hy
  rw [hy]; exact hs
/-- Blocks below B. -/
theorem SS.below {B : Nat} (h : SS w (· < B) a n xs) (hb : Below B w w') : SS w' (· < B) a n xs := h.keep (fun b hh => hb.block b hh) fun _ hh => hh
theorem SS.more {B : Nat} (h : SS w Ok a n xs) (hB : ∀ b, Ok b → b < B) : SS w (· < B) a n xs := h.keep (fun _ _ => rfl) hB
end
theorem RS.spans {w : World} {B : Nat} {a : Option Addr} {n : Nat} {xs : List Sp} (h : RS RSp 4 w B a n xs) : SS w (· < B) a n xs :=
  ⟨h.1, fun j hj => by
    obtain ⟨b, o, cs, x, e, hb, _, hc, hx, rfl, hs⟩ := h.2 j hj
    exact ⟨b, o, x, e, hb, hx, hs, hc 0 _ rfl, hc 1 _ rfl, hc 2 _ rfl, hc 3 _ rfl⟩⟩

/-- The place of the first that answers true, or -1. -/
def idxOf {α : Type} (p : α → Bool) (xs : List α) : Int := match xs.findIdx? p with | some i => i | none => -1
theorem idxOf_hit {α : Type} {p : α → Bool} {xs : List α} {i : Nat} {x : α} (hx : xs[i]? = some x) (hp : p x = true) (hn : ∀ j y, j < i → xs[j]? = some y → p y = false) : idxOf p xs = i := by
  have : xs.findIdx? p = some i := by
    rw [List.findIdx?_eq_some_iff_getElem]
    obtain ⟨hi, rfl⟩ := List.getElem?_eq_some_iff.1 hx
    refine ⟨hi, hp, fun j hj => ?_⟩
    have := hn j _ hj (List.getElem?_eq_getElem (by omega))
    simp [this]
  rw [idxOf, this]
theorem idxOf_miss {α : Type} {p : α → Bool} {xs : List α} (hn : ∀ (j : Nat) y, xs[j]? = some y → p y = false) : idxOf p xs = -1 := by
  have : xs.findIdx? p = none := by
    rw [List.findIdx?_eq_none_iff]
    intro x hx
    obtain ⟨j, hj, rfl⟩ := List.getElem_of_mem hx
    exact hn j _ (List.getElem?_eq_getElem hj)
  rw [idxOf, this]
theorem idxOf_any {α : Type} (p : α → Bool) (xs : List α) : decide (0 ≤ idxOf p xs) = xs.any p := by
  unfold idxOf
  cases h : xs.findIdx? p with
  | none =>
    rw [List.findIdx?_eq_none_iff] at h
    have : xs.any p = false := by rw [List.any_eq_false]; intro x hx; simp [h x hx]
    rw [this]
    rfl
  | some i =>
    have : xs.any p = true := by
      rw [List.findIdx?_eq_some_iff_getElem] at h
      obtain ⟨hi, hp, _⟩ := h
      exact List.any_eq_true.2 ⟨_, List.getElem_mem _, hp⟩
    rw [this]
    exact decide_eq_true (Int.natCast_nonneg i)

/-- What is asked of a predicate on spans: wherever what lay in w lies unturned it answers p and leaves such a world. -/
def PredS (g : Nat) (fst caps : Array Value) (p : Sp → Bool) (w : World) : Prop :=
  ∀ (W : World) (x : Sp), SpOk x → Below w.heap.size w W → Calls Try.prog g (fst.push (spV x) ++ caps) W fun e w' => e = .returned (.bool (p x)) ∧ Below w.heap.size w w'

set_option maxRecDepth 20000 in
set_option maxHeartbeats 2000000 in
theorem indexS_any (p : Sp → Bool) (g : Nat) (fst caps : Array Value) (eg : ∀ args w, (callFunc g args).run Try.prog w = .ok (.enter g args) w) (a : Option Addr) (n c : Nat) (xs : List Sp) (w : World) (hp : PredS g fst caps p w) (hs : SS w (· < w.heap.size) a n xs) (hc : CapOk n c) :
    Calls Try.prog 41 #[.slice a n c, .func (.func g) fst caps] w fun e w' => e = .returned (.int .i64 (idxOf p xs)) ∧ Below w.heap.size w w' := by
  obtain ⟨hn1, hn2, hn3⟩ := hc
  go_enter Try.func41, Try.ntmps41
  go_wp2_with fail
  go_loopw [8] (fun i wr => ∃ q : Nat, q ≤ n ∧ i = .int .i64 q ∧ Hid (Below w.heap.size w wr) ∧ Hid (∀ j y, j < q → xs[j]? = some y → p y = false)) (fun i _ => n - (intOf i).toNat)
  case atStart => exact ⟨0, Nat.zero_le _, rfl, mkHid (Below.refl _ _), mkHid fun j _ hj => absurd hj (by omega)⟩
  case round =>
    obtain ⟨q, hq, rfl, HB, HN⟩ := hrel
    by_cases hlt : q < n
    · obtain ⟨b, o, x, rfl, hb, hx, hok, h0, h1, h2, h3⟩ := hs.2 q hlt
      have c0 := (HB.out.cell (p := ⟨b, o + q * 4, none⟩) hb).trans h0
      have c1 := (HB.out.cell (p := ⟨b, o + q * 4 + 1, none⟩) hb).trans h1
      have c2 := (HB.out.cell (p := ⟨b, o + q * 4 + 2, none⟩) hb).trans h2
      have c3 := (HB.out.cell (p := ⟨b, o + q * 4 + 3, none⟩) hb).trans h3
      have HX := mkHid hx
      have hcall := hp wr x hok HB.out
      have HS := mkHid hs
      clear h0 h1 h2 h3 hx hs hp
      unfold spV at hcall
      go_wp2_with fail
      refine hcall.mono ?_
      rintro e w1 ⟨rfl, hb1⟩
      cases hpx : p x with
      | true =>
        go_wp2_with fail
        go_ret
        exact ⟨by rw [idxOf_hit HX.out hpx HN.out]; rfl, hb1⟩
      | false =>
        have HP := mkHid hpx
        clear hpx
        go_wp2_with fail
        go_round
        case measure => simp [intOf]; omega
        case rel =>
          refine ⟨q + 1, by omega, by go_num, mkHid hb1, mkHid fun j y hj hy => ?_⟩
          by_cases e : j < q
          · exact HN.out j y e hy
          · obtain rfl : j = q := by omega
            rw [HX.out] at hy
            injection hy with hy
            rw [← hy]; exact HP.out
    · obtain rfl : q = n := by omega
      have HL := mkHid hs.1
      clear hs hp
      go_wp2_with fail
      go_ret
      refine ⟨?_, HB.out⟩
      rw [idxOf_miss fun j y hy => HN.out j y (by have := (List.getElem?_eq_some_iff.1 hy).1; have := HL.out; omega) hy]
      rfl

set_option maxRecDepth 20000 in
theorem hasS_any (p : Sp → Bool) (g : Nat) (fst caps : Array Value) (eg : ∀ args w, (callFunc g args).run Try.prog w = .ok (.enter g args) w) (a : Option Addr) (n c : Nat) (xs : List Sp) (w : World) (hp : PredS g fst caps p w) (hs : SS w (· < w.heap.size) a n xs) (hc : CapOk n c) :
    Calls Try.prog 32 #[.slice a n c, .func (.func g) fst caps] w fun e w' => e = .returned (.bool (xs.any p)) ∧ Below w.heap.size w w' := by
  have HX := mkHid (indexS_any p g fst caps eg a n c xs w hp hs hc)
  clear hp hs hc
  go_enter Try.func32, Try.ntmps32
  go_wp2_with fail
  refine HX.out.mono ?_
  rintro e w1 ⟨rfl, hb1⟩
  go_wp2_with fail
  go_ret
  refine ⟨ret_bool ?_, hb1⟩
  rw [← idxOf_any]

/-- Where a func's number is known, entering it is its body. -/
theorem eg_right : ∀ args w, (callFunc 33 args).run Try.prog w = .ok (.enter 33 args) w := enters_of Try.func33 (by kernel_rfl) rfl
theorem eg_clash : ∀ args w, (callFunc 9 args).run Try.prog w = .ok (.enter 9 args) w := enters_of Try.func9 (by kernel_rfl) rfl
theorem eg_clash1 : ∀ args w, (callFunc 45 args).run Try.prog w = .ok (.enter 45 args) w := enters_of Try.func45 (by kernel_rfl) rfl
theorem eg_place : ∀ args w, (callFunc 44 args).run Try.prog w = .ok (.enter 44 args) w := enters_of Try.func44 (by kernel_rfl) rfl
theorem eg_ready : ∀ args w, (callFunc 36 args).run Try.prog w = .ok (.enter 36 args) w := enters_of Try.func36 (by kernel_rfl) rfl

/-- A span that is not right. -/
theorem pred_right (w : World) : PredS 33 #[] #[] (fun x => !rightOf x) w := fun W x hx hb => by
  show Calls Try.prog 33 #[spV x] W _
  have HX := mkHid (fun W' => right_any x W' hx)
  have HB := mkHid hb
  clear hb hx
  unfold spV
  go_enter Try.func33, Try.ntmps33
  go_wp2_with fail
  refine (HX.out _).mono ?_
  rintro e w1 ⟨rfl, hb1⟩
  go_wp2_with fail
  go_ret
  exact ⟨by simp, (HB.out.alloc HB.out.size _).trans (hb1.mono (by have := HB.out.size; simp; omega))⟩

/-- A span that clashes with s. -/
theorem pred_clash (s : Sp) (hs : SpOk s) (w : World) : PredS 9 #[spV s] #[] (fun x => clashOf s x) w := fun W x hx hb => by
  show Calls Try.prog 9 #[spV s, spV x] W _
  exact (clash_any s x W hs hx).mono fun e w' h => ⟨h.1, hb.trans (h.2.mono hb.size)⟩

/-- A span that clashes with one of those that the entry in block k holds. -/
theorem pred_clash1 (k : Nat) (num : Int) (a : Option Addr) (n c : Nat) (ys : List Sp) (fr : Nat × Nat) (w : World) (hk : w.heap[k]? = some (.cells #[.int .i64 num, .slice a n c] 69 fr)) (hs : SS w (· < w.heap.size) a n ys) (hc : CapOk n c) :
    PredS 45 #[] #[.pointer (some ⟨k, 0, none⟩)] (fun x => ys.any fun y => clashOf x y) w := fun W x hx hb => by
  show Calls Try.prog 45 #[spV x, .pointer (some ⟨k, 0, none⟩)] W _
  have hlt : k < w.heap.size := (Array.getElem?_eq_some_iff.1 hk).1
  have hk' := (hb.block k hlt).trans hk
  have HS := mkHid ((hs.keep (fun b hh => hb.block b hh) (Ok' := (· < W.heap.size)) fun b hh => Nat.lt_of_lt_of_le hh hb.size))
  have HB := mkHid hb
  have HX := mkHid hx
  have HC := mkHid hc
  have hltW : k < W.heap.size := Nat.lt_of_lt_of_le hlt hb.size
  have c1 := cell_of_row W k 1 _ _ _ hk'
  simp at c1
  clear hs hk hb hx hc
  have c1' : (W.alloc (.cells #[.int .i64 x.vol, .int .i64 x.frm, .int .i64 x.len, .bool x.wr] 24)).cell? ⟨k, 1, none⟩ = some (.slice a n c) := (World.cell?_of_block (w := W) (Below.heap_alloc W _ k hltW)).trans c1
  clear c1
  unfold spV
  go_enter Try.func45, Try.ntmps45
  go_wp2_with fail
  refine (hasS_any (fun y => clashOf x y) _ _ _ eg_clash a n c ys _ (pred_clash x HX.out _) (HS.out.keep (fun b hh => Below.heap_alloc W _ b hh) (fun b hh => by simp; omega)) HC.out).mono ?_
  rintro e w1 ⟨rfl, hb1⟩
  go_wp2_with fail
  go_ret
  exact ⟨rfl, (HB.out.alloc HB.out.size _).trans (hb1.mono (by have := HB.out.size; simp; omega))⟩

end Go.Proofs.Ytgabjgmimebelaa
