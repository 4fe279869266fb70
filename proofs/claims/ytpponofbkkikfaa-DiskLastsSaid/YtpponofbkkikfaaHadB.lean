/- One more slice in one of the law's four rows: what holds behind the append and the store. -/
import Derived.Test.YtpponofbkkikfaaHad
namespace Go.Proofs.Ytpponofbkkikfaa
open Go.RowKit

theorem had_step {w w6 w8 Z : World} {F : Nat → Prop} {g gh J LJ CJ C' c1 : Nat} {AJ A' a1 : Option Addr} {R : List Row} {hs : List (List (List Int))} {ls : List (List Int)} {vJ : List Value} {xd : List Int} {t : TypeId} {ss : List Sec}
    (hld : LD w w6 F g ss) (hha : HA w6 F w.heap.size gh t R hs) (hrJ : R[J]? = some (AJ, LJ, CJ)) (hE : HE w6 F w.heap.size AJ LJ CJ ls vJ)
    (hZ : ∀ b, b < w6.heap.size → Z.heap[b]? = w6.heap[b]?) (hZs : w6.heap.size + 1 ≤ Z.heap.size) (hZo : Z.os = w6.os ∧ Z.tape = w6.tape ∧ Z.output = w6.output)
    (ho8 : w8.ownsRow w.heap.size 30 1 (.slice A' (LJ + 1) C') (LJ + 1) (vJ ++ [.slice a1 128 c1])) (hg8 : Z.grownBy w8 (Value.slice AJ LJ CJ).ownBlock)
    (hat8 : (Value.slice A' (LJ + 1) C').ownBlock = (Value.slice AJ LJ CJ).ownBlock ∨ (Value.slice A' (LJ + 1) C').ownBlock = some Z.heap.size)
    (hca : 128 ≤ c1 ∧ c1 ≤ maxLen) (hb6 : BS w6 w6.heap.size a1 128 xd) (hlow : ∀ b o, a1 = some ⟨b, o, none⟩ → ¬ F b ∧ (b < w.heap.size ∨ ∃ cur, w6.heap[b]? = some (.cells cur 5 (0, 0)))) :
    LD w (w8.setCell ⟨gh, J, none⟩ (.slice A' (LJ + 1) C')) F g ss ∧ HA (w8.setCell ⟨gh, J, none⟩ (.slice A' (LJ + 1) C')) F w.heap.size gh t (R.set J (A', LJ + 1, C')) (hs.set J (ls ++ [xd])) := by
  have hNG : (Value.slice AJ LJ CJ).ownBlock ≠ some gh := fun e => by
    obtain ⟨cur, h'⟩ := own_type hE.row e
    rw [hha.blk] at h'
    injection h' with h'
    injection h' with _ h'
    exact hha.ght.2 h'
  have hgl : gh < w6.heap.size := (Array.getElem?_eq_some_iff.1 hha.blk).1
  have hsz8 : w6.heap.size + 1 ≤ w8.heap.size := Nat.le_trans hZs hg8.size
  have hk68 : ∀ b, b < w6.heap.size → (Value.slice AJ LJ CJ).ownBlock ≠ some b → w8.heap[b]? = w6.heap[b]? := fun b hb hne => (hg8.block b (by omega) (fun e => hne e.symm)).trans (hZ b hb)
  have hbase := hld.bel.size
  have hbel8 : Below w.heap.size w6 w8 := ⟨hg8.os.trans hZo.1, hg8.tape.trans hZo.2.1, hg8.output.trans hZo.2.2, by omega, fun b hb => hk68 b (by omega) fun e => by have := (hE.row.lt b e).1; omega⟩
  have hblk8 : w8.heap[gh]? = some (.cells (R.map Row.v).toArray t (0, 0)) := (hk68 gh hgl hNG).trans hha.blk
  have hk69 : ∀ b, b < w6.heap.size → b ≠ gh → (Value.slice AJ LJ CJ).ownBlock ≠ some b → (w8.setCell ⟨gh, J, none⟩ (.slice A' (LJ + 1) C')).heap[b]? = w6.heap[b]? := fun b hb hne hno => (heap_setCell_other _ _ _ _ hne).trans (hk68 b hb hno)
  have hat' : (Value.slice A' (LJ + 1) C').ownBlock = (Value.slice AJ LJ CJ).ownBlock ∨ ∀ k, (Value.slice A' (LJ + 1) C').ownBlock = some k → w6.heap.size ≤ k := hat8.imp id fun e k hk => by
    rw [e] at hk
    injection hk with hk
    omega
  have hE8 := hE.snoc (w1 := w8) (by omega) hk68 ho8 hat' hld.d.lt hca hb6 hlow
  have hE9 := hE8.keepX (w1 := w8.setCell ⟨gh, J, none⟩ (.slice A' (LJ + 1) C')) (F' := F) (M := fun b => b = gh) (by simp [World.setCell]) (fun b _ hne => heap_setCell_other _ _ _ _ hne) (fun b _ hb e => by
    have hgb := hha.gb
    rcases hb with hb | ⟨cur, hc⟩
    · omega
    · rw [e, hblk8] at hc
      injection hc with hc
      injection hc with _ hc
      exact hha.ght.1 hc) (fun b hb e => by
    rcases hat' with e1 | e1
    · exact hNG (by rw [← e1, hb, e])
    · have := e1 b hb; omega) fun b hb => .inl hb
  refine ⟨hld.keep (fun b hb => hk69 b (hld.d.lt b hb) (fun e => hha.gout (e ▸ hb)) fun e => hE.out b e hb) ?_, hha.put (w1 := w8.setCell ⟨gh, J, none⟩ (.slice A' (LJ + 1) C')) (r' := (A', LJ + 1, C')) hrJ (by simp [World.setCell]; omega) ?_ hk69 hE9 hat'⟩
  · exact hbel8.setCell (p := ⟨gh, J, none⟩) hha.gb _
  · have := heap_setCell_same _ _ J _ _ (.slice A' (LJ + 1) C') hblk8
    rw [this, List.map_set, List.setIfInBounds_toArray]; rfl

/-! ## What a crash leaves -/
theorem crashS_good (p : Int) (s : Sec) : (crashS p s).good ∈ s.good :: s.wait := by
  unfold crashS
  simp only
  split
  · cases h : s.wait[(min p s.wait.length).toNat - 1]? with
    | none => simp
    | some x => exact List.mem_cons_of_mem _ (List.mem_of_getElem? h)
  · simp
theorem crashL_get : ∀ (is ps : List Int) (ss : List Sec), (crashL is ps ss).length = ss.length ∧ ∀ (j : Nat) (s : Sec), ss[j]? = some s → ∃ s', (crashL is ps ss)[j]? = some s' ∧ s'.bad = s.bad ∧ s'.good ∈ s.good :: s.wait ∧ (s'.wait = [] ∨ s'.wait = s.wait) ∧ ((j : Int) ∈ is → s'.wait = [])
  | [], ps, ss => ⟨rfl, fun j s h => ⟨s, h, rfl, by simp, .inr rfl, fun h => by cases h⟩⟩
  | i :: is, ps, ss => by
    unfold crashL
    cases hi : ss[i.toNat]? with
    | none =>
      obtain ⟨h1, h2⟩ := crashL_get is (ps.drop 1) ss
      refine ⟨h1, fun j s hj => ?_⟩
      obtain ⟨s', k1, k2, k3, k4, k5⟩ := h2 j s hj
      refine ⟨s', k1, k2, k3, k4, fun hm => ?_⟩
      rcases List.mem_cons.1 hm with e | e
      · rw [← e, Int.toNat_natCast, hj] at hi
        cases hi
      · exact k5 e
    | some si =>
      obtain ⟨h1, h2⟩ := crashL_get is (ps.drop 1) (ss.set i.toNat (crashS (ps[0]?.getD 0) si))
      have hil := (List.getElem?_eq_some_iff.1 hi).1
      refine ⟨by rw [h1, List.length_set], fun j s hj => ?_⟩
      by_cases e : i.toNat = j
      · subst e
        rw [hi] at hj
        injection hj with hj
        subst hj
        obtain ⟨s', k1, k2, k3, k4, _⟩ := h2 i.toNat _ (List.getElem?_set_self hil)
        have hw : s'.wait = [] := by rcases k4 with k4 | k4 <;> exact k4
        refine ⟨s', k1, k2, ?_, .inl hw, fun _ => hw⟩
        have hg : s'.good = (crashS (ps[0]?.getD 0) si).good := by
          rcases List.mem_cons.1 k3 with k3 | k3
          · exact k3
          · cases k3
        rw [hg]
        exact crashS_good _ _
      · obtain ⟨s', k1, k2, k3, k4, k5⟩ := h2 j s (by rw [List.getElem?_set_ne e]; exact hj)
        refine ⟨s', k1, k2, k3, k4, fun hm => ?_⟩
        rcases List.mem_cons.1 hm with e2 | e2
        · exact absurd (by rw [← e2, Int.toNat_natCast]) e
        · exact k5 e2
theorem crashed_get {ss : List Sec} (ps : List Int) {j : Nat} {s : Sec} (h : ss[j]? = some s) : ∃ s', (crashed ss ps)[j]? = some s' ∧ s'.bad = s.bad ∧ s'.good ∈ s.good :: s.wait ∧ s'.wait = [] := by
  obtain ⟨s', k1, k2, k3, k4, k5⟩ := (crashL_get (pend ss) ps ss).2 j s h
  refine ⟨s', k1, k2, k3, ?_⟩
  by_cases hw : waits ss j = true
  · refine k5 (List.mem_map.2 ⟨j, List.mem_filter.2 ⟨List.mem_range.2 (List.getElem?_eq_some_iff.1 h).1, hw⟩, rfl⟩)
  · have h0 : s.wait = [] := by
      unfold waits at hw
      rw [h] at hw
      simpa using hw
    rcases k4 with k4 | k4
    · exact k4
    · rw [k4, h0]
theorem crashed_len (ss : List Sec) (ps : List Int) : (crashed ss ps).length = ss.length := (crashL_get (pend ss) ps ss).1
theorem pend_crashed (ss : List Sec) (ps : List Int) : pend (crashed ss ps) = [] := by
  unfold pend pendN
  rw [List.map_eq_nil_iff, List.filter_eq_nil_iff]
  intro j hj
  rw [List.mem_range, crashed_len] at hj
  obtain ⟨s', k1, _, _, k4⟩ := crashed_get ps (List.getElem?_eq_getElem hj)
  unfold waits
  rw [k1]
  simp [k4]

end Go.Proofs.Ytpponofbkkikfaa
