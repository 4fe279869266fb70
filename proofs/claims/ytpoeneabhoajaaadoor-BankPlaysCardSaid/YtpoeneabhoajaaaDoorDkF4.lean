/- Disk.Pending, Disk.Flush by contract. -/
import Derived.Test.YtpoeneabhoajaaaDoorDkE4
namespace Go.Proofs.YtpoeneabhoajaaaDoor
open Go.RowKit

/-- Does anything wait for sector j? -/
def waits (ss : List Sec) (j : Nat) : Bool := (ss[j]?.map fun s => decide (0 < s.wait.length)).getD false
/-- Those of the first k for which something waits. -/
def pendN (ss : List Sec) (k : Nat) : List Int := ((List.range k).filter (waits ss)).map fun (j : Nat) => (j : Int)
def pend (ss : List Sec) : List Int := pendN ss ss.length
theorem pendN_succ (ss : List Sec) (k : Nat) : pendN ss (k + 1) = pendN ss k ++ (if waits ss k then [(k : Int)] else []) := by
  unfold pendN
  rw [List.range_succ, List.filter_append, List.map_append]
  congr 1
  cases h : waits ss k <;> simp [h]
theorem pendN_len (ss : List Sec) (k : Nat) : (pendN ss k).length ≤ k := by
  unfold pendN
  rw [List.length_map]
  exact Nat.le_trans (List.length_filter_le _ _) (by simp)
theorem pendN_ok (ss : List Sec) (k : Nat) (hk : k ≤ 4096) : ∀ x ∈ pendN ss k, I64 x := by
  intro x hx
  obtain ⟨j, hj, rfl⟩ := List.mem_map.1 hx
  have := (List.mem_filter.1 hj).1
  rw [List.mem_range] at this
  exact ⟨by omega, by omega⟩

/-- A new slice of ints is answered; what was there is as it was. -/
def RetI (w : World) (l : List Int) (e : Ending) (w' : World) : Prop :=
  ∃ A c, e = .returned (.slice A l.length c) ∧ w'.ownsRow w.heap.size 3 1 (.slice A l.length c) l.length (l.map i64v) ∧ Below w.heap.size w w'

set_option maxRecDepth 20000 in
set_option maxHeartbeats 1000000 in
theorem pending_any (F : Nat → Prop) (g : Nat) (ss : List Sec) (w : World) (h : DK w F g ss) :
    Calls Tryd.prog 66 #[.pointer (some ⟨g, 0, none⟩)] w (RetI w (pend ss)) := by
  obtain ⟨A, n, c, ps, qs, h⟩ := h
  have hnl := h.nl
  obtain ⟨hc1, hc2⟩ := own_cap h.row
  have c0 := cell_of_row w g 0 _ _ _ h.blk
  simp at c0
  have HD := mkHid h
  have hlen := h.len
  unfold pend
  rw [hlen]
  clear h hlen
  go_enter Tryd.func66, Tryd.ntmps66
  go_wp2_with fail
  go_loopw [11, 3] (fun i out wr => ∃ (q : Nat) (O : Option Addr) (L C : Nat), q ≤ n ∧ i = .int .i64 q ∧ out = .slice O L C ∧ L = (pendN ss q).length ∧ wr.ownsRow w.heap.size 3 1 (.slice O L C) L ((pendN ss q).map i64v) ∧ Below w.heap.size w wr) (fun i _ _ => n - (intOf i).toNat)
  case atStart => exact ⟨0, none, 0, 0, Nat.zero_le _, rfl, rfl, rfl, World.ownsRow_nil _ _ _ _, Below.refl _ _⟩
  case round =>
    clear c0
    obtain ⟨q, O, L, C, hq, rfl, rfl, hL, ho, hb⟩ := hrel
    have hsz := hb.size
    have hLq : L ≤ q := by rw [hL]; exact pendN_len ss q
    have HL := mkHid hL
    have HO := mkHid ho
    have HB := mkHid hb
    by_cases hlt : q < n
    · obtain ⟨r, p, qq, s, rfl, hp, _, _, hs', hso⟩ := (HD.out.below hb).at_ hlt
      obtain ⟨ga, gc, wa, wn, wc, vs, h1, _, _, _, _, _, _, h8, h9, _⟩ := hso
      obtain ⟨_, d1, _⟩ := facts3 h1
      have hwt : waits ss q = decide (0 < wn) := by unfold waits; rw [hs']; simp [h8]
      have HWT := mkHid hwt
      clear hL ho hb h1 h8 hs' hwt
      rcases Nat.eq_zero_or_pos wn with h0 | h0
      · subst h0
        go_wp2_with fail
        go_roundw
        case rel =>
          refine ⟨q + 1, O, L, C, by omega, by go_num, rfl, ?_, ?_, HB.out⟩
          · rw [pendN_succ, HWT.out]; simpa using HL.out
          · rw [pendN_succ, HWT.out]; simpa using HO.out
        case measure => simp [intOf]; omega
      · have hwp : (0 : Int) < (wn : Int) := by omega
        go_wp2_with (at_builtin; refine wpList_app _ rfl (.tmp 22) (.tmp 24) _ rfl w.heap.size el_int O L C _ rfl (HO.out.alloc _) (wr.heap.size + 1) (some ⟨wr.heap.size, 0, none⟩) 1 1 [i64v q] rfl (SL.one _ _) (fun u hu => by obtain rfl := List.mem_singleton.1 hu; rfl) (by unfold maxLen; omega) (by omega) (by simp; omega) ?_; intro O' C' w3 ho3 hg3 hat3; have HO3 := mkHid ho3; have HG3 := mkHid hg3; clear ho3 hg3 hat3)
        go_roundw
        case rel =>
          refine ⟨q + 1, O', L + 1, C', by omega, by go_num, rfl, ?_, ?_, (HB.out.alloc hsz _).grown HG3.out (by simp; omega) (own_base HO.out)⟩
          · rw [pendN_succ, HWT.out, decide_eq_true h0]; simpa using HL.out
          · rw [pendN_succ, HWT.out, decide_eq_true h0]; simpa using HO3.out
        case measure => simp [intOf]; omega
    · obtain rfl : q = n := by omega
      clear hL ho hb
      go_wp2_with fail
      go_ret
      obtain rfl := HL.out
      exact ⟨O, C, rfl, HO.out, HB.out⟩

/-! ## Flush -/
def flushS (s : Sec) : Sec := ⟨s.last, [], s.bad⟩
/-- The first k are flushed. -/
def flN (ss : List Sec) (k : Nat) : List Sec := (ss.take k).map flushS ++ ss.drop k
theorem flN_get {ss : List Sec} {k : Nat} (hk : k < ss.length) : (flN ss k)[k]? = ss[k]? := by
  unfold flN
  rw [List.getElem?_append_right (by simp; omega), List.length_map, List.length_take, Nat.min_eq_left (by omega), Nat.sub_self, List.getElem?_drop, Nat.add_zero]
theorem flN_set {ss : List Sec} {k : Nat} {s : Sec} (hs : ss[k]? = some s) : (flN ss k).set k (flushS s) = flN ss (k + 1) := by
  obtain ⟨hk, rfl⟩ := List.getElem?_eq_some_iff.1 hs
  unfold flN
  have hl : ((ss.take k).map flushS).length = k := by simp; omega
  rw [List.set_append_right _ _ (by omega), hl, Nat.sub_self, List.drop_eq_getElem_cons hk, List.set_cons_zero, List.take_add_one, List.getElem?_eq_getElem hk, Option.toList_some, List.map_append, List.append_assoc]
  rfl
theorem flN_len (ss : List Sec) (k : Nat) : (flN ss k).length = ss.length := by
  unfold flN
  simp
  omega
def flushed (ss : List Sec) : List Sec := ss.map flushS
theorem flN_all (ss : List Sec) : flN ss ss.length = flushed ss := by unfold flN flushed; simp

/-- Only block p turns. -/
theorem DKr.only {w w' : World} {F : Nat → Prop} {g : Nat} {A : Option Addr} {n c : Nat} {ps : List Nat} {qs : List (Option Nat)} {ss : List Sec} (h : DKr w F g A n c ps qs ss) {i p : Nat} {q' : Option Nat} {s' : Sec} (hp : ps[i]? = some p) (hfp : F p) (hk : ∀ b, b ≠ p → w'.heap[b]? = w.heap[b]?)
    (ho : w'.os = w.os ∧ w'.tape = w.tape ∧ w'.output = w.output ∧ w'.heap.size = w.heap.size) (hs : SecOk w' F p q' s') (hq' : ∀ k, q' = some k → F k → qs[i]? = some (some k)) : Turn F w w' ∧ DKr w' F g A n c ps (qs.set i q') (ss.set i s') := by
  refine ⟨⟨ho.1, ho.2.1, ho.2.2.1, by omega, fun k _ hf => hk k fun e => hf (e ▸ hfp)⟩, h.set (M := fun b => b = p) hp hs (fun b _ hb => hk b hb) (fun b hb => .inl hb) (fun b hb => hb) hq' fun b hb => ?_⟩
  have := h.lt b hb
  omega
/-- Good bytes while only a sector's block turns. -/
theorem GB.only {w w' : World} {F : Nat → Prop} {a : Option Addr} {l : List Int} {p : Nat} {cs : Array Value} (h : GB w F a l) (hp : w.heap[p]? = some (.cells cs 114 (0, 0))) (hk : ∀ b, b ≠ p → w'.heap[b]? = w.heap[b]?) : GB w' F a l :=
  h.keepX (M := fun b => b = p) (fun b _ hb => hk b hb) (fun b cur fr e hh => by rw [e, hp] at hh; simp at hh) fun b hb => hb

theorem SecOk.flush {w : World} {F : Nat → Prop} {p : Nat} {q : Option Nat} {s : Sec} (h : SecOk w F p q s) {a : Option Addr} {c : Nat} {l : List Int} (hc : 128 ≤ c ∧ c ≤ maxLen) (hg : GB w F a l) :
    SecOk ((w.setCell ⟨p, 0, none⟩ (.slice a 128 c)).setCell ⟨p, 1, none⟩ (.slice none 0 0)) F p none ⟨l, [], s.bad⟩ := by
  obtain ⟨ga, gc, wa, wn, wc, vs, h1, h2, _⟩ := h
  have k1 := heap_setCell_same _ _ 0 _ _ (.slice a 128 c) h1
  have k2 := heap_setCell_same _ _ 1 _ _ (.slice none 0 0) k1
  refine ⟨a, c, none, 0, 0, [], k2, h2, hc, hg.only h1 fun b hb => (heap_setCell_other _ _ _ _ hb).trans (heap_setCell_other _ _ _ _ hb), World.ownsRow_nil _ _ _ _, rfl, fun k hk => (by cases hk), rfl, by omega, fun i l hl => (by simp at hl)⟩

set_option maxRecDepth 20000 in
set_option maxHeartbeats 1000000 in
theorem flush_any (F : Nat → Prop) (g : Nat) (ss : List Sec) (w : World) (h : DK w F g ss) :
    Calls Tryd.prog 63 #[.pointer (some ⟨g, 0, none⟩)] w fun e w' => e = .returned (.int .i64 (pend ss).length) ∧ Turn F w w' ∧ DK w' F g (flushed ss) := by
  have HP := mkHid (pending_any F g ss w h)
  have hpl : (pend ss).length ≤ 4096 := Nat.le_trans (pendN_len ss _) h.nl
  obtain ⟨A, n, c, ps, qs, h⟩ := h
  have hnl := h.nl
  obtain ⟨hc1, hc2⟩ := own_cap h.row
  have HD := mkHid h
  have hlen := h.len
  clear h
  go_enter Tryd.func63, Tryd.ntmps63
  go_wp2_with fail
  refine HP.out.mono ?_
  rintro e w1 ⟨PA, pc, rfl, _, hb1⟩
  have c0 := cell_of_row w1 g 0 _ _ _ (HD.out.below hb1).blk
  simp at c0
  have HB1 := mkHid hb1
  clear hb1
  go_wp2_with fail
  go_loopw [14] (fun i wr => ∃ (q : Nat) (qs : List (Option Nat)), q ≤ n ∧ i = .int .i64 q ∧ Turn F w wr ∧ DKr wr F g A n c ps qs (flN ss q)) (fun i _ => n - (intOf i).toNat)
  case atStart => exact ⟨0, qs, Nat.zero_le _, rfl, Turn.of_below HB1.out, by simpa [flN] using HD.out.below HB1.out⟩
  case round =>
    clear c0 HB1 HD HP
    obtain ⟨q, qs, hq, rfl, ht, hd⟩ := hrel
    by_cases hlt : q < n
    · obtain ⟨r, p, qq, s, rfl, hp, hp1, hq1, hs', hso⟩ := hd.at_ hlt
      rw [flN_get (by omega)] at hs'
      have HST := mkHid hs'
      have HSO := mkHid hso
      have HT := mkHid ht
      have HD := mkHid hd
      have HP1 := mkHid hp1
      clear hs' hso ht hd hp1 hq1
      go_wp2_with fail
      refine (last_any F p qq s wr HSO.out).mono ?_
      rintro e w2 ⟨a, c2, rfl, hc3, hgb, rfl⟩
      obtain ⟨ga, gc, wa, wn, wc, vs, h1, h2, _⟩ := HSO.out
      obtain ⟨d0, d1, _⟩ := facts3 h1
      have f := fun k => frozen_of_row wr p k _ _ h1
      have HFL := mkHid (HSO.out.flush hc3 hgb)
      have HF2 := mkHid h2
      clear hgb h1 h2
      go_wp2_with fail
      go_roundw
      case rel =>
        have hk : ∀ b, b ≠ p → ((wr.setCell ⟨p, 0, none⟩ (.slice a 128 c2)).setCell ⟨p, 1, none⟩ (.slice none 0 0)).heap[b]? = wr.heap[b]? := fun b hb => (heap_setCell_other _ _ _ _ hb).trans (heap_setCell_other _ _ _ _ hb)
        obtain ⟨k1, k2⟩ := HD.out.only HP1.out HF2.out hk ⟨rfl, rfl, rfl, by simp [World.setCell]⟩ HFL.out (fun k hk => by cases hk)
        refine ⟨q + 1, qs.set q none, by omega, by go_num, HT.out.trans k1 fun b hb => .inl hb, ?_⟩
        rw [← flN_set HST.out]
        exact k2
      case measure => simp [intOf]; omega
    · obtain rfl : q = n := by omega
      rw [← hlen, flN_all] at hd
      have HT := mkHid ht
      have HD := mkHid hd
      clear ht hd
      go_wp2_with fail
      go_ret
      exact ⟨rfl, HT.out, _, _, _, _, _, HD.out⟩

end Go.Proofs.YtpoeneabhoajaaaDoor
