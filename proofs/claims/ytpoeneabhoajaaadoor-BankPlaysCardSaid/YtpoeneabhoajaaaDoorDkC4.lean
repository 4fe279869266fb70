/- disk.fresh, disk.New by contract. -/
import Derived.Test.YtpoeneabhoajaaaDoorDkB4
import Derived.Test.YtpoeneabhoajaaaDoorTurns
namespace Go.Proofs.YtpoeneabhoajaaaDoor
open Go.RowKit

theorem zeros_ok : okBytes zeros := fun x hx => by
  have := List.eq_of_mem_replicate hx
  omega
theorem zeros_len : zeros.length = 128 := by simp [zeros]
theorem zeros_cells : (madeCells (Value.int .u8 0).cells (128 * 1)).toList = zeros.map u8 := by kernel_rfl
/-- 'make([]byte, 128)'. -/
theorem wpList_make128 (w : World) {ops : Array Oper} {rest : List Oper} {o : Oper} {a : Act} {Q : Exit → Act → World → Prop} (hg : o.guard = none) (hop : o.op = Op.makeSlice 37 (.const (.int .i64 128)) (.const (.int .i64 128)))
    (base : Nat) (b4 : base ≤ w.heap.size) (hK : ∀ w', w'.ownsRow base 5 1 (.slice (some ⟨w.heap.size, 0, none⟩) 128 128) 128 (zeros.map u8) → w.grownBy w' none → wpList Tryd.prog ops Q rest (a.put o.dst (.slice (some ⟨w.heap.size, 0, none⟩) 128 128)) w') :
    wpList Tryd.prog ops Q (o :: rest) a w := by
  obtain ⟨ht, ⟨i, z, hi, hz, hs, hb, hzs⟩, _⟩ := el_u8
  have hz' : z = .int .u8 0 := by
    have : (Tryd.prog.info? 5).map (·.zero) = some (some (.int .u8 0)) := by kernel_rfl
    rw [hi] at this
    simp only [Option.map_some, Option.some.injEq] at this
    rw [hz] at this
    injection this
  subst hz'
  exact wpList_make_full w hg _ _ _ hop base _ i _ 1 ht hi hz hs .i64 .i64 128 128 128 rfl rfl rfl rfl (by rw [hb]; omega) (by unfold maxLen; omega) b4 fun w' h1 h2 => hK w' (zeros_cells ▸ h1) h2

theorem own_type {w : World} {base : Nat} {e : TypeId} {s n : Nat} {v : Value} {xs : List Value} (h : w.ownsRow base e s v n xs) {b : Nat} (hb : v.ownBlock = some b) : ∃ cur, w.heap[b]? = some (.cells cur e (0, 0)) := by
  rcases h.2 with ⟨h0, _⟩ | ⟨g, cap, cur, h1, _, h3, _⟩
  · rw [h0] at hb; cases hb
  · rw [h1] at hb
    injection hb with hb
    exact ⟨cur, hb ▸ h3⟩

/-- A row of new sectors has one more. -/
theorem fresh_step {wr wm w3 : World} {base q C : Nat} {O : Option Addr} {ps : List Nat} (hsz : base ≤ wr.heap.size) (ho : wr.ownsRow base 112 1 (.slice O q C) q (ps.map ptrV)) (hs : SR wr (fun b => base ≤ b ∧ b < wr.heap.size) ps (List.replicate q none) (List.replicate q sec0))
    (hm1 : wm.ownsRow base 5 1 (.slice (some ⟨wr.heap.size, 0, none⟩) 128 128) 128 (zeros.map u8)) (hm2 : wr.grownBy wm none)
    (hg3 : ((wm.alloc (.cells #[.slice (some ⟨wr.heap.size, 0, none⟩) 128 128, .slice none 0 0, .bool false] 114)).alloc (.cells #[ptrV wm.heap.size] 112)).grownBy w3 (Value.slice O q C).ownBlock) :
    SR w3 (fun b => base ≤ b ∧ b < w3.heap.size) (ps ++ [wm.heap.size]) (List.replicate (q + 1) none) (List.replicate (q + 1) sec0) := by
  have s1 := hm2.size
  have s2 : wm.heap.size + 2 ≤ w3.heap.size := by have := hg3.size; simpa using this
  have hM : ∀ b cur fr, (Value.slice O q C).ownBlock = some b → wr.heap[b]? ≠ some (.cells cur 5 fr) := fun b cur fr hb hh => by
    obtain ⟨cur', h'⟩ := own_type ho hb
    rw [h'] at hh
    simp at hh
  have hlt : ∀ b, (Value.slice O q C).ownBlock = some b → b < wr.heap.size := fun b hb => (ho.lt b hb).2
  have keep : ∀ b, b < wm.heap.size → ¬ (Value.slice O q C).ownBlock = some b → w3.heap[b]? = wm.heap[b]? := fun b hb hne => (hg3.block b (by simp; omega) (fun e => hne e.symm)).trans ((Below.heap_alloc _ _ _ (by simp; omega)).trans (Below.heap_alloc _ _ _ hb))
  rw [List.replicate_succ', List.replicate_succ']
  refine (hs.keepX (M := fun b => (Value.slice O q C).ownBlock = some b) (fun b hb hne => (keep b (by omega) hne).trans (hm2.block b hb.2 (by simp))) hM (fun p hp hm => ?_) (fun k hk => ?_) (fun b hb => ⟨hb.1, by omega⟩)).append ⟨rfl, rfl, fun j p q' s h1 h2 h3 => ?_, fun i j p h1 h2 => ?_, fun i j k h1 h2 => ?_⟩ (fun p hp hn => ?_) (fun k hk _ => ?_)
  · obtain ⟨_, cs, h1⟩ := hs.fp p hp
    obtain ⟨cur', h'⟩ := own_type ho hm
    rw [h'] at h1
    simp at h1
  · simp [List.mem_replicate] at hk
  · have hj : j = 0 := by have := (List.getElem?_eq_some_iff.1 h1).1; simp at this; exact this
    subst hj
    injection h1 with h1
    injection h2 with h2
    injection h3 with h3
    subst h1 h2 h3
    have hnew : w3.heap[wm.heap.size]? = some (.cells #[.slice (some ⟨wr.heap.size, 0, none⟩) 128 128, .slice none 0 0, .bool false] 114 (0, 0)) := (hg3.block _ (by simp; omega) (fun e => by have := hlt _ e.symm; omega)).trans ((Below.heap_alloc _ _ _ (by simp)).trans (heap_alloc_new wm _))
    refine ⟨some ⟨wr.heap.size, 0, none⟩, 128, none, 0, 0, [], hnew, ⟨by omega, by omega⟩, ⟨by omega, by unfold maxLen; omega⟩, ?_, World.ownsRow_nil _ _ _ _, rfl, (fun k hk => by cases hk), rfl, by omega, (fun i l hl => by simp [sec0] at hl)⟩
    refine (GB.of_own hm1 zeros_ok).keepX (M := fun b => (Value.slice O q C).ownBlock = some b) (fun b hb hne => keep b hb.2 hne) (fun b cur fr hm hh => hM b cur fr hm ?_) (fun b hb => ⟨hb.1, by omega⟩)
    rw [← hm2.block b (hlt b hm) (by simp)]
    exact hh
  · have := (List.getElem?_eq_some_iff.1 h1).1
    have := (List.getElem?_eq_some_iff.1 h2).1
    simp at *
    omega
  · have := (List.getElem?_eq_some_iff.1 h1).1
    have := (List.getElem?_eq_some_iff.1 h2).1
    simp at *
    omega
  · obtain ⟨hf, _⟩ := hs.fp p hp
    rw [List.mem_singleton.1 hn] at hf
    omega
  · simp [List.mem_replicate] at hk

set_option maxRecDepth 20000 in
set_option maxHeartbeats 1000000 in
theorem fresh_any (n : Nat) (w : World) (hn : n ≤ 4096) : Calls Tryd.prog 45 #[.int .i64 n] w fun e w' => ∃ A c ps, e = .returned (.slice A n c) ∧ w'.ownsRow w.heap.size 112 1 (.slice A n c) n (ps.map ptrV) ∧
    SR w' (fun b => w.heap.size ≤ b ∧ b < w'.heap.size) ps (List.replicate n none) (List.replicate n sec0) ∧ Below w.heap.size w w' := by
  go_enter Tryd.func45, Tryd.ntmps45
  go_wp2_with fail
  go_loopw [5, 3] (fun i out wr => ∃ (q : Nat) (O : Option Addr) (C : Nat) (ps : List Nat), q ≤ n ∧ i = .int .i64 q ∧ out = .slice O q C ∧ wr.ownsRow w.heap.size 112 1 (.slice O q C) q (ps.map ptrV) ∧
    SR wr (fun b => w.heap.size ≤ b ∧ b < wr.heap.size) ps (List.replicate q none) (List.replicate q sec0) ∧ Below w.heap.size w wr) (fun i _ _ => n - (intOf i).toNat)
  case atStart => exact ⟨0, none, 0, [], Nat.zero_le _, rfl, rfl, World.ownsRow_nil _ _ _ _, SR.nil, Below.refl _ _⟩
  case round =>
    obtain ⟨q, O, C, ps, hq, rfl, rfl, ho, hs, hb⟩ := hrel
    have hsz := hb.size
    have HO := mkHid ho
    have HS := mkHid hs
    have HB := mkHid hb
    clear ho hs hb
    by_cases hlt : q < n
    · go_wp2_with (first
        | (at_make; refine wpList_make128 wr rfl rfl w.heap.size hsz ?_; intro wm hm1 hm2; have HM1 := mkHid hm1; have HM2 := mkHid hm2; have hszm := hm2.size; clear hm1 hm2)
        | (at_builtin; refine wpList_app _ rfl (.tmp 7) (.tmp 11) _ rfl w.heap.size el_sec O q C _ rfl (((own_keep HO.out fun b hb => HM2.out.block b hb (by simp)).alloc _).alloc _) (wm.heap.size + 2) (some ⟨wm.heap.size + 1, 0, none⟩) 1 1 [ptrV wm.heap.size] rfl (SL.of_block (heap_alloc2_new _ _ _) rfl (by omega)) (fun u hu => by obtain rfl := List.mem_singleton.1 hu; rfl) (by unfold maxLen; omega) (by omega) (by simp; omega) ?_; intro O' C' w3 ho3 hg3 hat3; have HO3 := mkHid ho3; have HG3 := mkHid hg3; have HA3 := mkHid hat3; clear ho3 hg3 hat3))
      go_roundw
      case rel => exact ⟨q + 1, O', C', ps ++ [wm.heap.size], by omega, by go_num, rfl, by rw [List.map_append]; exact HO3.out, fresh_step hsz HO.out HS.out HM1.out HM2.out HG3.out, (((HB.out.grown HM2.out hsz (fun k hk => by cases hk)).alloc (by omega) _).alloc (by simp; omega) _).grown HG3.out (by simp; omega) (own_base HO.out)⟩
      case measure => simp [intOf]; omega
    · obtain rfl : q = n := by omega
      go_wp2_with fail
      go_ret
      exact ⟨O, C, ps, rfl, HO.out, HS.out, HB.out⟩

/-- The same, with what is held. -/
theorem SR.held {w : World} {F : Nat → Prop} {ps : List Nat} {qs : List (Option Nat)} {ss : List Sec} (h : SR w F ps qs ss) {g : Nat} {A : Option Addr} {n c : Nat} (hF : ∀ b, F b → b < w.heap.size) (hb : w.heap[g]? = some (.cells #[.slice A n c] 92 (0, 0))) (ho : w.ownsRow 0 112 1 (.slice A n c) n (ps.map ptrV)) (hn : n ≤ 4096) :
    DK w (fun b => F b ∨ b = g ∨ (Value.slice A n c).ownBlock = some b) g ss := by
  refine ⟨A, n, c, ps, qs, hb, ho, h.keep (fun _ _ => rfl) fun b hb => .inl hb, .inr (.inl rfl), fun r hr => .inr (.inr hr), fun b hb' => ?_, hn⟩
  rcases hb' with e | e | e
  · exact hF b e
  · rw [e]; exact (Array.getElem?_eq_some_iff.1 hb).1
  · exact (ho.lt b e).2

set_option maxRecDepth 20000 in
theorem newDisk_any (n : Nat) (w : World) (h1 : 1 ≤ n) (h2 : n ≤ 4096) : Calls Tryd.prog 16 #[.int .i64 n] w fun e w' => ∃ g F, e = .returned (.tuple #[.pointer (some ⟨g, 0, none⟩), .nilIface]) ∧ DK w' F g (List.replicate n sec0) ∧ (∀ b, F b → w.heap.size ≤ b) ∧ Below w.heap.size w w' := by
  go_enter Tryd.func16, Tryd.ntmps16
  go_wp2_with fail
  refine (fresh_any n w h2).mono ?_
  rintro e w1 ⟨A, c, ps, rfl, ho, hs, hb⟩
  have hsz := hb.size
  have HO := mkHid ho
  have HS := mkHid hs
  have HB := mkHid hb
  clear ho hs hb
  go_wp2_with fail
  go_ret2
  have hkeep : ∀ b, b < w1.heap.size → (w1.alloc (.cells #[.slice A n c] 92)).heap[b]? = w1.heap[b]? := fun b hb => Below.heap_alloc _ _ _ hb
  refine ⟨_, _, rfl, (HS.out.keep (fun b hb => hkeep b hb.2) fun b hb => hb).held (fun b hb => by have := hb.2; simp; omega) (heap_alloc_new w1 _) (own_keep (own_weaken HO.out (Nat.zero_le _)) hkeep) h2, fun b hb => ?_, HB.out.alloc hsz _⟩
  rcases hb with e | e | e
  · exact e.1
  · omega
  · exact (HO.out.lt b e).1
theorem newDisk_no (n : Int) (w : World) (hn : I64 n) (h : n < 1 ∨ 4096 < n) : Calls Tryd.prog 16 #[.int .i64 n] w fun e w' => e = .returned (.tuple #[.pointer none, .iface 54 (.int .i64 20)]) ∧ w = w' := by
  obtain ⟨n0, n1⟩ := hn
  rcases h with h | h
  · go_enter Tryd.func16, Tryd.ntmps16
    go_wp2_with fail
    go_ret2
    exact ⟨rfl, rfl⟩
  · go_enter Tryd.func16, Tryd.ntmps16
    go_wp2_with fail
    go_ret2
    exact ⟨rfl, rfl⟩

end Go.Proofs.YtpoeneabhoajaaaDoor
