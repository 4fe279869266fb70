/- A lone fault's text, by its own Error and by the reference. -/
import Derived.Test.YtolcajcihgfeeaaDoorFtJ
import Derived.Lib.SmallJoins
namespace Go.Proofs.YtolcajcihgfeeaaDoor
open Go.RowKit Go.Extern.Stop Go.Stop Go.Extern

/-- A lone fault's text. -/
def loneText (op : ByteArray) (t1 t2 : List UInt8) : ByteArray := op ++ ⟨#[32]⟩ ++ ⟨t1.toArray⟩ ++ ⟨#[58]⟩ ++ ⟨t2.toArray⟩

theorem PowT.below {w w' : World} (h : PowT w) (hb : Below w.heap.size w w') : PowT w' :=
  Go.Joins.tab_stays (show Tryd.prog.globalNamed "internal/strconv.uint64pow10" = some 1 by kernel_rfl) h hb (Nat.le_refl _)

set_option maxRecDepth 20000 in
set_option maxHeartbeats 8000000 in
theorem error_any (g : Nat) (x : Lk) (w : World) (hP : PowT w) (hg : w.heap[g]? = some (faultO x .nilIface)) (hs : x.op.size ≤ 10000) (hd : I64 x.dev) (hp : I64 x.place) :
    Calls Tryd.prog 21 #[.pointer (some ⟨g, 0, none⟩)] w fun e w' => e = .returned (.string (loneText x.op (Lib.itoa x.dev) (Lib.itoa x.place))) ∧ Below w.heap.size w w' := by
  have hlt : g < w.heap.size := (Array.getElem?_eq_some_iff.1 hg).1
  have HK := mkHid (show ∀ Z, Below w.heap.size w Z → Z.cell? ⟨g, 0, none⟩ = some (.string x.op) ∧ Z.cell? ⟨g, 1, none⟩ = some (.int .i64 x.dev) ∧ Z.cell? ⟨g, 2, none⟩ = some (.int .i64 x.place) ∧ Z.cell? ⟨g, 3, none⟩ = some .nilIface from fun Z hz =>
    have h1 := (hz.block g hlt).trans hg
    ⟨cell_of_row Z g 0 _ _ _ h1, cell_of_row Z g 1 _ _ _ h1, cell_of_row Z g 2 _ _ _ h1, cell_of_row Z g 3 _ _ _ h1⟩)
  have hl1 := Lib.itoa_length_le x.dev hd.1 hd.2
  have hl2 := Lib.itoa_length_le x.place hp.1 hp.2
  have HI := mkHid (show ∀ Z, Below w.heap.size w Z → ∀ n, I64 n → Calls Tryd.prog 29 #[.int .i64 n] Z fun e w' => e = .returned (strV (Lib.itoa n)) ∧ Below w.heap.size w w' from fun Z hz n hn => (itoa_any n Z hn (hP.below hz)).mono fun e w' h => ⟨h.1, below_step2 hz h.2⟩)
  obtain ⟨t1, ht1⟩ : ∃ t, Lib.itoa x.dev = t := ⟨_, rfl⟩
  obtain ⟨t2, ht2⟩ : ∃ t, Lib.itoa x.place = t := ⟨_, rfl⟩
  rw [ht1] at hl1
  rw [ht2] at hl2
  have HD := mkHid hd
  have HP := mkHid hp
  have HT1 := mkHid ht1
  have HT2 := mkHid ht2
  rw [ht1, ht2]
  clear hP hg hd hp ht1 ht2 hlt
  have HBY := mkHid (Below.refl w.heap.size w)
  obtain ⟨k0, k1, k2, k3⟩ := HK.out w HBY.out
  have hky := HK.out w HBY.out
  have q1 : ¬ 9223372036854775807 < x.op.size + 1 := by omega
  have q1' : ¬ 9223372036854775807 ≤ x.op.size := by omega
  have q2 : ¬ 9223372036854775807 < x.op.size + 1 + t1.length := by omega
  have q3 : ¬ 9223372036854775807 < x.op.size + 1 + t1.length + 1 := by omega
  have q3' : ¬ 9223372036854775807 ≤ x.op.size + 1 + t1.length := by omega
  have q4 : ¬ 9223372036854775807 < x.op.size + 1 + t1.length + 1 + t2.length := by omega
  go_enter Tryd.func21, Tryd.ntmps21
  go_wp2_with fail
  go_region_held3 (fun Z => Z.cell? ⟨g, 0, none⟩ = some (.string x.op) ∧ Z.cell? ⟨g, 1, none⟩ = some (.int .i64 x.dev) ∧ Z.cell? ⟨g, 2, none⟩ = some (.int .i64 x.place) ∧ Z.cell? ⟨g, 3, none⟩ = some .nilIface) (first | exact hky | exact HK.out _ HBY.out | exact HK.out _ HBY.out.drew) (first
    | (go_at_call 29; (with_reducible first | refine (HI.out _ HBY.out x.dev HD.out).mono ?_ | refine (HI.out _ HBY.out.drew x.dev HD.out).mono ?_); rintro e wz ⟨rfl, hb⟩; rw [HT1.out]; have HBY := mkHid hb; have hky := HK.out _ hb; clear hb)
    | (go_at_call 29; (with_reducible first | refine (HI.out _ HBY.out x.place HP.out).mono ?_ | refine (HI.out _ HBY.out.drew x.place HP.out).mono ?_); rintro e wz ⟨rfl, hb⟩; rw [HT2.out]; have HBY := mkHid hb; have hky := HK.out _ hb; clear hb))
  all_goals
    clear q1 q1' q2 q3 q3' q4
    obtain ⟨k0, k1, k2, k3⟩ := hky
    go_wp2_with fail
    go_ret
    exact ⟨rfl, HBY.out⟩

theorem bytes_nil_add (a : ByteArray) : (⟨#[]⟩ : ByteArray) ++ a = a := by
  apply ByteArray.ext
  simp [ByteArray.data_append]

set_option maxRecDepth 20000 in
set_option maxHeartbeats 8000000 in
theorem text_one (b o c : Nat) (x : Lk) (w : World) (hb : b < w.heap.size) (h0 : w.cell? ⟨b, o, none⟩ = some (.string x.op)) (h1 : w.cell? ⟨b, o + 1, none⟩ = some (.int .i64 x.dev)) (h2 : w.cell? ⟨b, o + 2, none⟩ = some (.int .i64 x.place)) (hs : x.op.size ≤ 10000) (hd : I64 x.dev) (hp : I64 x.place) :
    Calls Tryd.prog 22 #[.slice (some ⟨b, o, none⟩) 1 c, .int .i64 0, .bool false] w fun e w' => e = .returned (.string (loneText x.op (Lib.itoa x.dev) (Lib.itoa x.place))) ∧ Below w.heap.size w w' := by
  have HK := mkHid (show ∀ Z, Below w.heap.size w Z → Z.cell? ⟨b, o, none⟩ = some (.string x.op) ∧ Z.cell? ⟨b, o + 1, none⟩ = some (.int .i64 x.dev) ∧ Z.cell? ⟨b, o + 2, none⟩ = some (.int .i64 x.place) from fun Z hz =>
    ⟨(hz.cell (p := ⟨b, o, none⟩) hb).trans h0, (hz.cell (p := ⟨b, o + 1, none⟩) hb).trans h1, (hz.cell (p := ⟨b, o + 2, none⟩) hb).trans h2⟩)
  have hl1 := Lib.itoa_length_le x.dev hd.1 hd.2
  have hl2 := Lib.itoa_length_le x.place hp.1 hp.2
  have HI := mkHid (show ∀ Z, Below w.heap.size w Z → ∀ n, I64 n → Calls Tryd.prog 30 #[.int .i64 n] Z fun e w' => e = .returned (strV (Lib.itoa n)) ∧ Below w.heap.size w w' from fun Z hz n hn => (digits_any (n.natAbs + 1) n (Nat.lt_succ_self _) hn.1 hn.2 Z).mono fun e w' h => ⟨h.1, below_step2 hz h.2⟩)
  obtain ⟨t1, ht1⟩ : ∃ t, Lib.itoa x.dev = t := ⟨_, rfl⟩
  obtain ⟨t2, ht2⟩ : ∃ t, Lib.itoa x.place = t := ⟨_, rfl⟩
  rw [ht1] at hl1
  rw [ht2] at hl2
  have HD := mkHid hd
  have HP := mkHid hp
  have HT1 := mkHid ht1
  have HT2 := mkHid ht2
  rw [ht1, ht2]
  clear hd hp ht1 ht2 h0 h1 h2
  have HBY := mkHid (Below.refl w.heap.size w)
  obtain ⟨k0, k1, k2⟩ := HK.out w HBY.out
  have hky := HK.out w HBY.out
  have q1 : ¬ 9223372036854775807 < x.op.size + 1 := by omega
  have q1' : ¬ 9223372036854775807 ≤ x.op.size := by omega
  have q2 : ¬ 9223372036854775807 < x.op.size + 1 + t1.length := by omega
  have q3 : ¬ 9223372036854775807 < x.op.size + 1 + t1.length + 1 := by omega
  have q3' : ¬ 9223372036854775807 ≤ x.op.size + 1 + t1.length := by omega
  have q4 : ¬ 9223372036854775807 < x.op.size + 1 + t1.length + 1 + t2.length := by omega
  go_enter Tryd.func22, Tryd.ntmps22
  go_wp2_with fail
  refine wp_loop_rounds 2 ?_
  rw [rounds_succ]
  go_wp2_with fail
  go_region_held3 (fun Z => Z.cell? ⟨b, o, none⟩ = some (.string x.op) ∧ Z.cell? ⟨b, o + 1, none⟩ = some (.int .i64 x.dev) ∧ Z.cell? ⟨b, o + 2, none⟩ = some (.int .i64 x.place)) (first | exact hky | exact HK.out _ HBY.out | exact HK.out _ HBY.out.drew) (first
    | (go_at_call 30; (with_reducible first | refine (HI.out _ HBY.out x.dev HD.out).mono ?_ | refine (HI.out _ HBY.out.drew x.dev HD.out).mono ?_); rintro e wz ⟨rfl, hb⟩; rw [HT1.out]; have HBY := mkHid hb; have hky := HK.out _ hb; clear hb)
    | (go_at_call 30; (with_reducible first | refine (HI.out _ HBY.out x.place HP.out).mono ?_ | refine (HI.out _ HBY.out.drew x.place HP.out).mono ?_); rintro e wz ⟨rfl, hb⟩; rw [HT2.out]; have HBY := mkHid hb; have hky := HK.out _ hb; clear hb))
  all_goals
    clear q1 q1' q2 q3 q3' q4
    go_wp2_with fail
    rw [rounds_succ]
    go_wp2_with fail
    go_ret
    exact ⟨congrArg (fun q => Ending.returned (.string q)) (bytes_nil_add _), HBY.out⟩
end Go.Proofs.YtolcajcihgfeeaaDoor
