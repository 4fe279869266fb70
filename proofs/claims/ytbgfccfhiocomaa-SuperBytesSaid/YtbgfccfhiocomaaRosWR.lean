/- portageref05.Parse by contract. -/
import Derived.Test.YtbgfccfhiocomaaRosVR
import Derived.Test.YtbgfccfhiocomaaRosRR
namespace Go.Proofs.Ytbgfccfhiocomaa
open Go.RowKit Go.Shelf

/-- How many bytes, and the entries, as the document has it. -/
theorem read2_at {l : List Int} {j : Nat} (h : j + 1 < l.length) : (readOf 2 (l.drop j)).1 = l[j]?.getD 0 * 256 + l[j + 1]?.getD 0 := by
  unfold readOf
  rw [if_neg (by rw [List.length_drop]; omega), drop_cons (by omega), drop_cons h]
  simp [valOf]
theorem range_snoc (l : List Int) (k : Nat) : (List.range (k + 1)).map (enAt l) = (List.range k).map (enAt l) ++ [enAt l k] := by
  rw [List.range_succ, List.map_append]
  rfl

/-- As RetL; the row is new. -/
def RetLN (w : World) (r : Int × List (Int × Int)) (e : Ending) (w' : World) : Prop :=
  ∃ A C, e = .returned (.tuple #[.slice A r.2.length C, .int .i64 r.1]) ∧ ES w' w'.heap.size A r.2.length r.2 ∧ CapOk r.2.length C ∧ (∀ ad : Addr, A = some ad → w.heap.size ≤ ad.block) ∧ Below w.heap.size w w'
theorem RetLN.no {w w' : World} {c : Int} (h : Below w.heap.size w w') : RetLN w (c, []) (.returned (.tuple #[.slice none 0 0, .int .i64 c])) w' :=
  ⟨none, 0, rfl, ES.nil, ⟨by simp, by unfold maxLen; omega, by simp⟩, (fun ad h => by cases h), h⟩
set_option maxRecDepth 20000 in
set_option maxHeartbeats 4000000 in
theorem rparse_any (a : Option Addr) (n c : Nat) (l : List Int) (w : World) (hx : BS w w.heap.size a n l) (hn : n ≤ 1000000) (hc : n ≤ c ∧ c ≤ maxLen) :
    Calls Try.prog 44 #[.slice a n c] w (RetLN w ((parseOf l).2.1, (parseOf l).2.2)) := by
  have HX := mkHid hx
  have ok := hx.2
  have HL := mkHid hx.len
  have HOK := mkHid ok
  have hhd := hd_ok ok
  obtain ⟨hd0, hd1⟩ := hhd
  obtain ⟨hc1, hc2⟩ := hc
  clear ok
  by_cases h0 : n = 0
  · have HP := mkHid (show parseOf l = (14, 0, []) by unfold parseOf goodB; rw [decide_eq_false (by rw [hx.len]; omega)]; rfl)
    subst h0
    clear hx
    go_enter Try.func44, Try.ntmps44
    go_wp2_with fail
    go_ret2
    rw [HP.out]
    exact RetLN.no (Below.refl _ _)
  have hnb : ((n : Int) == 0) = false := by simp; omega
  obtain ⟨b, o, rfl, hb, hcell, _, _⟩ := hx.at_ (j := 0) (by omega)
  rw [Nat.add_zero] at hcell
  replace hcell : w.cell? ⟨b, o, none⟩ = some (.int .u8 (hdOf l)) := hcell
  have hn1 : 0 < n := by omega
  have hn1' : (0 : Int) < n := by omega
  clear hx h0
  obtain ⟨N, hN⟩ := Int.eq_ofNat_of_zero_le hd0
  have HN := mkHid hN
  rw [hN] at hcell hd1 hd0
  clear hN hd0
  by_cases h8 : 8 < N
  · have HP := mkHid (show parseOf l = (14, 0, []) by unfold parseOf goodB; rw [HN.out, decide_eq_false (by omega)]; rfl)
    have h8' : (8 : Int) < N := by omega
    go_enter Try.func44, Try.ntmps44
    go_wp2_with fail
    go_ret2
    rw [HP.out]
    exact RetLN.no (Below.refl _ _)
  have h8' : (N : Int) ≤ 8 := by omega
  by_cases hsh : n < 1 + 3 * N
  · have HP := mkHid (show parseOf l = (14, 0, []) by unfold parseOf goodB; rw [HN.out, decide_eq_false (by rw [HL.out]; omega)]; rfl)
    go_enter Try.func44, Try.ntmps44
    go_wp2_with fail
    go_ret2
    rw [HP.out]
    exact RetLN.no (Below.refl _ _)
  go_enter Try.func44, Try.ntmps44
  go_wp2_with fail
  go_loopw [4, 5] (fun v i wr => ∃ (k : Nat) (A : Option Addr) (C : Nat), k ≤ N ∧ i = .int .i64 k ∧ v = .slice A k C ∧ Hid (wr.ownsRow w.heap.size 77 2 (.slice A k C) k (((List.range k).map (enAt l)).flatMap enC)) ∧ Hid (Below w.heap.size w wr)) (fun _ i _ => N - (intOf i).toNat)
  case atStart => exact ⟨0, none, 0, Nat.zero_le _, rfl, rfl, mkHid (World.ownsRow_nil _ _ _ _), mkHid (Below.refl _ _)⟩
  case round =>
    obtain ⟨k, A, C, hk, rfl, rfl, HO, HB⟩ := hrel
    have c0 := (HB.out.cell (p := ⟨b, o, none⟩) hb).trans hcell
    clear hcell
    by_cases hlt : k < N
    · obtain ⟨b', o', hab, _, hc1', hv0, hv1⟩ := HX.out.at_ (j := 1 + 3 * k) (by omega)
      injection hab with hab
      injection hab with e1 e2
      subst e1 e2
      have d1 := (HB.out.cell (p := ⟨b, o + (1 + 3 * k), none⟩) hb).trans hc1'
      have hne : ¬ c = 2 + 3 * k := by omega
      have HR2 := mkHid (read2_at (l := l) (j := 2 + 3 * k) (by rw [HL.out]; omega))
      have HEA := mkHid (show enAt l k = (l[1 + 3 * k]?.getD 0, (readOf 2 (l.drop (2 + 3 * k))).1) by rw [HR2.out]; unfold enAt; rw [show 3 + 3 * k = 2 + 3 * k + 1 by omega])
      have HRS := mkHid (range_snoc l k)
      have hdrop : BS wr wr.heap.size (some ⟨b, o + (2 + 3 * k), none⟩) (n - (2 + 3 * k)) (l.drop (2 + 3 * k)) := by
        have h1 := ((HX.out.below HB.out).more HB.out.size).drop (k := 2 + 3 * k) (cap := c) (by omega) hc1
        rw [if_neg hne] at h1
        simpa [Addr.add] using h1
      have HDR := mkHid hdrop
      have hk0 : (0 : Int) ≤ k := by omega
      have hsz := HB.out.size
      generalize l[1 + 3 * k]?.getD 0 = x1 at *
      have e3 : IntKind.i64.wrap (3 * (k : Int)) = 3 * k := IntWalk.i64_in _ (by omega)
      clear hc1' hdrop
      go_wp2_with fail
      refine (rread_any 2 (by omega) _ _ (c - (2 + 3 * k)) (l.drop (2 + 3 * k)) wr HDR.out (by omega)).mono ?_
      rintro e w2 ⟨rfl, rfl⟩
      have hsz2 : w.heap.size ≤ wr.heap.size := HB.out.size
      generalize (readOf 2 (l.drop (2 + 3 * k))).1 = x2 at *
      generalize (readOf 2 (l.drop (2 + 3 * k))).2 = x3 at *
      go_wp2_with (at_builtin; refine wpList_app _ rfl (.tmp 45) (.tmp 55) _ rfl w.heap.size el_ren A k C _ rfl (HO.out.alloc _) (wr.heap.size + 1) (some ⟨wr.heap.size, 0, none⟩) 1 1 (enC (x1, x2)) rfl (SL.of_block (heap_alloc_new wr _) rfl (by omega)) (by have := enC_one [(x1, x2)]; simpa using this) (by unfold maxLen; omega) (by omega) (by simp; omega) ?_; intro A' C' w3 ho3 hg3 _)
      have HO3 := mkHid ho3
      have HB3 := mkHid ((HB.out.alloc hsz2 _).grown hg3 (by simp; omega) (own_base HO.out))
      clear ho3 hg3
      go_roundw
      case measure => simp [intOf]; omega
      case rel =>
        refine ⟨k + 1, A', C', by omega, by go_num, rfl, mkHid ?_, HB3⟩
        have h3 := HO3.out
        rw [HRS.out, List.flatMap_append, HEA.out]
        simpa using h3
    · obtain rfl : k = N := by omega
      have hall : (List.range k).map (enAt l) = enAll l := by unfold enAll; rw [HN.out, Int.toNat_natCast]
      have hlen : (enAll l).length = k := by rw [enAll_len, HN.out, Int.toNat_natCast]
      have HO2 := mkHid HO.out
      rw [hall] at HO2
      have hok : ∀ x ∈ enAll l, EnOk x := by
        intro x hx
        rw [← hall] at hx
        obtain ⟨i, _, rfl⟩ := List.mem_map.1 hx
        have g1 := HOK.out.get (1 + 3 * i)
        have g2 := HOK.out.get (2 + 3 * i)
        have g3 := HOK.out.get (3 + 3 * i)
        unfold enAt EnOk I64
        exact ⟨⟨by simp only; omega, by simp only; omega⟩, by simp only; omega, by simp only; omega⟩
      have HES := mkHid (show ES wr wr.heap.size A k (enAll l) from ⟨SL.of_own HO2.out, hok⟩)
      have HCAP := mkHid (show CapOk k C from ⟨(own_cap HO2.out).1, (own_cap HO2.out).2, by omega⟩)
      have HLEN := mkHid hlen
      have HNEW := mkHid (own_new HO2.out (Nat.le_refl _))
      clear hok hall hlen
      cases hr : rightL (enAll l) with
      | false =>
        have HP := mkHid (show parseOf l = (14, 0, []) by unfold parseOf goodB; rw [hr, Bool.and_false]; rfl)
        have HRR := mkHid hr
        clear hr
        go_wp2_with fail
        refine (rright_any A k C _ wr HES.out HCAP.out).mono ?_
        rintro e w5 ⟨rfl, hb5⟩
        subst hb5
        have HBX := HB
        rw [HRR.out]
        clear c0
        go_wp2_with fail
        go_ret2
        rw [HP.out]
        exact RetLN.no HBX.out
      | true =>
        have HP := mkHid (show parseOf l = (0, 1 + 3 * (k : Int), enAll l) by unfold parseOf goodB; rw [hr, Bool.and_true, HN.out, decide_eq_true (by rw [HL.out]; omega), if_pos rfl])
        have HRR := mkHid hr
        clear hr
        go_wp2_with fail
        refine (rright_any A k C _ wr HES.out HCAP.out).mono ?_
        rintro e w5 ⟨rfl, hb5⟩
        subst hb5
        have HBX := HB
        have HES5 := HES
        rw [HRR.out]
        clear c0
        go_wp2_with fail
        go_ret2
        rw [HP.out]
        exact ⟨A, C, by simp only [HLEN.out]; rfl, by simp only [HLEN.out]; exact HES5.out, by simp only [HLEN.out]; exact HCAP.out, HNEW.out, HBX.out⟩

end Go.Proofs.Ytbgfccfhiocomaa
