/- FrameReads: the walk of the law. -/
import Derived.Test.YtncbckbcdopipaaReads
import Derived.Test.YtncbckbcdopipaaAwake02
import Derived.Test.YtncbckbcdopipaaSame
namespace Go.Proofs.Ytncbckbcdopipaa
open Go.RowKit

theorem takeOf_bad (size : Nat) (bs : List Int) : takeOf size bs true = (0, bs, true) := by unfold takeOf; rw [if_pos (.inl rfl)]
theorem readOf_ok {size : Nat} {l : List Int} (h : (readOf size l).2 = true) : size ≤ l.length := by
  unfold readOf at h
  split at h
  · cases h
  · rename_i hh
    exact Nat.le_of_not_lt fun h => hh (.inl h)
theorem readOf_no {size : Nat} {l : List Int} (h : (readOf size l).2 = false) : (readOf size l).1 = 0 := by
  unfold readOf at h ⊢
  split at h
  · rename_i hh
    rw [if_pos hh]
  · cases h

set_option maxRecDepth 20000 in
set_option maxHeartbeats 2000000 in
theorem reads_any (a : Option Addr) (n c : Nat) (l : List Int) (as_ : Option Addr) (ns cs : Nat) (sz : List Int) (rest : Bool) (w : World) (hx : BS w w.heap.size a n l) (hn : n ≤ c ∧ c ≤ 140737488351232)
    (hy : IS w w.heap.size as_ ns sz) (hns : ns ≤ 140737488351232) :
    Calls Try.prog 5 #[.slice a n c, .slice as_ ns cs, .bool rest] w fun e w' => e = .returned (.bool true) ∧ Below w.heap.size w w' := by
  obtain ⟨hn1, hn2⟩ := hn
  by_cases hbig : 5000 < n
  · go_enter Try.func5, Try.ntmps5
    go_wp2_with fail
    refine (awake_any _).mono ?_
    rintro e w1 ⟨rfl, hb1⟩
    go_wp2_with fail
    go_ret
    exact ⟨rfl, hb1⟩
  by_cases hbig2 : 500 < ns
  · go_enter Try.func5, Try.ntmps5
    go_wp2_with fail
    refine (awake_any _).mono ?_
    rintro e w1 ⟨rfl, hb1⟩
    go_wp2_with fail
    go_ret
    exact ⟨rfl, hb1⟩
  have HLL := mkHid hx.len
  go_enter Try.func5, Try.ntmps5
  go_wp2_with fail
  refine (copy_any a n c l w hx (by omega)).mono ?_
  rintro e u ⟨Ab, nb_, cb, rfl, hob, hbu⟩
  have hnb : nb_ = n := by have h1 := hob.1; have h2 := HLL.out; simp at h1; omega
  subst hnb
  have hsu := hbu.size
  have hlu : BS u u.heap.size Ab nb_ l := ⟨SL.of_own hob, hx.2⟩
  clear hob
  go_wp2_with fail
  refine (newUnpacker_any Ab nb_ cb l u hlu (by omega)).mono ?_
  rintro e w1 ⟨g, rfl, hg, ⟨a1, n1, c1, hu1⟩, hb1⟩
  have hbW1 : Below w.heap.size w w1 := hbu.trans (hb1.mono hsu)
  have hgw : w.heap.size ≤ g := by omega
  clear hlu hb1 hbu hsu hg
  have fin : ∀ e w2 w3, Ending.returned (.bool true) = e → Below w.heap.size w w2 → Below w2.heap.size w2 w3 → e = .returned (.bool true) ∧ Below w.heap.size w w3 := fun e w2 w3 he h2 h3 => ⟨he.symm, h2.trans (h3.mono h2.size)⟩
  have FIN := mkHid fin
  clear fin
  go_wp2_with fail
  go_loopw [8, 9, 34] (fun v bd i wr => ∃ (k : Nat) (A : Option Addr) (nl cl : Nat) (lv : List Int) (bad : Bool) (a' : Option Addr) (n' c' : Nat) (bs : List Int), k ≤ ns ∧ i = .int .i64 k ∧ v = .slice A nl cl ∧ bd = .bool bad ∧
      (nl ≤ cl ∧ cl ≤ 140737488351232) ∧ BS wr w.heap.size A nl lv ∧ UK wr g a' n' c' bs bad ∧ (bad = false → bs = lv) ∧ Below w.heap.size w wr) (fun _ _ i _ => ns - (intOf i).toNat)
  case atStart => exact ⟨0, a, nb_, c, l, false, a1, n1, c1, l, Nat.zero_le _, rfl, rfl, rfl, ⟨hn1, hn2⟩, hx.below hbW1, hu1, fun _ => rfl, hbW1⟩
  case round =>
    clear hu1 hbW1
    obtain ⟨k, A, nl, cl, lv, bad, a', n', c', bs, hk, rfl, rfl, rfl, ⟨hcap1, hcap2⟩, hleft, huk, hsame, hb⟩ := hrel
    have hszr := hb.size
    have HBS := mkHid hsame
    clear hsame
    by_cases hlt : k < ns
    · obtain ⟨b, o, rfl, hbl, hcl, hI⟩ := (hy.below hb).at_ hlt
      generalize hK : sz[k]?.getD 0 = K at *
      clear hK
      by_cases his : isSize K = true
      · obtain ⟨size, rfl, hsz⟩ := isSize_nat his
        have hs1 : 1 ≤ size := by omega
        have hs8 : size ≤ 8 := by omega
        have HSZ := mkHid hsz
        clear his hsz
        go_wp2_with fail
        refine (next_any size HSZ.out g a' n' c' bs bad wr huk).mono ?_
        rintro e w2 ⟨rfl, ⟨a2, n2, c2, hu2⟩, hg2⟩
        have hb2 : Below w.heap.size w w2 := hb.grown hg2 (by omega) (fun q hq => by injection hq with hq; omega)
        have hleft2 : BS w2 w.heap.size A nl lv := hleft.keep fun q hq => hg2.block q (by omega) (by intro e; injection e with e; omega)
        have hs2 := hb2.size
        have hl2 := hleft2.more hs2
        have HTR := mkHid (take_read size HSZ.out lv hleft.2)
        clear hg2 hb hleft huk hszr
        have HL2 := mkHid hleft2
        have HB2 := mkHid hb2
        have HU2 := mkHid hu2
        have HLN := mkHid hleft2.len
        clear hleft2 hb2 hu2
        go_wp2_with fail
        refine (rread_any size HSZ.out A nl cl lv w2 hl2 (by omega)).mono ?_
        rintro e w3 ⟨rfl, rfl⟩
        cases bad with
        | true =>
          rw [takeOf_bad] at HU2 ⊢
          go_wp2_with fail
          go_roundw
          case rel => exact ⟨k + 1, A, nl, cl, lv, true, a2, n2, c2, bs, by omega, by go_num, rfl, rfl, ⟨hcap1, hcap2⟩, HL2.out, HU2.out, (fun h => by cases h), HB2.out⟩
          case measure => simp [intOf]; omega
        | false =>
          obtain rfl : bs = lv := HBS.out rfl
          rw [HTR.out.1]
          rw [HTR.out.2.1] at HU2
          by_cases hf : (readOf size bs).2 = true
          · rw [HTR.out.2.2 hf, hf] at HU2
            have hle : size ≤ nl := by have := readOf_ok hf; have := HLN.out; omega
            rw [hf]
            clear HTR
            generalize (readOf size bs).1 = V at *
            obtain ⟨b5, o5, rfl, _⟩ := HL2.out.at_ (j := 0) (by omega)
            by_cases hcs : cl = size
            · go_wp2_with fail
              go_roundw
              case rel => exact ⟨k + 1, _, _, _, bs.drop size, false, a2, n2, c2, bs.drop size, by omega, by go_num, rfl, rfl, ⟨by omega, by omega⟩, by have := HL2.out.drop hle hcap1; rwa [if_pos hcs] at this, HU2.out, fun _ => rfl, HB2.out⟩
              case measure => simp [intOf]; omega
            · go_wp2_with fail
              go_roundw
              case rel => exact ⟨k + 1, _, _, _, bs.drop size, false, a2, n2, c2, bs.drop size, by omega, by go_num, rfl, rfl, ⟨by omega, by omega⟩, by have := HL2.out.cut size nl hle (Nat.le_refl _); rwa [List.take_of_length_le (by rw [HLN.out]; exact Nat.le_refl _)] at this, HU2.out, fun _ => rfl, HB2.out⟩
              case measure => simp [intOf]; omega
          · have hf' : (readOf size bs).2 = false := by simpa using hf
            rw [hf'] at HU2
            rw [readOf_no hf', hf']
            clear hf
            go_wp2_with fail
            go_roundw
            case rel => exact ⟨k + 1, A, nl, cl, bs, true, a2, n2, c2, _, by omega, by go_num, rfl, rfl, ⟨hcap1, hcap2⟩, HL2.out, HU2.out, (fun h => by cases h), HB2.out⟩
            case measure => simp [intOf]; omega
      · have his' : isSize K = false := by simpa using his
        have HIS := mkHid his'
        clear his his'
        go_wp2_with fail
        refine (next_no K g wr HIS.out hI).mono ?_
        rintro e w2 ⟨rfl, rfl⟩
        go_wp2_with fail
        go_roundw
        case rel => exact ⟨k + 1, A, nl, cl, lv, bad, a', n', c', bs, by omega, by go_num, rfl, rfl, ⟨hcap1, hcap2⟩, hleft, huk, HBS.out, hb⟩
        case measure => simp [intOf]; omega
    · obtain rfl : k = ns := by omega
      have HLN := mkHid hleft.len
      have HLE := mkHid hleft
      have HU := mkHid huk
      have HB := mkHid hb
      clear hleft huk hb hszr
      cases bad with
      | true =>
        have HD := mkHid (show (if doneOf bs true = true then Value.nilIface else codeV 14) = codeV 14 from by simp [doneOf])
        cases rest with
        | true =>
          go_wp2_with fail
          refine (rest_bad g a' n' c' bs _ HU.out).mono ?_
          rintro e w' ⟨rfl, rfl⟩
          go_wp2_with fail
          refine (done_any _ _ _ _ _ _ _ HU.out).mono ?_
          rintro e w' ⟨rfl, rfl⟩
          rw [HD.out]
          go_wp2_with fail
          refine (done_any _ _ _ _ _ _ _ HU.out).mono ?_
          rintro e w' ⟨rfl, rfl⟩
          rw [HD.out]
          go_wp2_with fail
          refine (done_any _ _ _ _ _ _ _ HU.out).mono ?_
          rintro e w' ⟨rfl, rfl⟩
          rw [HD.out]
          go_wp2_with fail
          refine (is_code 14 14 _).mono ?_
          rintro e w' ⟨rfl, rfl⟩
          rw [show ((14 : Int) != 0 && (14 : Int) == 14) = true from rfl]
          go_wp2_with fail
          refine (awake_any _).mono ?_
          rintro e w9 ⟨rfl, hb9⟩
          go_wp2_with fail
          go_ret
          exact FIN.out _ _ _ rfl HB.out hb9
        | false =>
          go_wp2_with fail
          refine (done_any _ _ _ _ _ _ _ HU.out).mono ?_
          rintro e w' ⟨rfl, rfl⟩
          rw [HD.out]
          go_wp2_with fail
          refine (done_any _ _ _ _ _ _ _ HU.out).mono ?_
          rintro e w' ⟨rfl, rfl⟩
          rw [HD.out]
          go_wp2_with fail
          refine (done_any _ _ _ _ _ _ _ HU.out).mono ?_
          rintro e w' ⟨rfl, rfl⟩
          rw [HD.out]
          go_wp2_with fail
          refine (is_code 14 14 _).mono ?_
          rintro e w' ⟨rfl, rfl⟩
          rw [show ((14 : Int) != 0 && (14 : Int) == 14) = true from rfl]
          go_wp2_with fail
          refine (awake_any _).mono ?_
          rintro e w9 ⟨rfl, hb9⟩
          go_wp2_with fail
          go_ret
          exact FIN.out _ _ _ rfl HB.out hb9
      | false =>
        obtain rfl : bs = lv := HBS.out rfl
        cases rest with
        | true =>
          have HD := mkHid (show (if doneOf ([] : List Int) false = true then Value.nilIface else codeV 14) = .nilIface from by simp [doneOf])
          have hl3 := HLE.out.more HB.out.size
          have hcap' := HU.out.cap
          go_wp2_with fail
          refine (rest_any g a' n' c' bs _ HU.out).mono ?_
          rintro e w3 ⟨⟨A3, n3, c3, rfl, hown⟩, ⟨a4, n4, c4, hu4⟩, hg4⟩
          have hb4 : Below w.heap.size w w3 := HB.out.grown hg4 HB.out.size (fun q hq => by injection hq with hq; omega)
          have hn3 : n3 = bs.length := by have h1 := hown.1; simp at h1; omega
          have hown3 : BS w3 w3.heap.size A3 n3 bs := ⟨SL.of_own hown, HLE.out.2⟩
          have hl4 : BS w3 w3.heap.size A nl bs := (HLE.out.keep fun q hq => hg4.block q (by have := HB.out.size; omega) (by intro e; injection e with e; omega)).more hb4.size
          have HU4 := mkHid hu4
          have HB4 := mkHid hb4
          clear hb4 hu4 hg4 hown hl3
          have HN3 := mkHid hn3
          clear hn3
          go_wp2_with fail
          refine (same_any A3 A n3 nl c3 cl _ _ bs bs w3 hown3 hl4).mono ?_
          rintro e w' ⟨rfl, rfl⟩
          rw [show decide (bs = bs) = true from by simp]
          go_wp2_with fail
          refine (done_any _ _ _ _ _ _ _ HU4.out).mono ?_
          rintro e w' ⟨rfl, rfl⟩
          rw [HD.out]
          go_wp2_with fail
          refine (done_any _ _ _ _ _ _ _ HU4.out).mono ?_
          rintro e w' ⟨rfl, rfl⟩
          rw [HD.out]
          go_wp2_with fail
          refine (awake_any _).mono ?_
          rintro e w9 ⟨rfl, hb9⟩
          go_wp2_with fail
          go_ret
          exact FIN.out _ _ _ rfl HB4.out hb9
        | false =>
          by_cases h0 : nl = 0
          · have HD := mkHid (show (if doneOf bs false = true then Value.nilIface else codeV 14) = .nilIface from by
              have hz : bs.length = 0 := by rw [HLN.out]; exact h0
              simp [doneOf, hz])
            subst h0
            go_wp2_with fail
            refine (done_any _ _ _ _ _ _ _ HU.out).mono ?_
            rintro e w' ⟨rfl, rfl⟩
            rw [HD.out]
            go_wp2_with fail
            refine (done_any _ _ _ _ _ _ _ HU.out).mono ?_
            rintro e w' ⟨rfl, rfl⟩
            rw [HD.out]
            go_wp2_with fail
            refine (awake_any _).mono ?_
            rintro e w9 ⟨rfl, hb9⟩
            go_wp2_with fail
            go_ret
            exact FIN.out _ _ _ rfl HB.out hb9
          · have HD := mkHid (show (if doneOf bs false = true then Value.nilIface else codeV 14) = codeV 14 from by
              have hz : ¬ bs.length = 0 := by rw [HLN.out]; exact h0
              simp [doneOf, hz])
            have h0' : ((nl : Int) == 0) = false := by simp; omega
            go_wp2_with fail
            refine (done_any _ _ _ _ _ _ _ HU.out).mono ?_
            rintro e w' ⟨rfl, rfl⟩
            rw [HD.out]
            go_wp2_with fail
            refine (done_any _ _ _ _ _ _ _ HU.out).mono ?_
            rintro e w' ⟨rfl, rfl⟩
            rw [HD.out]
            go_wp2_with fail
            refine (done_any _ _ _ _ _ _ _ HU.out).mono ?_
            rintro e w' ⟨rfl, rfl⟩
            rw [HD.out]
            go_wp2_with fail
            refine (is_code 14 14 _).mono ?_
            rintro e w' ⟨rfl, rfl⟩
            rw [show ((14 : Int) != 0 && (14 : Int) == 14) = true from rfl]
            go_wp2_with fail
            refine (awake_any _).mono ?_
            rintro e w9 ⟨rfl, hb9⟩
            go_wp2_with fail
            go_ret
            exact FIN.out _ _ _ rfl HB.out hb9

end Go.Proofs.Ytncbckbcdopipaa
