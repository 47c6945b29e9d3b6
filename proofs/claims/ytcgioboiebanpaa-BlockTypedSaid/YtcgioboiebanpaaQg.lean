/- A text that is typed at a place comes out there: the walk. -/
import Derived.Test.YtcgioboiebanpaaQf
namespace Go.Proofs.Ytcgioboiebanpaa
open Go.RowKit Go.Maps Go.WideShapes Go.ChangeShapes Go.Deep
set_option linter.unusedVariables false

/-- A key behind all others. -/
def keyT : Array Value := keyB 1099511627776 (List.replicate 32 0) 0
set_option maxRecDepth 100000 in
@[go_sem ↓] theorem bld26_t (a : Act) (dst : Option Tmp) (ty' : TypeId) (pos : String) (after : Array Edge) (guard : Option (Nat × Bool)) (w : World) :
    (execOp a.eval ⟨dst, .build 26 #[(0, .const (.int .i64 1099511627776))], ty', pos, after, guard⟩).run Try.prog w = .ok (.value (.agg keyT)) w := run_exec_build a.eval _ dst ty' pos after guard w (by
      have h : Try.prog.built 26 [(0, .int .i64 1099511627776)] = some keyT := by kernel_rfl
      have hc : a.eval (.const (.int .i64 1099511627776)) = .int .i64 1099511627776 := rfl
      simpa [hc] using h)
/-- The cells of a key within an act. -/
theorem act_time {w : World} {b o : Nat} {x : AV} (hok : actR.ok x) (h : actR.At w ⟨b, o, none⟩ x) : w.cell? ⟨b, o + 1, none⟩ = some (.int .i64 x.2.1.1) := by
  obtain ⟨h1, h2⟩ := h
  have h1 : fits w ⟨b, o, none⟩ 71 := h1
  have h3 : (aggAt w ⟨b, o, none⟩ 71) = (actL x).toArray := h2
  rw [aggAt_get h1 (j := 1) (by decide), h3]
  unfold actL
  rw [List.getElem?_toArray, keyB_list]
  rfl
theorem str_add (a b : ByteArray) (h : a.size + b.size ≤ 9223372036854775807) (w : World) : (Op.stringOp .add a b).run Try.prog w = .ok (.string (a ++ b)) w := run_string_add_sum w a b h
/-- The place, brought into the text. -/
theorem mod_place (x : Int) (m : Nat) (hm : m ≤ 1000000) : ∃ k : Nat, k ≤ m ∧ IntKind.u64.wrap ((m : Int) + 1) = (m : Int) + 1 ∧ IntKind.i64.wrap (IntKind.u64.wrap (Int.tmod (IntKind.u64.wrap x) ((m : Int) + 1))) = k ∧ IntKind.u64.wrap (Int.tmod (IntKind.u64.wrap x) ((m : Int) + 1)) = k ∧ IntKind.i64.wrap (k : Int) = k ∧ Int.tmod (IntKind.u64.wrap x) ((m : Int) + 1) = k := by
  have h1 : 0 ≤ IntKind.u64.wrap x := by rw [IntKind.wrap_u64]; omega
  generalize IntKind.u64.wrap x = u at *
  have h2 : Int.tmod u ((m : Int) + 1) = u % ((m : Int) + 1) := Int.tmod_eq_emod_of_nonneg h1
  have h3 : 0 ≤ u % ((m : Int) + 1) := Int.emod_nonneg _ (by omega)
  have h4 : u % ((m : Int) + 1) < (m : Int) + 1 := Int.emod_lt_of_pos _ (by omega)
  obtain ⟨k, hk⟩ : ∃ k : Nat, u % ((m : Int) + 1) = k := ⟨(u % ((m : Int) + 1)).toNat, by omega⟩
  have h5 : IntKind.u64.wrap (k : Int) = k := by rw [IntKind.wrap_u64]; omega
  have h6 : IntKind.i64.wrap (k : Int) = k := IntWalk.i64_in _ (by omega)
  refine ⟨k, by omega, by rw [IntKind.wrap_u64]; omega, ?_, ?_, h6, ?_⟩
  · rw [h2, hk, h5, h6]
  · rw [h2, hk, h5]
  · rw [h2, hk]
def kT : KV := (1099511627776, List.replicate 32 0, 0)
theorem insT_first (d : Nat) (v : Value) (rs : List MR) (S : List UInt8) (w : World) (hs : (strB S).size ≤ 1000) (ht : tot rs ≤ 5000) (h : DocP w d v rs) :
    Calls Try.prog 23 #[.pointer (some ⟨d, 0, none⟩), .agg keyT, .agg key0, .bool true, .string (strB S)] w fun e w' =>
      e = .returned (.int .i64 (insE rs kT kNil true S)) ∧ ∃ v', DocP w' d v' (insL rs kT kNil true S) ∧ Step d v v' w w' :=
  insert_P d v rs kT kNil true (strB S) w rfl rfl hs ht h
theorem insT_at (d : Nat) (v : Value) (rs : List MR) (a : KV) (S : List UInt8) (w : World) (ha : a.2.1.length = 32) (hs : (strB S).size ≤ 1000) (ht : tot rs ≤ 5000) (h : DocP w d v rs) :
    Calls Try.prog 23 #[.pointer (some ⟨d, 0, none⟩), .agg keyT, .agg (keyB a.1 a.2.1 a.2.2), .bool false, .string (strB S)] w fun e w' =>
      e = .returned (.int .i64 (insE rs kT a false S)) ∧ ∃ v', DocP w' d v' (insL rs kT a false S) ∧ Step d v v' w w' :=
  insert_P d v rs kT a false (strB S) w rfl ha hs ht h
theorem insT_tot {rs : List MR} (h : ∀ r ∈ rs, idxOk r) {a : KV} {first : Bool} {S : List UInt8} (ht : tot rs ≤ 400) (hs : (strB S).size ≤ 200) : tot (insL rs kT a first S) ≤ 5000 := by
  have h1 := (insL_facts h kT a first S).2.1
  have h2 := insN_le rs kT a first S
  have h3 : (strB S).size = S.length := by simp [strB, ByteArray.size]
  omega
theorem runes_le (S : List UInt8) : (runesL S).length ≤ (strB S).size := by
  have h3 : (strB S).size = S.length := by simp [strB, ByteArray.size]
  rw [h3]
  exact runesL_len S
theorem runes_pos {S : List UInt8} (h : isText S = true) (h0 : 0 < (strB S).size) : 0 < (runesL S).length := by
  have h3 : (strB S).size = S.length := by simp [strB, ByteArray.size]
  have h4 := runes_back h
  cases hr : runesL S with
  | nil =>
    have h5 : S = [] := by rw [← h4, hr]; rfl
    rw [h5] at h3
    rw [h5] at h0
    rw [h3] at h0
    simp at h0
  | cons x l => simp
theorem DocP.key32 {w : World} {d : Nat} {v : Value} {rs : List MR} (h : DocP w d v rs) {a : KV} (ha : ∃ e ∈ flat rs, a = e.1) : a.2.1.length = 32 := by
  obtain ⟨zs, h1, rfl, h3⟩ := h
  obtain ⟨e, he, rfl⟩ := ha
  obtain ⟨r, hr, he'⟩ := List.mem_flatMap.1 he
  obtain ⟨z, hz, rfl⟩ := List.mem_map.1 hr
  obtain ⟨j, hj, h4, _⟩ := mem_elemsAt he'
  rw [h4]
  exact (h1.tells z hz).k32
theorem cut_strB (D : List UInt8) (a b : Int) (hs : D.length ≤ 1000000) (w : World) (A : List UInt8) (h0 : cutE D a b = 0) (h1 : cutL D a b = A) :
    Calls Try.prog 25 #[.string (strB D), .int .i64 a, .int .i64 b] w fun e w' => e = .returned (.tuple #[.string (strB A), .int .i64 0]) ∧ Below w.heap.size w w' := by
  have h3 : (strB D).size = D.length := by simp [strB, ByteArray.size]
  have := cut_any (strB D) a b (by rw [h3]; unfold maxLen; omega) w
  rw [show (strB D).data.toList = D from rfl, h0, h1] at this
  exact this
set_option maxHeartbeats 8000000 in
set_option maxRecDepth 100000 in
theorem lawTyped_any (p : Option Addr) (c1 : Nat) (xs : List AV) (place : Int) (S : List UInt8) (w : World) (hp : actQ.In w p xs) : Calls Try.prog 8 #[.slice p xs.length c1, .int .i64 place, .string (strB S)] w fun e w' => e = .returned (.bool true) ∧ Below w.heap.size w w' := by
  have HP := Lib.hid hp
  clear hp
  go_enter Try.func8, Try.ntmps8
  go_wp2_with fail
  refine (light_any p c1 xs 20 w (by decide) (actQ.r HP.out)).mono ?_
  rintro e w1 ⟨rfl, hb⟩
  have HB1 := Lib.hid hb
  clear hb
  cases hlx : lightL xs 20 with
  | false =>
    go_wp2
    go_ret
    exact ⟨rfl, HB1.out⟩
  | true =>
  have HLX := Lib.hid (light_iff xs hlx)
  clear hlx
  by_cases hs2 : (200 : Int) < ((strB S).size : Int)
  · go_wp2
    go_ret
    exact ⟨rfl, HB1.out⟩
  by_cases hs0 : (strB S).size = 0
  · have hs0' : ((strB S).size : Int) = 0 := by omega
    go_wp2
    go_ret
    exact ⟨rfl, HB1.out⟩
  have d1 : decide ((200 : Int) < ((strB S).size : Int)) = false := decide_eq_false hs2
  have d2 : (((strB S).size : Int) == 0) = false := by rw [beq_eq_false_iff_ne]; omega
  have HS := Lib.hid (show 0 < (strB S).size ∧ (strB S).size ≤ 200 by omega)
  have hx6 : xs.length ≤ 1000000 := by have := HLX.out.1; omega
  go_wp2_with fail
  go_loopg [7] xs.length (fun g v wr => ∃ k : Nat, g + k = xs.length ∧ v = .int .i64 k ∧ (∀ x ∈ xs.take k, x.2.1.1 < 1099511627776) ∧ w1 = wr)
  case atStart => exact ⟨0, by omega, rfl, by simp, rfl⟩
  case round =>
    obtain ⟨k, hg, rfl, hall, rfl⟩ := hrel
    have HG := Lib.hid hg
    have HA := Lib.hid hall
    clear hg hall
    by_cases hk : k < xs.length
    · have HK := Lib.hid hk
      have HIN := Lib.hid (actQ.r (HP.out.below HB1.out))
      rcases HIN.out.2 with h | ⟨b, off, rfl, hlt, hc⟩
      · rw [h] at hk; simp at hk
      have hxx : xs[k]? = some xs[k] := List.getElem?_eq_getElem hk
      have e1 := act_time (HIN.out.1 _ (List.getElem_mem hk)) (hc k _ hxx)
      have HTK := Lib.hid (show xs.take (k + 1) = xs.take k ++ [xs[k]] from List.take_succ_eq_append_getElem hk)
      generalize xs[k] = x at *
      have hsz : actR.sz = 71 := rfl
      rw [hsz] at e1
      have i1 : (k : Int) < xs.length := by omega
      clear hc hxx hlt
      by_cases h40 : x.2.1.1 < 1099511627776
      · have HT := Lib.hid (show ∀ y ∈ xs.take (k + 1), y.2.1.1 < 1099511627776 by
          intro y hy
          rw [HTK.out] at hy
          rcases List.mem_append.1 hy with hy | hy
          · exact HA.out y hy
          · rw [List.mem_singleton] at hy; subst hy; exact h40)
        obtain ⟨x1, ⟨x2, x3, x4⟩, x5⟩ := x
        simp only at e1 h40
        have i2 : ¬ (1099511627776 : Int) ≤ x2 := by omega
        go_wp2
        go_roundg (gk - 1)
        case measure => have := HG.out; have := HK.out; omega
        case rel => exact ⟨k + 1, by have := HG.out; have := HK.out; omega, by go_num, HT.out, rfl⟩
      · obtain ⟨x1, ⟨x2, x3, x4⟩, x5⟩ := x
        simp only at e1 h40
        have i2 : (1099511627776 : Int) ≤ x2 := by omega
        go_wp2
        go_ret
        exact ⟨rfl, HB1.out⟩
    · have HTM := Lib.hid (show ∀ x ∈ xs, x.2.1.1 < 1099511627776 by
        have := HA.out
        rwa [List.take_of_length_le (by omega)] at this)
      have i1 : ¬ (k : Int) < xs.length := by omega
      clear HA HG
      go_wp2_with fail
      refine (new_P w1).mono ?_
      rintro e w2 ⟨rfl, hd, hb⟩
      have HB2 := Lib.hid (HB1.out.trans (hb.mono HB1.out.size))
      obtain ⟨d, hdd⟩ : ∃ d, d = w1.heap.size := ⟨_, rfl⟩
      rw [← hdd] at hd ⊢
      have HD2 := Lib.hid hd
      have HL := Lib.hid (show w.heap.size ≤ d by rw [hdd]; exact HB1.out.size)
      clear hd hb hdd
      obtain ⟨R, hR⟩ : ∃ R, R = actsM [] xs := ⟨_, rfl⟩
      have HR := Lib.hid hR
      have HT := Lib.hid (show tot R ≤ 400 by rw [hR]; exact first_small HLX.out)
      have HIX := Lib.hid (show ∀ r ∈ R, idxOk r by rw [hR]; exact (actsM_facts xs [] (by simp) HLX.out.2).1)
      have HMX := Lib.hid (show mayF R by rw [hR]; exact acts_may xs [] (by simp) HP.out.1 (by intro e he; simp [flat] at he))
      have HND := Lib.hid (show ND R by rw [hR]; exact acts_nd xs [] (by simp) HP.out.1 (by simp [ND, flat]))
      have HTMR := Lib.hid (show ∀ r ∈ R, r.1.1 < 1099511627776 by
        refine tm_runs HIX.out ?_
        rw [hR]
        exact acts_tm xs [] (by simp) HP.out.1 HTM.out (by intro e he; simp [flat] at he))
      have HT5 := Lib.hid (show tot R ≤ 5000 by have := HT.out; omega)
      have HLV := Lib.hid (show liveM R ≤ 400 from Nat.le_trans (liveM_tot R) HT.out)
      clear hR
      go_wp2_with fail
      refine (acts_any d _ [] p c1 w.heap.size xs w2 HL.out (below_all HB2.out HP.out) HLX.out.2 (by have := HLX.out.1; simp only [tot, List.map_nil, List.sum_nil]; omega) HD2.out).mono ?_
      rintro e w3 ⟨rfl, v, hd, hs⟩
      rw [← HR.out] at hd
      have HD3 := Lib.hid hd
      have HB3 := Lib.hid (HB2.out.trans (HD2.out.step hs HL.out))
      clear hd hs
      go_wp2_with fail
      refine (text_P d v R w3 HT5.out HD3.out).mono ?_
      rintro e w4 ⟨rfl, hb⟩
      have HB4 := Lib.hid (HB3.out.trans (hb.mono HB3.out.size))
      have HD4 := Lib.hid (HD3.out.below hb)
      clear hb
      obtain ⟨LV, hLV⟩ : ∃ LV, LV = liveM R := ⟨_, rfl⟩
      have HLVe := Lib.hid hLV
      obtain ⟨m, hm, q1, q2, q3, q4, q5⟩ := mod_place place LV (by have := HLV.out; omega)
      have HM := Lib.hid hm
      clear hm hLV
      have hLV1 : LV ≤ 400 := by have := HLV.out; have := HLVe.out; omega
      go_wp2_with fail
      refine (len_P d v R w4 HD4.out).mono ?_
      rintro e w5 ⟨rfl, hb⟩
      have HB5 := Lib.hid (HB4.out.trans (hb.mono HB4.out.size))
      have HD5 := Lib.hid (HD4.out.below hb)
      rw [← HLVe.out]
      clear hb
      have HDL := Lib.hid (show (docText R).length ≤ 1600 by
        rw [docText_live HMX.out]
        have h2 := encs_len4 (liveU (flat R))
        rw [liveU_len] at h2
        have := HLV.out
        omega)
      obtain ⟨A, hA⟩ : ∃ A, A = encs ((liveU (flat R)).take m) := ⟨_, rfl⟩
      obtain ⟨B, hB⟩ : ∃ B, B = encs ((liveU (flat R)).drop m) := ⟨_, rfl⟩
      have HAe := Lib.hid hA
      have HBe := Lib.hid hB
      have HAB := Lib.hid (show docText R = A ++ B by rw [docText_live HMX.out, hA, hB, ← encs_append, List.take_append_drop])
      have HCA := Lib.hid (show cutE (docText R) 0 m = 0 ∧ cutL (docText R) 0 m = A by
        have := cut_text HMX.out (a := 0) (b := m) (Nat.zero_le _) (by have := HM.out; have := HLVe.out; omega)
        rw [List.drop_zero, Nat.sub_zero, ← hA] at this
        exact this)
      have HCB := Lib.hid (show cutE (docText R) m LV = 0 ∧ cutL (docText R) m LV = B by
        have := cut_text HMX.out (a := m) (b := LV) HM.out (by have := HLVe.out; omega)
        rw [List.take_of_length_le (by rw [List.length_drop, liveU_len, HLVe.out]; exact Nat.le_refl _), ← hB] at this
        exact this)
      have HA0 := Lib.hid (show m = 0 → A = [] by rintro rfl; rw [hA]; rfl)
      have HB0 := Lib.hid (show m = 0 → B = encs (liveU (flat R)) by rintro rfl; rw [hB]; rfl)
      have h3 : (strB S).size = S.length := by simp [strB, ByteArray.size]
      have HSA := Lib.hid (show A.length + S.length ≤ 1000000000 by
        have h1 := HDL.out
        rw [HAB.out, List.length_append] at h1
        have := HS.out.2
        omega)
      have HSB := Lib.hid (show (A ++ S).length + B.length ≤ 1000000000 by
        have h1 := HDL.out
        rw [HAB.out, List.length_append] at h1
        have := HS.out.2
        rw [List.length_append]
        omega)
      have HSM := Lib.hid (show (strB S).size ≤ maxLen by have := HS.out.2; unfold maxLen; omega)
      have HSR := Lib.hid (show (strB S).size * 4 ≤ 140737488351232 by have := HS.out.2; omega)
      clear hA hB h3
      go_wp2_with fail
      refine (cut_strB (docText R) 0 m (Nat.le_trans HDL.out (by decide)) w5 A HCA.out.1 HCA.out.2).mono ?_
      rintro e w5a ⟨rfl, hb⟩
      have HB5a := Lib.hid (HB5.out.trans (hb.mono HB5.out.size))
      have HD5a := Lib.hid (HD5.out.below hb)
      clear hb
      go_wp2_with fail
      refine (len_P d v R w5a HD5a.out).mono ?_
      rintro e w6 ⟨rfl, hb⟩
      have HB6 := Lib.hid (HB5a.out.trans (hb.mono HB5a.out.size))
      have HD6 := Lib.hid (HD5a.out.below hb)
      rw [← HLVe.out]
      clear hb
      go_wp2_with fail
      refine (cut_strB (docText R) m LV (Nat.le_trans HDL.out (by decide)) w6 B HCB.out.1 HCB.out.2).mono ?_
      rintro e w7 ⟨rfl, hb⟩
      have HB7 := Lib.hid (HB6.out.trans (hb.mono HB6.out.size))
      have HD7 := Lib.hid (HD6.out.below hb)
      clear hb
      by_cases hm0 : m = 0
      · subst hm0
        by_cases hit : isText S = true
        · have HIT := Lib.hid hit
          have HTY := Lib.hid (typed_first (a := kNil) (c := List.replicate 32 0) HIX.out HMX.out HTMR.out (show rng 0 from ⟨by decide, by decide⟩) hit (runes_pos hit HS.out.1) (Nat.le_trans (runes_le S) (Nat.le_trans HS.out.2 (by decide))))
          have HTX := Lib.hid (show docText (insL R kT kNil true S) = A ++ S ++ B by rw [show docText (insL R kT kNil true S) = _ from HTY.out.2, HA0.out rfl, HB0.out rfl]; simp [encs])
          clear hit
          go_wp2_with fail
          refine (insT_first d v R S w7 (Nat.le_trans HS.out.2 (by decide)) HT5.out HD7.out).mono ?_
          rintro e w8 ⟨rfl, v8, hd, hs⟩
          rw [show insE R kT kNil true S = 0 from HTY.out.1]
          have HB8 := Lib.hid (HB7.out.trans (HD7.out.step hs HL.out))
          have HD8 := Lib.hid hd
          clear hd hs
          have HT8 := Lib.hid (show tot (insL R kT kNil true S) ≤ 5000 from insT_tot HIX.out HT.out HS.out.2)
          go_wp2_with fail
          refine (runes_any (strB S) HSM.out HSR.out w8).mono ?_
          rintro e wr1 ⟨rv, rfl, _, hb⟩
          have HC1 := Lib.hid (HB8.out.trans (hb.mono HB8.out.size))
          have HE1 := Lib.hid (HD8.out.below hb)
          rw [show (strB S).data.toList = S from rfl]
          rw [show chkE S = 0 by unfold chkE; rw [HIT.out]; rfl]
          clear hb
          go_wp2_with fail
          refine (text_P d v8 (insL R kT kNil true S) wr1 HT8.out HE1.out).mono ?_
          rintro e wr2 ⟨rfl, hb⟩
          rw [HTX.out]
          have hadd1 := strB_add A S HSA.out
          have hadd2 := strB_add (A ++ S) B HSB.out
          have HC2 := Lib.hid (HC1.out.trans (hb.mono HC1.out.size))
          clear hb
          go_wp2_with fail
          refine (awake_any wr2).mono ?_
          rintro e wr3 ⟨rfl, hb⟩
          have HC3 := Lib.hid (HC2.out.trans (hb.mono HC2.out.size))
          clear hb
          go_wp2
          go_ret
          exact ⟨rfl, HC3.out⟩
        · have HIT := Lib.hid (show isText S = false by simpa using hit)
          have HTN := Lib.hid (typed_bad (rs := R) (k := kT) (a := kNil) (first := true) HIT.out)
          clear hit
          go_wp2_with fail
          refine (insT_first d v R S w7 (Nat.le_trans HS.out.2 (by decide)) HT5.out HD7.out).mono ?_
          rintro e w8 ⟨rfl, v8, hd, hs⟩
          rw [show insE R kT kNil true S = 1 from HTN.out.1]
          have HB8 := Lib.hid (HB7.out.trans (HD7.out.step hs HL.out))
          rw [HTN.out.2] at hd
          have HD8 := Lib.hid hd
          clear hd hs
          go_wp2_with fail
          refine (runes_any (strB S) HSM.out HSR.out w8).mono ?_
          rintro e wr1 ⟨rv, rfl, _, hb⟩
          have HC1 := Lib.hid (HB8.out.trans (hb.mono HB8.out.size))
          have HE1 := Lib.hid (HD8.out.below hb)
          rw [show (strB S).data.toList = S from rfl]
          rw [show chkE S = 5 by unfold chkE; rw [HIT.out]; rfl]
          clear hb
          go_wp2_with fail
          refine (text_P d v8 R wr1 HT5.out HE1.out).mono ?_
          rintro e wr2 ⟨rfl, hb⟩
          have HC2 := Lib.hid (HC1.out.trans (hb.mono HC1.out.size))
          clear hb
          go_wp2_with fail
          refine (awake_any wr2).mono ?_
          rintro e wr3 ⟨rfl, hb⟩
          have HC3 := Lib.hid (HC2.out.trans (hb.mono HC2.out.size))
          clear hb
          go_wp2
          go_ret
          exact ⟨rfl, HC3.out⟩
      · have hm1 : ¬ ((m : Int) = 0) := by omega
        have hm2 : ((m : Int) == 0) = false := by rw [beq_eq_false_iff_ne]; omega
        obtain ⟨n, hn⟩ : ∃ n, m = n + 1 := ⟨m - 1, by omega⟩
        have HN := Lib.hid (show n < liveM R by have := HM.out; have := HLVe.out; omega)
        obtain ⟨a, hat, hmem, htyp⟩ := typed_at (t := 1099511627776) (c := List.replicate 32 0) HIX.out HMX.out HND.out (by have := HLV.out; omega) HTMR.out HN.out
        have HAT := Lib.hid (show atM R ((m : Int) - 1) = (a, 0) by rw [show (m : Int) - 1 = (n : Int) by omega]; exact hat)
        have H32 := Lib.hid (HD7.out.key32 hmem)
        have HTYP := Lib.hid (htyp (s := S))
        have HNm := Lib.hid hn
        obtain ⟨ka, kc, ki⟩ := a
        have i7 : -9223372036854775808 ≤ (m : Int) - 1 ∧ (m : Int) - 1 ≤ 9223372036854775807 := by have := HM.out; omega
        clear hat hmem htyp hn
        go_wp2_with fail
        refine (at_P d v R ((m : Int) - 1) w7 HT5.out HD7.out).mono ?_
        rintro e wa ⟨rfl, hb⟩
        rw [HAT.out]
        have HBa := Lib.hid (HB7.out.trans (hb.mono HB7.out.size))
        have HDa := Lib.hid (HD7.out.below hb)
        clear hb
        go_upto_region 20 with (refine wpList_store_blk 26 34 (by kernel_rfl) rfl _ _ rfl wa.heap.size (keyB ka kc ki) (by rw [keyB_size, H32.out]) (key_one _ _ _) rfl rfl _ (MapKept.heap_alloc wa _).1 (by rfl) ?_)
        intro wb s1 s2 s3
        have hb2 : Below wa.heap.size wa wb := ((Below.refl wa.heap.size wa).alloc (Nat.le_refl _) _).trans ⟨s3.os, s3.tape, s3.output, s3.size, fun j hj => s3.block j (by simp; omega) (by simp; omega)⟩
        have HBb := Lib.hid (HBa.out.trans (hb2.mono HBa.out.size))
        have HDb := Lib.hid (HDa.out.below hb2)
        obtain ⟨z, hz⟩ : ∃ z, z = wa.heap.size := ⟨_, rfl⟩
        rw [← hz] at s1 ⊢
        have hk34 : (keyB ka kc ki).size = 34 := by rw [keyB_size, H32.out]
        have f1 := (blk_ld s1 hk34).1
        have f2 := (blk_ld s1 hk34).2
        clear s1 s2 s3 hb2 hz hk34
        by_cases hit : isText S = true
        · have HIT := Lib.hid hit
          have HTY := Lib.hid (HTYP.out hit (runes_pos hit HS.out.1) (Nat.le_trans (runes_le S) (Nat.le_trans HS.out.2 (by decide))))
          have HTX := Lib.hid (show docText (insL R kT (ka, kc, ki) false S) = A ++ S ++ B by rw [show docText (insL R kT (ka, kc, ki) false S) = _ from HTY.out.2, HAe.out, HBe.out, HNm.out])
          clear hit
          go_wp2_with fail
          clear f1 f2
          refine (insT_at d v R (ka, kc, ki) S wb H32.out (Nat.le_trans HS.out.2 (by decide)) HT5.out HDb.out).mono ?_
          rintro e w8 ⟨rfl, v8, hd, hs⟩
          rw [show insE R kT (ka, kc, ki) false S = 0 from HTY.out.1]
          have HB8 := Lib.hid (HBb.out.trans (HDb.out.step hs HL.out))
          have HD8 := Lib.hid hd
          clear hd hs
          have HT8 := Lib.hid (show tot (insL R kT (ka, kc, ki) false S) ≤ 5000 from insT_tot HIX.out HT.out HS.out.2)
          go_wp2_with fail
          refine (runes_any (strB S) HSM.out HSR.out w8).mono ?_
          rintro e wr1 ⟨rv, rfl, _, hb⟩
          have HC1 := Lib.hid (HB8.out.trans (hb.mono HB8.out.size))
          have HE1 := Lib.hid (HD8.out.below hb)
          rw [show (strB S).data.toList = S from rfl]
          rw [show chkE S = 0 by unfold chkE; rw [HIT.out]; rfl]
          clear hb
          go_wp2_with fail
          refine (text_P d v8 (insL R kT (ka, kc, ki) false S) wr1 HT8.out HE1.out).mono ?_
          rintro e wr2 ⟨rfl, hb⟩
          rw [HTX.out]
          have hadd1 := strB_add A S HSA.out
          have hadd2 := strB_add (A ++ S) B HSB.out
          have HC2 := Lib.hid (HC1.out.trans (hb.mono HC1.out.size))
          clear hb
          go_wp2_with fail
          refine (awake_any wr2).mono ?_
          rintro e wr3 ⟨rfl, hb⟩
          have HC3 := Lib.hid (HC2.out.trans (hb.mono HC2.out.size))
          clear hb
          go_wp2
          go_ret
          exact ⟨rfl, HC3.out⟩
        · have HIT := Lib.hid (show isText S = false by simpa using hit)
          have HTN := Lib.hid (typed_bad (rs := R) (k := kT) (a := (ka, kc, ki)) (first := false) HIT.out)
          clear hit
          go_wp2_with fail
          clear f1 f2
          refine (insT_at d v R (ka, kc, ki) S wb H32.out (Nat.le_trans HS.out.2 (by decide)) HT5.out HDb.out).mono ?_
          rintro e w8 ⟨rfl, v8, hd, hs⟩
          rw [show insE R kT (ka, kc, ki) false S = 1 from HTN.out.1]
          have HB8 := Lib.hid (HBb.out.trans (HDb.out.step hs HL.out))
          rw [HTN.out.2] at hd
          have HD8 := Lib.hid hd
          clear hd hs
          go_wp2_with fail
          refine (runes_any (strB S) HSM.out HSR.out w8).mono ?_
          rintro e wr1 ⟨rv, rfl, _, hb⟩
          have HC1 := Lib.hid (HB8.out.trans (hb.mono HB8.out.size))
          have HE1 := Lib.hid (HD8.out.below hb)
          rw [show (strB S).data.toList = S from rfl]
          rw [show chkE S = 5 by unfold chkE; rw [HIT.out]; rfl]
          clear hb
          go_wp2_with fail
          refine (text_P d v8 R wr1 HT5.out HE1.out).mono ?_
          rintro e wr2 ⟨rfl, hb⟩
          have HC2 := Lib.hid (HC1.out.trans (hb.mono HC1.out.size))
          clear hb
          go_wp2_with fail
          refine (awake_any wr2).mono ?_
          rintro e wr3 ⟨rfl, hb⟩
          have HC3 := Lib.hid (HC2.out.trans (hb.mono HC2.out.size))
          clear hb
          go_wp2
          go_ret
          exact ⟨rfl, HC3.out⟩
set_option maxRecDepth 100000 in
theorem blockTyped_walk {H : Type} {enc : TypeId × Value → H} {W : World} {b0 : Nat} {v1 : Value} {d1 : DataW H} {p1 : List MemPlace}
    (k1 : Value.okWide Try.prog W .any b0 22 v1) (h1 : DataW.Trod enc Try.prog W 0 (fun _ => true) true 22 v1 d1 p1) (n : Int) (hn : (Lit.int .i64 n).wf = true) (s : ByteArray) (hs : s.size ≤ maxLen) :
    Calls Try.prog 8 #[v1, .int .i64 n, .string s] W fun e w' => e = .returned (.bool true) ∧ Below W.heap.size W w' := by
  obtain ⟨xs, p, c, rfl, _, _, hi, _⟩ := reads_acts h1 (okWide_slice Try.underlying22 k1)
  exact lawTyped_any p c xs n s.data.toList W hi
end Go.Proofs.Ytcgioboiebanpaa
