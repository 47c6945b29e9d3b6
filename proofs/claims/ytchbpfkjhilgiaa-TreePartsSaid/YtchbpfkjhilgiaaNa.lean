/- The walk of tree.Right. -/
import Derived.Test.YtchbpfkjhilgiaaPc
import Derived.Test.YtchbpfkjhilgiaaBs
namespace Go.Proofs.Ytchbpfkjhilgiaa
open Go.RowKit
set_option linter.unusedVariables false

def kyOk : Value → Prop := fun v => ∃ x : Key, v = .agg (keyB x.1 x.2.1 x.2.2) ∧ x.2.1.length = 32
@[go_sem] theorem kyOk_agg (t : Int) (c : List UInt8) (i : Int) (h : c.length = 32) : kyOk (.agg (keyB t c i)) := ⟨(t, c, i), rfl, h⟩
@[go_sem ↓] theorem build54 (f : Operand → Value) (y : Operand) (dst : Option Tmp) (ty' : TypeId) (pos : String) (after : Array Edge) (guard : Option (Nat × Bool)) (w : World) (hy : kyOk (f y)) :
    (execOp f ⟨dst, .buildSlice 54 1 #[(0, y)], ty', pos, after, guard⟩).run Try.prog w = .ok (.value (.slice (some ⟨w.heap.size, 0, none⟩) 1 1)) (w.alloc (.cells (aggC (f y)) 38)) := by
  obtain ⟨x, hx, hl⟩ := hy
  have := Rec.run_lit key38 w 1 [(f y, x)] (#[(0, y)].map fun (i, x) => (i, f x)) (by simp [Rec.parts]) rfl (by decide) (by decide) (by
    intro z hz; simp at hz; subst hz; exact ⟨hl, by rw [hx]; simp [keyR, Value.cells]⟩)
  unfold execOp
  simp only [Sem.run_bind, this, Result.andThen_ok, hx, aggC_agg]
  simp [Rec.cells, keyR]
theorem keyN_32 {w : World} {p : Option Addr} {l : List Nd} (h : nodeR.In w p l) {k : Nat} (hk : k < l.length) : (keyN l k).2.1.length = 32 := by
  have hx : l[k]? = some (l.getD k nd0) := by simp [List.getD_eq_getElem?_getD, hk]
  exact h.1 _ (List.mem_of_getElem? hx)
theorem keyIn_one (w : World) (k : Key) (h : k.2.1.length = 32) : keyR.In (w.alloc (.cells (keyB k.1 k.2.1 k.2.2) 38)) (some ⟨w.heap.size, 0, none⟩) [k] := by
  have := Rec.In.one (R := keyR) w 38 k h
  simpa [keyR] using this
@[go_sem] theorem ndB_34 (x : Nd) (h : x.1.2.1.length = 32) : (ndB x)[34]? = some (.int .i64 x.2.1) := by
  have hs : (keyB x.1.1 x.1.2.1 x.1.2.2).size = 34 := by rw [keyB_size, h]
  simp [ndB, hs]
@[go_sem] theorem ndB_35 (x : Nd) (h : x.1.2.1.length = 32) : (ndB x)[35]? = some (.int .i32 x.2.2.1) := by
  have hs : (keyB x.1.1 x.1.2.1 x.1.2.2).size = 34 := by rw [keyB_size, h]
  simp [ndB, hs]
@[go_sem] theorem ndB_36 (x : Nd) (h : x.1.2.1.length = 32) : (ndB x)[36]? = some (.bool x.2.2.2) := by
  have hs : (keyB x.1.1 x.1.2.1 x.1.2.2).size = 34 := by rw [keyB_size, h]
  simp [ndB, hs]
theorem ret_boolN {a b : Bool} (h : a = b) : Ending.returned (.bool a) = .returned (.bool b) := by rw [h]
/-- The keys of the first ones. -/
def keysN (l : List Nd) (k : Nat) : List Key := (List.range k).map (keyN l)
theorem keysN_succ (l : List Nd) (k : Nat) : keysN l (k + 1) = keysN l k ++ [keyN l k] := by simp [keysN, List.range_succ]
theorem keysN_len (l : List Nd) (k : Nat) : (keysN l k).length = k := by simp [keysN]
theorem nd_below {w : World} {x : Nd} {t : TypeId} {w' : World} (h32 : x.1.2.1.length = 32) (hb : Below (w.alloc (.cells (ndB x) t)).heap.size (w.alloc (.cells (ndB x) t)) w') : NdAt w' w.heap.size 0 x ∧ Below w.heap.size w w' :=
  ⟨(NdAt.new w x t h32).below hb, ((Below.refl _ _).alloc (Nat.le_refl _) _).trans (hb.mono (by simp))⟩

set_option maxHeartbeats 4000000 in
set_option maxRecDepth 100000 in
theorem tright_any (p : Option Addr) (c : Nat) (l : List Nd) (w : World) (hlen : l.length ≤ 1000) (hin : nodeR.In w p l) :
    Calls Try.prog 10 #[.slice p l.length c] w fun e w' => e = .returned (.bool (decide (RightL l))) ∧ Below w.heap.size w w' := by
  have HX := Lib.hid hin
  have HRN := Lib.hid (fun (k : Nat) (hk : k < l.length) (h : ¬ okN l k) => (show decide (RightL l) = false from decide_eq_false fun hr => h (hr.1 k hk)))
  clear hin
  go_enter Try.func10, Try.ntmps10
  obtain ⟨vo, w0, hmk, hro, hbk⟩ := Rec.run_mk key38 w l.length (by omega)
  have HRO := Lib.hid hro
  have HBK := Lib.hid hbk
  clear hro hbk
  go_wp2_with fail
  go_loopg [3, 15] l.length (fun g v3 v15 wr => ∃ k : Nat, g + k = l.length ∧ v15 = .int .i64 k ∧ keyR.row 38 w.heap.size (keysN l k) v3 wr ∧ (∀ i, i < k → okN l i) ∧ Below w.heap.size w wr)
  case atStart => exact ⟨0, by omega, rfl, by simpa [keysN] using HRO.out, fun i hi => by omega, HBK.out⟩
  case round =>
    obtain ⟨k, hg, rfl, hrow, hall, hbw⟩ := hrel
    have HG := Lib.hid hg
    have HROW := Lib.hid hrow
    have HALL := Lib.hid hall
    have HB := Lib.hid hbw
    clear hg hrow hall hbw hmk
    by_cases hk : k < l.length
    · obtain ⟨b, off, rfl, hlt, h32, hat⟩ := node_at (HX.out.below HB.out) hk
      have HIN := Lib.hid (HX.out.below HB.out)
      obtain ⟨x, hx⟩ : ∃ x, x = l.getD k nd0 := ⟨_, rfl⟩
      have HOK := Lib.hid (show okN l k ↔ (may x.2.2.1 = true ∧ -1 ≤ x.2.1 ∧ x.2.1 < l.length ∧ (0 ≤ x.2.1 → kCmp (keyN l x.2.1.toNat) x.1 < 0)) by rw [hx]; exact Iff.rfl)
      have HKS := Lib.hid (show keysN l (k + 1) = keysN l k ++ [x.1] by rw [keysN_succ, hx]; rfl)
      rw [← hx] at h32 hat
      have e1 := hat.f
      have e2 := hat.a
      have i1 : (k : Int) < l.length := by omega
      have H32 := Lib.hid h32
      clear hat hx
      obtain ⟨⟨kt, kc, ki⟩, xp, xr, xd⟩ := x
      simp only at HOK HKS h32 H32
      by_cases hm : may xr = true
      case neg =>
        have hm' : may xr = false := by simpa using hm
        go_wp2_with fail
        refine (encode_bad _ hm' _).mono ?_
        rintro e w2 ⟨rfl, hb2⟩
        have HBE := Lib.hid (HB.out.trans ((nd_below H32.out hb2).2.mono HB.out.size))
        have HF := Lib.hid (HRN.out k hk (by rw [HOK.out]; exact fun h => hm h.1))
        clear hb2 e1 e2
        go_wp2
        go_ret
        exact ⟨ret_boolN HF.out.symm, HBE.out⟩
      case pos =>
        have HM := Lib.hid hm
        go_wp2_with fail
        refine (encode_good _ hm _).mono ?_
        rintro e w2 ⟨rfl, hb2⟩
        obtain ⟨hnd, hbe⟩ := nd_below H32.out hb2
        have q1 : w2.cell? ⟨wr.heap.size, 34, none⟩ = some (.int .i64 xp) := by simpa using hnd.p
        have q2 := hnd.kf
        have q3 := hnd.ka
        simp only at q3
        have q4 : wr.heap.size < w2.heap.size := q2.lt
        have HBX := Lib.hid hbe
        have HBE := Lib.hid (HB.out.trans (hbe.mono HB.out.size))
        have HROW2 := Lib.hid (HROW.out.below hbe)
        clear hb2 hnd hbe e1 e2 hm
        by_cases p1 : xp < -1
        · have HF := Lib.hid (HRN.out k hk (by rw [HOK.out]; exact fun h => absurd h.2.1 (by omega)))
          clear q2 q3
          go_wp2
          go_ret
          exact ⟨ret_boolN HF.out.symm, HBE.out⟩
        by_cases p2 : (l.length : Int) ≤ xp
        · have HF := Lib.hid (HRN.out k hk (by rw [HOK.out]; exact fun h => absurd h.2.2.1 (by omega)))
          clear q2 q3
          go_wp2
          go_ret
          exact ⟨ret_boolN HF.out.symm, HBE.out⟩
        by_cases p3 : xp < 0
        · have HOKK := Lib.hid (show okN l k by rw [HOK.out]; exact ⟨HM.out, by omega, by omega, fun h => by omega⟩)
          have d1 : decide (0 ≤ xp) = false := decide_eq_false (by omega)
          clear HRN HOK
          go_wp2_with fail
          refine wp_region_over (by kernel_rfl) (by kernel_rfl) ?_
          repeat (go_big_quiet_step (fail))
          refine wpQuiet_nil ?_
          rintro _ ⟨z0, rfl⟩
          have HBZ := Lib.hid (ov_below w2 z0)
          have q2' := q2
          generalize ov w2 z0 = wz at *
          clear q2'
          have r2 := fits_of_block (a := ⟨wr.heap.size, 0, none⟩) (HBZ.out.block _ q4) q2
          have r3 := (aggAt_of_block (a := ⟨wr.heap.size, 0, none⟩) (HBZ.out.block _ q4)).trans q3
          have HROWz := Lib.hid (((HROW2.out.below HBZ.out).below ((Below.refl wz.heap.size wz).alloc (Nat.le_refl _) (.cells (keyB kt kc ki) 38))))
          have HINz := Lib.hid (keyIn_one wz (kt, kc, ki) H32.out)
          have HBz := Lib.hid (HBE.out.trans (HBZ.out.mono HBE.out.size))
          have hsz : (keysN l k).length + 1 ≤ 100000000 := by rw [keysN_len]; omega
          have HSZ := Lib.hid hsz
          have HBy := Lib.hid (HBz.out.trans (((Below.refl wz.heap.size wz).alloc (Nat.le_refl _) (.cells (keyB kt kc ki) 38)).mono HBz.out.size))
          clear q1 q2 q3 q4 hsz
          go_wp2_with (at_builtin; refine Rec.wpList_app key38 rfl _ _ rfl w.heap.size _ (keysN l k) [(kt, kc, ki)] (keysN l (k + 1)) HKS.out rfl HROWz.out (some ⟨wz.heap.size, 0, none⟩) 1 rfl HINz.out (fun h => by cases h) HSZ.out HBy.out.size ?_)
          rintro v9 w9 hr9 _ hb9
          have HR9 := Lib.hid hr9
          have HB9 := Lib.hid (HBy.out.trans hb9)
          clear hr9 hb9 r2 r3
          go_wp2
          go_roundg (gk - 1)
          case measure => have := HG.out; omega
          case rel => exact ⟨k + 1, by have := HG.out; omega, by go_num, HR9.out, fun i hi => by rcases Nat.lt_succ_iff_lt_or_eq.1 hi with h | rfl; exact HALL.out i h; exact HOKK.out, HB9.out⟩
        · obtain ⟨pn, rfl⟩ := Int.eq_ofNat_of_zero_le (show 0 ≤ xp by omega)
          have hpn : pn < l.length := by omega
          obtain ⟨b', off', he, hltp, hp32, hatp⟩ := node_at (HIN.out.below HBX.out) hpn
          cases he
          have HKY := Lib.hid (show kCmp (keyN l pn) (kt, kc, ki) = keysCmp (l.getD pn nd0).1.1 (l.getD pn nd0).1.2.1 (l.getD pn nd0).1.2.2 kt kc ki from rfl)
          have s2 := hatp.kf
          have s3 := hatp.ka
          generalize l.getD pn nd0 = y at *
          obtain ⟨⟨yt, yc, yi⟩, yp, yr, yd⟩ := y
          simp only at s3 HKY hp32
          have HKC := Lib.hid (fun W => keys_any yt yc yi kt kc ki hp32 H32.out W)
          rw [← HKY.out] at HKC
          obtain ⟨cc, hcc⟩ : ∃ cc, cc = kCmp (keyN l pn) (kt, kc, ki) := ⟨_, rfl⟩
          rw [← hcc] at HKC
          have i2 : (pn : Int) < l.length := by omega
          have d1 : decide (0 ≤ (pn : Int)) = true := decide_eq_true (by omega)
          clear hatp HKY
          by_cases hc0 : 0 ≤ cc
          · have HF := Lib.hid (HRN.out k hk (by rw [HOK.out]; exact fun h => absurd (h.2.2.2 (by omega)) (by rw [Int.toNat_natCast, ← hcc]; omega)))
            have d2 : decide (0 ≤ cc) = true := decide_eq_true hc0
            clear HOK hcc
            go_wp2_with fail
            refine wp_region_over (by kernel_rfl) (by kernel_rfl) ?_
            repeat (go_big_quiet_step ((go_at_call 19; exact Calls.over_of (HKC.out _))))
            refine wpQuiet_nil ?_
            rintro _ ⟨z0, rfl⟩
            have HBZ := Lib.hid (HBE.out.trans ((ov_below w2 z0).mono HBE.out.size))
            clear q1 q2 q3 q4 s2 s3
            go_wp2
            go_ret
            exact ⟨ret_boolN HF.out.symm, HBZ.out⟩
          · have HOKK := Lib.hid (show okN l k by rw [HOK.out]; exact ⟨HM.out, by omega, by omega, fun h => by rw [Int.toNat_natCast, ← hcc]; omega⟩)
            have d2 : decide (0 ≤ cc) = false := decide_eq_false hc0
            clear HRN HOK hcc
            go_wp2_with fail
            refine wp_region_over (by kernel_rfl) (by kernel_rfl) ?_
            repeat (go_big_quiet_step ((go_at_call 19; exact Calls.over_of (HKC.out _))))
            refine wpQuiet_nil ?_
            rintro _ ⟨z0, rfl⟩
            have HBZ := Lib.hid (ov_below w2 z0)
            have q2' := q2
            generalize ov w2 z0 = wz at *
            clear q2' s2 s3
            have r2 := fits_of_block (a := ⟨wr.heap.size, 0, none⟩) (HBZ.out.block _ q4) q2
            have r3 := (aggAt_of_block (a := ⟨wr.heap.size, 0, none⟩) (HBZ.out.block _ q4)).trans q3
            have HROWz := Lib.hid (((HROW2.out.below HBZ.out).below ((Below.refl wz.heap.size wz).alloc (Nat.le_refl _) (.cells (keyB kt kc ki) 38))))
            have HINz := Lib.hid (keyIn_one wz (kt, kc, ki) H32.out)
            have HBz := Lib.hid (HBE.out.trans (HBZ.out.mono HBE.out.size))
            have hsz : (keysN l k).length + 1 ≤ 100000000 := by rw [keysN_len]; omega
            have HSZ := Lib.hid hsz
            have HBy := Lib.hid (HBz.out.trans (((Below.refl wz.heap.size wz).alloc (Nat.le_refl _) (.cells (keyB kt kc ki) 38)).mono HBz.out.size))
            clear q1 q2 q3 q4 hsz
            go_wp2_with (at_builtin; refine Rec.wpList_app key38 rfl _ _ rfl w.heap.size _ (keysN l k) [(kt, kc, ki)] (keysN l (k + 1)) HKS.out rfl HROWz.out (some ⟨wz.heap.size, 0, none⟩) 1 rfl HINz.out (fun h => by cases h) HSZ.out HBy.out.size ?_)
            rintro v9 w9 hr9 _ hb9
            have HR9 := Lib.hid hr9
            have HB9 := Lib.hid (HBy.out.trans hb9)
            clear hr9 hb9 r2 r3
            go_wp2
            go_roundg (gk - 1)
            case measure => have := HG.out; omega
            case rel => exact ⟨k + 1, by have := HG.out; omega, by go_num, HR9.out, fun i hi => by rcases Nat.lt_succ_iff_lt_or_eq.1 hi with h | rfl; exact HALL.out i h; exact HOKK.out, HB9.out⟩
    · have hke : k = l.length := by have := HG.out; omega
      subst hke
      obtain ⟨p3, c3, rfl, hl3, hm3, hi3, hn3⟩ := HROW.out.sl
      have HI3 := Lib.hid hi3
      have hkl := keysN_len l l.length
      have hsk := sortKeys_any p3 c3 (keysN l l.length) wr (by omega) hi3 hm3 hl3
      rw [hkl] at hsk
      have HSK := Lib.hid hsk
      have HST := Lib.hid (Sorted.of (keysN l l.length))
      rw [hkl] at HST
      obtain ⟨O, hO⟩ : ∃ O, O = mergeI (leK (plCmp (keysN l l.length))) (places l.length) := ⟨_, rfl⟩
      rw [← hO] at HSK HST
      have hol := HST.out.len
      rw [hkl] at hol
      have HRI := Lib.hid (rightL_iff (l := l) (ks := keysN l l.length) rfl (fun i hi => HALL.out i hi))
      have HKX := Lib.hid (fun (x : Nat) (hx : x < l.length) => (show O.getD x 0 = ((O.getD x 0).toNat : Int) ∧ (O.getD x 0).toNat < l.length from by
        have := HST.out.lt (x := x) (by omega)
        rw [hkl] at this
        omega))
      have hbig : l.length ≤ 1000 := hlen
      rw [hkl] at hl3 ⊢
      clear hO hsk hi3 hm3 HROW HRN HX hn3
      go_wp2_with fail
      refine HSK.out.mono ?_
      rintro e w5 ⟨v5, rfl, hr5, hb5⟩
      obtain ⟨p5, c5, rfl, hl5, hm5, hi5, hn5⟩ := hr5.sl
      have HI5 := Lib.hid hi5
      have HK5 := Lib.hid (HI3.out.below hb5)
      have HB5 := Lib.hid (HB.out.trans (hb5.mono HB.out.size))
      rw [hol]
      clear hr5 hb5 hi5 hm5 hn5 HI3 HSK
      go_wp2_with fail
      go_loopg [64] l.length (fun g v64 wr => ∃ k : Nat, g + k = l.length ∧ v64 = .int .i64 k ∧ (∀ x, x + 1 < k → keyAt (keysN l l.length) (O.getD x 0) ≠ keyAt (keysN l l.length) (O.getD (x + 1) 0)) ∧ Below w5.heap.size w5 wr)
      case atStart => exact ⟨0, by omega, rfl, fun x hx => by omega, Below.refl _ _⟩
      case round =>
        obtain ⟨k, hg, rfl, hall2, hbw⟩ := hrel
        have HG2 := Lib.hid hg
        have HALL2 := Lib.hid hall2
        have HB2 := Lib.hid hbw
        clear hg hall2 hbw
        by_cases hk : k < l.length
        · have i1 : (k : Int) < l.length := by omega
          by_cases h0 : k = 0
          · subst h0
            have d1 : decide ((0 : Int) < ((0 : Nat) : Int)) = false := by decide
            go_wp2_with fail
            refine wp_region_over (by kernel_rfl) (by kernel_rfl) ?_
            repeat (go_big_quiet_step (fail))
            refine wpQuiet_nil ?_
            rintro _ ⟨z0, rfl⟩
            have HBZ := Lib.hid (HB2.out.trans ((ov_below wr z0).mono HB2.out.size))
            go_wp2
            go_roundg (gk - 1)
            case measure => have := HG2.out; omega
            case rel => exact ⟨1, by have := HG2.out; omega, by go_num, fun x hx => by omega, HBZ.out⟩
          · obtain ⟨j, rfl⟩ : ∃ j, k = j + 1 := ⟨k - 1, by omega⟩
            obtain ⟨x1, x2⟩ := HKX.out j (by omega)
            obtain ⟨y1, y2⟩ := HKX.out (j + 1) hk
            have hin5 := HI5.out.below HB2.out
            have hink := HK5.out.below HB2.out
            rcases hin5.2 with hh | ⟨b5, o5, rfl, hlt5, hc5⟩
            · rw [hh] at hol; simp at hol; omega
            rcases hink.2 with hh | ⟨b6, o6, rfl, hlt6, hc6⟩
            · have := keysN_len l l.length; rw [hh] at this; simp at this; omega
            have q1 := int_cell (hc5 j _ (show O[j]? = some (O.getD j 0) by simp [List.getD_eq_getElem?_getD, show j < O.length by omega]))
            have q2 := int_cell (hc5 (j + 1) _ (show O[j + 1]? = some (O.getD (j + 1) 0) by simp [List.getD_eq_getElem?_getD, show j + 1 < O.length by omega]))
            have HEQ := Lib.hid (fun (he : keyAt (keysN l l.length) (O.getD j 0) = keyAt (keysN l l.length) (O.getD (j + 1) 0)) => (show decide (RightL l) = false from decide_eq_false (fun hr => HST.out.far (x := j) (by omega) he (HRI.out.1 hr))))
            have HNE := Lib.hid (fun (he : keyAt (keysN l l.length) (O.getD j 0) ≠ keyAt (keysN l l.length) (O.getD (j + 1) 0)) => (show ∀ x, x + 1 < j + 1 + 1 → keyAt (keysN l l.length) (O.getD x 0) ≠ keyAt (keysN l l.length) (O.getD (x + 1) 0) from fun x hx => by
              rcases Nat.lt_succ_iff_lt_or_eq.1 hx with h | h
              · exact HALL2.out x h
              · obtain rfl : x = j := by omega
                exact he))
            rw [x1] at q1 HEQ HNE
            rw [y1] at q2 HEQ HNE
            generalize (O.getD j 0).toNat = n1 at *
            generalize (O.getD (j + 1) 0).toNat = n2 at *
            obtain ⟨e1, e2⟩ := key_at (hc6 n1 _ (keyAt_nat (keysN l l.length) n1 (by rw [hkl]; exact x2)))
            obtain ⟨e3, e4⟩ := key_at (hc6 n2 _ (keyAt_nat (keysN l l.length) n2 (by rw [hkl]; exact y2)))
            have g1 : (keyAt (keysN l l.length) (n1 : Int)).2.1.length = 32 := hink.1 _ (List.mem_of_getElem? (keyAt_nat (keysN l l.length) n1 (by rw [hkl]; exact x2)))
            have g2 : (keyAt (keysN l l.length) (n2 : Int)).2.1.length = 32 := hink.1 _ (List.mem_of_getElem? (keyAt_nat (keysN l l.length) n2 (by rw [hkl]; exact y2)))
            generalize keyAt (keysN l l.length) (n1 : Int) = k1 at *
            generalize keyAt (keysN l l.length) (n2 : Int) = k2 at *
            obtain ⟨t1, c1, i1'⟩ := k1
            obtain ⟨t2, c2, i2'⟩ := k2
            simp only at e2 e4 g1 g2
            have HKE := Lib.hid (kCmp_zero (t1, c1, i1') (t2, c2, i2'))
            have HKZ := Lib.hid (keys_zero t1 c1 i1' t2 c2 i2')
            have i2 : (n1 : Int) < l.length := by omega
            have i3 : (n2 : Int) < l.length := by omega
            have d1 : decide ((0 : Int) < ((j + 1 : Nat) : Int)) = true := decide_eq_true (by omega)
            have f1 : IntKind.i64.wrap (((j + 1 : Nat) : Int) - 1) = (j : Int) := by rw [IntWalk.i64_in _ (by omega)]; omega
            have f2 : (j : Int) < l.length := by omega
            clear hin5 hink hc5 hc6 x1 y1 x2 y2
            by_cases hke : keyEq t1 c1 i1' t2 c2 i2' = true
            · have HF := Lib.hid (HEQ.out (HKE.out.1 (by have := HKZ.out; rw [hke] at this; exact of_decide_eq_true this.symm)))
              clear HEQ HNE
              go_wp2_with fail
              refine wp_region_over (by kernel_rfl) (by kernel_rfl) ?_
              repeat (go_big_quiet_step (fail))
              refine wpQuiet_nil ?_
              rintro _ ⟨z0, rfl⟩
              have HBZ := Lib.hid (HB2.out.trans ((ov_below wr z0).mono HB2.out.size))
              clear q1 q2 e1 e2 e3 e4
              go_wp2
              go_ret
              exact ⟨ret_boolN HF.out.symm, HB5.out.trans (HBZ.out.mono HB5.out.size)⟩
            · have hke' : keyEq t1 c1 i1' t2 c2 i2' = false := by simpa using hke
              have HF := Lib.hid (HNE.out (fun he => hke (by have := HKZ.out; rw [this]; exact decide_eq_true (HKE.out.2 he))))
              clear HEQ HNE hke
              go_wp2_with fail
              refine wp_region_over (by kernel_rfl) (by kernel_rfl) ?_
              repeat (go_big_quiet_step (fail))
              refine wpQuiet_nil ?_
              rintro _ ⟨z0, rfl⟩
              have HBZ := Lib.hid (HB2.out.trans ((ov_below wr z0).mono HB2.out.size))
              clear q1 q2 e1 e2 e3 e4
              go_wp2
              go_roundg (gk - 1)
              case measure => have := HG2.out; omega
              case rel => exact ⟨j + 1 + 1, by have := HG2.out; omega, by go_num, HF.out, HBZ.out⟩
        · have HT := Lib.hid (show decide (RightL l) = true from decide_eq_true (HRI.out.2 (HST.out.near (fun x hx => HALL2.out x (by have := HG2.out; omega)))))
          go_wp2
          go_ret
          exact ⟨ret_boolN HT.out.symm, HB5.out.trans (HB2.out.mono HB5.out.size)⟩
end Go.Proofs.Ytchbpfkjhilgiaa
