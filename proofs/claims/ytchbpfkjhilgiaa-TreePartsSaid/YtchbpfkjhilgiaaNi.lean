/- tree.Text. -/
import Derived.Test.YtchbpfkjhilgiaaNh
namespace Go.Proofs.Ytchbpfkjhilgiaa
open Go.RowKit
set_option linter.unusedVariables false

/-- Runes. -/
def runeR : Rec Int where
  enc n := [.int .i32 n]
  sz := 1
  ok _ := True
  pos := Nat.one_pos
  len _ _ := rfl
  one x _ u hu := by simp at hu; subst hu; rfl
theorem rune62 : runeR.Ty Try.prog 62 21 4 := ⟨Try.underlying62, by kernel_rfl, by kernel_rfl, by decide⟩
theorem rune_in {w : World} {p : Option Addr} {xs : List Int} (h : runeR.In w p xs) : IntsIn .i32 w p xs := by
  rcases h.2 with h | ⟨b, off, rfl, hlt, hc⟩
  · exact .inl h
  · refine .inr ⟨b, off, rfl, hlt, fun i hi => ?_⟩
    have hx : xs[i]? = some (xs.getD i 0) := by simp [List.getD_eq_getElem?_getD, hi]
    have h1 := hc i _ hx
    have := aggAt_get (j := 0) h1.1 Nat.one_pos
    rw [h1.2] at this
    simpa [runeR] using this
/-- The runes of the live ones among the first. -/
def liveT (l : List Nd) (O : List Nat) (k : Nat) : List Int := ((O.take k).filter fun i => !deadN l i).map (runeN l)
theorem liveT_succ (l : List Nd) (O : List Nat) (k : Nat) (h : k < O.length) : liveT l O (k + 1) = if deadN l (O.getD k 0) then liveT l O k else liveT l O k ++ [runeN l (O.getD k 0)] := by
  unfold liveT
  have : O.take (k + 1) = O.take k ++ [O.getD k 0] := by
    rw [List.take_succ_eq_append_getElem h, List.getD_eq_getElem?_getD, List.getElem?_eq_getElem h]; rfl
  rw [this, List.filter_append]
  generalize O.getD k 0 = x
  cases hd : deadN l x <;> simp [hd]
theorem liveN_eq (l : List Nd) : liveN l = liveT l (ordN l) (ordN l).length := by unfold liveN liveT; rw [List.take_length]
theorem live_good (l : List Nd) (k : Nat) : Good (liveT l (ordN l) k) := by
  intro r hr
  unfold liveT at hr
  obtain ⟨i, hi, rfl⟩ := List.mem_map.1 hr
  have hm := List.mem_of_mem_take (List.mem_filter.1 hi).1
  unfold ordN at hm
  split at hm
  · rename_i hR
    exact (hR.1 i (Forest.ord_mem.1 hm)).1
  · cases hm
theorem good_textN {rs : List Int} (h : Good rs) : textL rs = encs rs ∧ textE rs = 0 := by
  unfold textL textE
  have : allMay rs = true := by unfold allMay; rw [List.all_eq_true]; exact h
  rw [this]; exact ⟨rfl, rfl⟩
theorem ordN_le (l : List Nd) : (ordN l).length ≤ l.length := by
  by_cases h : RightL l
  · rw [ordN_len h]; exact Nat.le_refl _
  · unfold ordN; rw [if_neg h]; simp

set_option maxHeartbeats 4000000 in
set_option maxRecDepth 100000 in
theorem ttext_any (p : Option Addr) (c : Nat) (l : List Nd) (w : World) (hlen : l.length ≤ 1000) (hin : nodeR.In w p l) :
    Calls Try.prog 13 #[.slice p l.length c] w fun e w' => e = .returned (.string ⟨(encs (liveN l)).toArray⟩) ∧ Below w.heap.size w w' := by
  have HX := Lib.hid hin
  have HT := Lib.hid (torder_any p c l w hlen hin)
  clear hin
  go_enter Try.func13, Try.ntmps13
  go_wp2_with fail
  refine HT.out.mono ?_
  rintro e w1 ⟨v1, rfl, hr1, hb1⟩
  obtain ⟨p1, c1, rfl, _, _, hin1, _⟩ := hr1.sl
  have HI1 := Lib.hid hin1
  have HB1 := Lib.hid hb1
  have HLO := Lib.hid (ordN_le l)
  have HOL := Lib.hid (fun (k : Nat) (hk : k < (ordN l).length) => (show (ordN l).getD k 0 < l.length from ordN_lt (by
    rw [List.getD_eq_getElem?_getD, List.getElem?_eq_getElem hk]; exact List.getElem_mem hk)))
  have HGD := Lib.hid (live_good l)
  have HLV := Lib.hid (liveN_eq l)
  rw [toI_len]
  obtain ⟨O, hO⟩ : ∃ O, O = ordN l := ⟨_, rfl⟩
  rw [← hO] at HI1 HLO HOL HGD HLV ⊢
  have hol := HLO.out
  clear hr1 hb1 hin1 hO
  go_wp2_with fail
  go_loopg [3, 11] O.length (fun g v3 v11 wr => ∃ k : Nat, g + k = O.length ∧ v11 = .int .i64 k ∧ runeR.row 21 w1.heap.size (liveT l O k) v3 wr ∧ Below w1.heap.size w1 wr)
  case atStart => exact ⟨0, by omega, rfl, by simpa [liveT] using Rec.row.nil, Below.refl _ _⟩
  case round =>
    obtain ⟨k, hg, rfl, hrow, hbw⟩ := hrel
    have HG := Lib.hid hg
    have HROW := Lib.hid hrow
    have HB := Lib.hid hbw
    clear hg hrow hbw
    by_cases hk : k < O.length
    · have HKK := Lib.hid hk
      obtain ⟨x, hx⟩ : ∃ x, x = O.getD k 0 := ⟨_, rfl⟩
      have hxl := HOL.out k hk
      have HLS := Lib.hid (liveT_succ l O k hk)
      have hxI : (toI O)[k]? = some (x : Int) := by
        unfold toI; rw [List.getElem?_map, hx]; simp [List.getD_eq_getElem?_getD, hk]
      rw [← hx] at hxl HLS
      rcases (HI1.out.below HB.out).2 with h | ⟨b1, o1, rfl, hlt1, hc1⟩
      · rw [h] at hxI; simp at hxI
      have q1 := int_cell (hc1 k _ hxI)
      obtain ⟨b, off, rfl, hlt, h32, hat⟩ := node_at (HX.out.below (HB1.out.trans (HB.out.mono HB1.out.size))) hxl
      have q2 := hat.d
      have q3 := hat.r
      have HDX := Lib.hid (show deadN l x = (l.getD x nd0).2.2.2 from rfl)
      have HRX := Lib.hid (show runeN l x = (l.getD x nd0).2.2.1 from rfl)
      rw [HDX.out, HRX.out] at HLS
      generalize l.getD x nd0 = y at *
      obtain ⟨yk, yp, yr, yd⟩ := y
      simp only at q2 q3 HLS
      have i1 : (k : Int) < O.length := by omega
      have i2 : (x : Int) < l.length := by omega
      clear hat hc1 hxI hx HDX HRX h32
      cases yd with
      | true =>
        have HROW2 := Lib.hid (show runeR.row 21 w1.heap.size (liveT l O (k + 1)) _ wr by rw [HLS.out, if_pos rfl]; exact HROW.out)
        go_wp2
        go_roundg (gk - 1)
        case measure => have := HG.out; have := HKK.out; omega
        case rel => exact ⟨k + 1, nat_step HG.out HKK.out, by go_num, HROW2.out, HB.out⟩
      | false =>
        have HLS2 := Lib.hid (show liveT l O (k + 1) = liveT l O k ++ [yr] by rw [HLS.out]; rfl)
        have hba := (Below.refl wr.heap.size wr).alloc (Nat.le_refl _) (.cells #[.int .i32 yr] 21)
        have HRW := Lib.hid (HROW.out.below hba)
        have HINx := Lib.hid (show runeR.In (wr.alloc (.cells #[.int .i32 yr] 21)) (some ⟨wr.heap.size, 0, none⟩) [yr] from Rec.In.one (R := runeR) wr 21 yr trivial)
        have HBA := Lib.hid (HB.out.trans (hba.mono HB.out.size))
        have HTL := Lib.hid (show (liveT l O k).length + 1 ≤ 100000000 by
          have h1 : (liveT l O k).length ≤ (O.take k).length := by unfold liveT; rw [List.length_map]; exact List.length_filter_le _ _
          rw [List.length_take] at h1; omega)
        clear hba
        go_wp2_with (at_builtin; refine Rec.wpList_app rune62 rfl _ _ rfl w1.heap.size _ (liveT l O k) [yr] (liveT l O (k + 1)) HLS2.out rfl HRW.out (some ⟨wr.heap.size, 0, none⟩) 1 rfl HINx.out (fun h => by cases h) HTL.out HBA.out.size ?_)
        rintro v7 w7 hr7 _ hb7
        have HR7 := Lib.hid hr7
        have HB7 := Lib.hid (HBA.out.trans hb7)
        clear hr7 hb7 q1 q2 q3
        go_wp2
        go_roundg (gk - 1)
        case measure => have := HG.out; have := HKK.out; omega
        case rel => exact ⟨k + 1, nat_step HG.out HKK.out, by go_num, HR7.out, HB7.out⟩
    · have hke : k = O.length := by have := HG.out; omega
      subst hke
      obtain ⟨a3, c3, rfl, _, _, hin3, _⟩ := HROW.out.sl
      obtain ⟨ht1, ht2⟩ := good_textN (HGD.out O.length)
      have htx := text_any a3 c3 (liveT l O O.length) wr (by
          have h1 : (liveT l O O.length).length ≤ (O.take O.length).length := by unfold liveT; rw [List.length_map]; exact List.length_filter_le _ _
          rw [List.length_take] at h1; omega) (rune_in hin3)
      rw [ht1, ht2, ← HLV.out] at htx
      have HTX := Lib.hid htx
      rw [← HLV.out] at HROW ⊢
      clear htx ht1 ht2 hin3
      go_wp2_with fail
      refine HTX.out.mono ?_
      rintro e w9 ⟨rfl, hb9⟩
      have HB9 := Lib.hid (HB1.out.trans ((HB.out.trans (hb9.mono HB.out.size)).mono HB1.out.size))
      clear hb9
      go_wp2
      go_ret
      exact ⟨rfl, HB9.out⟩
end Go.Proofs.Ytchbpfkjhilgiaa
