/- The closure of SortKeys; merge of places; Ints. -/
import Derived.Test.YtchbpfkjhilgiaaMp
import Derived.Test.YtchbpfkjhilgiaaHm
import Derived.OwnWalk
namespace Go.Proofs.Ytchbpfkjhilgiaa
open Go.RowKit
set_option linter.unusedVariables false

theorem mergeN_any (p : Nat) (K : Int → Int → Int) (S : Int → Prop) (n : Nat) : MergeN p K S n := by
  induction n using Nat.strongRecOn with
  | _ n ih =>
    by_cases h : 2 ≤ n
    · exact mergeN_big p K S n h ih
    · exact mergeN_small p K S n (by omega)

/-- Keys. -/
def keyR : Rec Key where
  enc k := (keyB k.1 k.2.1 k.2.2).toList
  sz := 34
  ok k := k.2.1.length = 32
  pos := by decide
  len k h := by rw [Array.length_toList, keyB_size, h]
  one k h u hu := by
    rw [keyB_list] at hu
    simp only [List.mem_append, List.mem_singleton] at hu
    rcases hu with (rfl | hu) | rfl
    · rfl
    · obtain ⟨c, _, rfl⟩ := List.mem_map.1 hu; rfl
    · rfl
theorem key38 : keyR.Ty Try.prog 54 38 48 := ⟨Try.underlying54, by kernel_rfl, by kernel_rfl, by decide⟩
theorem key_at {w : World} {b o k : Nat} {x : Key} (h : keyR.At w ⟨b, o + k * keyR.sz, none⟩ x) : fits w ⟨b, o + k * 34, none⟩ 34 ∧ aggAt w ⟨b, o + k * 34, none⟩ 34 = keyB x.1 x.2.1 x.2.2 :=
  ⟨h.1, by have := h.2; simpa [keyR] using this⟩

/-- What the closure finds: its block holds the slice, the slice the keys. -/
def CloW (p : Nat) (ks : List Key) (w : World) : Prop := ks.length ≤ 1000000 ∧ p < w.heap.size ∧ ∃ b off cap, w.cell? ⟨p, 0, none⟩ = some (.slice (some ⟨b, off, none⟩) ks.length cap) ∧ keyR.In w (some ⟨b, off, none⟩) ks
theorem CloW.below {p : Nat} {ks : List Key} {w w' : World} (h : CloW p ks w) (hb : Below w.heap.size w w') : CloW p ks w' := by
  obtain ⟨h0, h1, b, off, cap, h2, h3⟩ := h
  exact ⟨h0, Nat.lt_of_lt_of_le h1 hb.size, b, off, cap, (hb.cell (p := ⟨p, 0, none⟩) h1).trans h2, h3.below hb⟩

theorem keyAt_nat (ks : List Key) (k : Nat) (h : k < ks.length) : ks[k]? = some (keyAt ks k) := by
  simp [keyAt, List.getD_eq_getElem?_getD, h]
theorem keyAt_32 {ks : List Key} {w : World} {a : Option Addr} (h : keyR.In w a ks) (k : Nat) (hk : k < ks.length) : (keyAt ks k).2.1.length = 32 :=
  h.1 _ (List.mem_of_getElem? (keyAt_nat ks k hk))

set_option maxHeartbeats 1000000 in
set_option maxRecDepth 100000 in
theorem clo_any (p : Nat) (ks : List Key) (w : World) (h : CloW p ks w) (x y : Nat) (hx : x < ks.length) (hy : y < ks.length) :
    Calls Try.prog 38 #[.int .i64 (x : Int), .int .i64 (y : Int), .pointer (some ⟨p, 0, none⟩)] w fun e w' => e = .returned (.int .i64 (plCmp ks x y)) ∧ Below w.heap.size w w' := by
  obtain ⟨hm, hp, b, off, cap, hcell, hin⟩ := h
  have ha := keyAt_32 hin x hx
  have hb := keyAt_32 hin y hy
  rcases hin.2 with rfl | ⟨b', off', he, hlt, hc⟩
  · simp at hx
  cases he
  obtain ⟨e1, e2⟩ := key_at (hc x _ (keyAt_nat ks x hx))
  obtain ⟨e3, e4⟩ := key_at (hc y _ (keyAt_nat ks y hy))
  have HK := Lib.hid (show plCmp ks x y = keysCmp (keyAt ks x).1 (keyAt ks x).2.1 (keyAt ks x).2.2 (keyAt ks y).1 (keyAt ks y).2.1 (keyAt ks y).2.2 from rfl)
  generalize keyAt ks (x : Int) = kx at *
  generalize keyAt ks (y : Int) = ky at *
  generalize plCmp ks x y = c at *
  obtain ⟨t1, c1, i1⟩ := kx
  obtain ⟨t2, c2, i2⟩ := ky
  simp only at ha hb e2 e4 HK
  have CC := Lib.hid (fun W => keys_any t1 c1 i1 t2 c2 i2 ha hb W)
  rw [← HK.out] at CC
  have j1 : (x : Int) < ks.length := by omega
  have j2 : (y : Int) < ks.length := by omega
  clear hc hin HK
  go_enter Try.func38, Try.ntmps38
  go_wp2_with fail
  refine wp_region_over (by kernel_rfl) (by kernel_rfl) ?_
  repeat (go_big_quiet_step ((go_at_call 19; exact Calls.over_of (CC.out _))))
  refine wpQuiet_nil ?_
  rintro _ ⟨x0, rfl⟩
  clear e1 e2 e3 e4 hcell
  go_wp2
  go_ret
  exact ⟨rfl, ov_below w x0⟩

theorem clo_at (p : Nat) (ks : List Key) (w : World) (h : CloW p ks w) : CloAt p (plCmp ks) (fun x => 0 ≤ x ∧ x < ks.length) w := by
  intro W hW x y hx hy
  obtain ⟨k, rfl⟩ := Int.eq_ofNat_of_zero_le hx.1
  obtain ⟨j, rfl⟩ := Int.eq_ofNat_of_zero_le hy.1
  exact clo_any p ks W (h.below hW) k j (by have := hx.2; omega) (by have := hy.2; omega)

set_option maxHeartbeats 1000000 in
set_option maxRecDepth 100000 in
theorem ints_any (a a' : Option Addr) (cap cap' : Nat) (xs ys : List Int) (w : World) (hm : xs.length ≤ 1000000) (hm' : ys.length ≤ 1000000) (hin : intR.In w a xs) (hin' : intR.In w a' ys) :
    Calls Try.prog 15 #[.slice a xs.length cap, .slice a' ys.length cap'] w fun e w' => e = .returned (.bool (xs == ys)) ∧ Below w.heap.size w w' := by
  have HX := Lib.hid hin
  have HY := Lib.hid hin'
  clear hin hin'
  by_cases hlen : xs.length = ys.length
  case neg =>
    have hz : ((xs.length : Int) != (ys.length : Int)) = true := by simp; omega
    have HZ := Lib.hid (show (xs == ys) = false from beq_eq_false_iff_ne.2 (fun e => hlen (by rw [e])))
    go_enter Try.func15, Try.ntmps15
    go_wp2
    go_ret
    exact ⟨ret_bool HZ.out.symm, Below.refl _ _⟩
  have HLEN := Lib.hid hlen
  have hz : ((xs.length : Int) = (ys.length : Int)) := by omega
  clear hlen
  go_enter Try.func15, Try.ntmps15
  go_wp2_with fail
  go_loopg [5] xs.length (fun g i wr => ∃ k : Nat, g + k = xs.length ∧ i = .int .i64 k ∧ xs.take k = ys.take k ∧ Below w.heap.size w wr)
  case atStart => exact ⟨0, by omega, rfl, by simp, Below.refl _ _⟩
  case round =>
    obtain ⟨k, hg, rfl, hall, hbw⟩ := hrel
    have HG := Lib.hid hg
    have HA := Lib.hid hall
    have HB := Lib.hid hbw
    clear hg hall hbw
    by_cases hk : k < xs.length
    · have hk' : k < ys.length := by have := HLEN.out; omega
      rcases HX.out.2 with h | ⟨b, off, rfl, hlt, hc⟩
      · subst h; simp at hk
      rcases HY.out.2 with h | ⟨b', off', rfl, hlt', hc'⟩
      · subst h; simp at hk'
      have hxk : xs[k]? = some (xs.getD k 0) := by simp [List.getD_eq_getElem?_getD, hk]
      have hyk : ys[k]? = some (ys.getD k 0) := by simp [List.getD_eq_getElem?_getD, hk']
      have e1 := int_cell ((hc k _ hxk).below HB.out)
      have e2 := int_cell ((hc' k _ hyk).below HB.out)
      have e3 : b < wr.heap.size := Nat.lt_of_lt_of_le hlt HB.out.size
      have e4 : b' < wr.heap.size := Nat.lt_of_lt_of_le hlt' HB.out.size
      have HT := Lib.hid (show xs.getD k 0 = ys.getD k 0 → xs.take (k + 1) = ys.take (k + 1) from fun e => by rw [take_snoc 0 xs k hk, take_snoc 0 ys k hk', HA.out, e])
      have HN := Lib.hid (show ¬ xs.getD k 0 = ys.getD k 0 → (xs == ys) = false from fun e => beq_eq_false_iff_ne.2 (fun h => e (by rw [h])))
      clear hc hc' hxk hyk
      generalize xs.getD k 0 = x at *
      generalize ys.getD k 0 = y at *
      have i1 : (k : Int) < xs.length := by omega
      have i2 : (k : Int) < ys.length := by omega
      by_cases hxy : x = y
      · have HT2 := Lib.hid (HT.out hxy)
        subst hxy
        clear HT HN
        go_wp2_with fail
        refine wp_region_over (by kernel_rfl) (by kernel_rfl) ?_
        repeat (go_big_quiet_step (fail))
        refine wpQuiet_nil ?_
        rintro _ ⟨x0, rfl⟩
        clear e1 e2 e3 e4
        go_wp2
        go_roundg (gk - 1)
        case measure => have := HG.out; omega
        case rel => exact ⟨k + 1, by have := HG.out; omega, by go_num, HT2.out, HB.out.trans ((ov_below wr x0).mono HB.out.size)⟩
      · have HN2 := Lib.hid (HN.out hxy)
        have j1 : (x != y) = true := by simpa using hxy
        clear HT HN hxy
        go_wp2_with fail
        refine wp_region_over (by kernel_rfl) (by kernel_rfl) ?_
        repeat (go_big_quiet_step (fail))
        refine wpQuiet_nil ?_
        rintro _ ⟨x0, rfl⟩
        clear e1 e2 e3 e4
        go_wp2
        go_ret
        exact ⟨ret_bool HN2.out.symm, HB.out.trans ((ov_below wr x0).mono HB.out.size)⟩
    · have HE := Lib.hid (show k = xs.length by have := HG.out; omega)
      go_wp2
      go_ret
      have ha := HA.out
      rw [HE.out, List.take_length, HLEN.out, List.take_length] at ha
      exact ⟨ret_bool (by rw [ha]; exact (beq_self_eq_true _).symm), HB.out⟩

end Go.Proofs.Ytchbpfkjhilgiaa
