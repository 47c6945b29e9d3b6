/- The reference's Same, IsSet, Find, In. -/
import Derived.Test.YteielgdgmmeciaaO
namespace Go.Proofs.Yteielgdgmmeciaa
open Go.RowKit
set_option linter.unusedVariables false

set_option maxHeartbeats 4000000 in
set_option maxRecDepth 100000 in
theorem same_any (a a' : Option Addr) (cap cap' : Nat) (xs ys : List (List UInt8)) (w : World) (hm : xs.length ≤ 1000000) (hm' : ys.length ≤ 1000000) (hin : IdsIn w a xs) (hin' : IdsIn w a' ys) :
    Calls Try.prog 16 #[.slice a xs.length cap, .slice a' ys.length cap'] w fun e w' => e = .returned (.bool (xs == ys)) ∧ Below w.heap.size w w' := by
  have HX := Lib.hid hin
  have HY := Lib.hid hin'
  clear hin hin'
  by_cases hlen : xs.length = ys.length
  case neg =>
    have hz : ¬ ((xs.length : Int) = (ys.length : Int)) := by omega
    have HZ := Lib.hid (show (xs == ys) = false from beq_eq_false_iff_ne.2 (fun e => hlen (by rw [e])))
    clear hlen
    go_enter Try.func16, Try.ntmps16
    go_wp2
    go_ret
    exact ⟨ret_bool HZ.out.symm, Below.refl _ _⟩
  have HLEN := Lib.hid hlen
  have hz : ((xs.length : Int) = (ys.length : Int)) := by omega
  clear hlen
  go_enter Try.func16, Try.ntmps16
  go_wp2_with fail
  go_loopg [5] xs.length (fun g i wr => ∃ k : Nat, g + k = xs.length ∧ i = .int .i64 k ∧ xs.take k = ys.take k ∧ Below w.heap.size w wr)
  case atStart => exact ⟨0, by omega, rfl, by simp, Below.refl _ _⟩
  case round =>
    obtain ⟨k, hg, rfl, hall, hbw⟩ := hrel
    have HG := Lib.hid hg
    have HA := Lib.hid hall
    have HB := Lib.hid hbw
    clear hg hall hbw
    by_cases hk : k < xs.length
    · rcases HX.out.2 with h | ⟨b, off, rfl, hc⟩
      · subst h; simp at hk
      rcases HY.out.2 with h | ⟨b', off', rfl, hc'⟩
      · subst h; exact absurd hk (by rw [HLEN.out]; simp)
      have hk' : k < ys.length := by have := HLEN.out; omega
      obtain ⟨e1, e2⟩ := IdAt.below (hc k hk) HB.out
      obtain ⟨e3, e4⟩ := IdAt.below (hc' k hk') HB.out
      clear hc hc'
      have hx := HX.out.1 _ (getD_mem hk)
      have hy := HY.out.1 _ (getD_mem hk')
      have HT := Lib.hid (show xs.getD k [] = ys.getD k [] → xs.take (k + 1) = ys.take (k + 1) from fun e => by rw [take_snoc [] xs k hk, take_snoc [] ys k hk', HA.out, e])
      have HN := Lib.hid (show ¬ xs.getD k [] = ys.getD k [] → (xs == ys) = false from fun e => beq_eq_false_iff_ne.2 (fun h => e (by rw [h])))
      obtain ⟨x, hxe⟩ : ∃ x, x = xs.getD k [] := ⟨_, rfl⟩
      obtain ⟨y, hye⟩ : ∃ y, y = ys.getD k [] := ⟨_, rfl⟩
      rw [← hxe] at e2 hx HT HN
      rw [← hye] at e4 hy HT HN
      clear hxe hye
      obtain ⟨q, hq⟩ : ∃ q : Bool, (x == y) = q := ⟨_, rfl⟩
      have HQ := Lib.hid hq
      clear hq
      go_wp2_with fail
      refine wp_region_specs [[], [], [0, 1], [2], [], [], [4, 5], [6], [3, 7]] [some 17, some 18, some 19, some 20, some 21, some 22, some 23, some 24, some 25] [0, 1, 2, 3, 4, 5, 6, 7, 8]
        (fun a b => Below a.heap.size a b)
        (fun ix_ => [eqv (.slice (some ⟨b, off, none⟩) xs.length cap), eqv (.int .i64 k), eqv (.pointer (some ⟨b, off + k * 32, none⟩)), eqv (.agg (idB x)), eqv (.slice (some ⟨b', off', none⟩) ys.length cap'), eqv (.int .i64 k), eqv (.pointer (some ⟨b', off' + k * 32, none⟩)), eqv (.agg (idB y)), eqv (.bool (!q))].getD ix_ anyv)
        (by kernel_rfl) (by kernel_rfl) (below_drewN (Below.refl _ _) 1) (fun a b c h1 h2 => h1.trans (h2.mono h1.size)) (Stables.get (by exact ⟨eqv_st _ _, eqv_st _ _, eqv_st _ _, eqv_st _ _, eqv_st _ _, eqv_st _ _, eqv_st _ _, eqv_st _ _, eqv_st _ _, trivial⟩)) ?_ ?_
      · refine ⟨?_, ?_, ?_, ?_, ?_, ?_, ?_, ?_, ?_, trivial⟩
        · intro vs w1 hr _ hd
          simp only [putL]
          clear hd 
          go_wp2
          exact ⟨rfl, rfl, Below.refl _ _, rfl⟩
        · intro vs w1 hr _ hd
          simp only [putL]
          clear hd 
          go_wp2
          exact ⟨rfl, rfl, Below.refl _ _, rfl⟩
        · intro vs w1 hr _ hd
          have h0 := hd.get 0 rfl
          change vs 0 = _ at h0
          have h1 := hd.get 1 rfl
          change vs 1 = _ at h1
          simp only [putL, h0, h1]
          clear hd h0 h1
          go_wp2
          exact ⟨rfl, rfl, Below.refl _ _, rfl⟩
        · intro vs w1 hr _ hd
          have h2 := hd.get 2 rfl
          change vs 2 = _ at h2
          have f1 := fits_of_block (a := ⟨b, off + k * 32, none⟩) (hr.block b e1.lt) e1
          have f2 := (aggAt_of_block (a := ⟨b, off + k * 32, none⟩) (n := 32) (hr.block b e1.lt)).trans e2
          simp only [putL, h2]
          clear hd h2
          go_wp2
          exact ⟨rfl, rfl, Below.refl _ _, rfl⟩
        · intro vs w1 hr _ hd
          simp only [putL]
          clear hd 
          go_wp2
          exact ⟨rfl, rfl, Below.refl _ _, rfl⟩
        · intro vs w1 hr _ hd
          simp only [putL]
          clear hd 
          go_wp2
          exact ⟨rfl, rfl, Below.refl _ _, rfl⟩
        · intro vs w1 hr _ hd
          have h4 := hd.get 4 rfl
          change vs 4 = _ at h4
          have h5 := hd.get 5 rfl
          change vs 5 = _ at h5
          simp only [putL, h4, h5]
          clear hd h4 h5
          go_wp2
          exact ⟨rfl, rfl, Below.refl _ _, rfl⟩
        · intro vs w1 hr _ hd
          have h6 := hd.get 6 rfl
          change vs 6 = _ at h6
          have f1 := fits_of_block (a := ⟨b', off' + k * 32, none⟩) (hr.block b' e3.lt) e3
          have f2 := (aggAt_of_block (a := ⟨b', off' + k * 32, none⟩) (n := 32) (hr.block b' e3.lt)).trans e4
          simp only [putL, h6]
          clear hd h6
          go_wp2
          exact ⟨rfl, rfl, Below.refl _ _, rfl⟩
        · intro vs w1 hr _ hd
          have h3 := hd.get 3 rfl
          change vs 3 = _ at h3
          have h7 := hd.get 7 rfl
          change vs 7 = _ at h7
          simp only [putL, h3, h7]
          clear hd h3 h7
          go_wp2
          exact ⟨rfl, rfl, Below.refl _ _, congrArg Value.bool (congrArg (fun z => !z) HQ.out)⟩
      · intro vs w1 hr hd
        have h0 := hd.get 0 rfl
        change vs 0 = _ at h0
        have h1 := hd.get 1 rfl
        change vs 1 = _ at h1
        have h2 := hd.get 2 rfl
        change vs 2 = _ at h2
        have h3 := hd.get 3 rfl
        change vs 3 = _ at h3
        have h4 := hd.get 4 rfl
        change vs 4 = _ at h4
        have h5 := hd.get 5 rfl
        change vs 5 = _ at h5
        have h6 := hd.get 6 rfl
        change vs 6 = _ at h6
        have h7 := hd.get 7 rfl
        change vs 7 = _ at h7
        have h8 := hd.get 8 rfl
        change vs 8 = _ at h8
        simp only [putL, List.getD_cons_zero, List.getD_cons_succ, Act.put, List.setIfInBounds_toArray, List.set_cons_zero, List.set_cons_succ, h0, h1, h2, h3, h4, h5, h6, h7, h8]
        clear hd h0 h1 h2 h3 h4 h5 h6 h7 h8
        have HB2 := Lib.hid (HB.out.trans (hr.mono HB.out.size))
        clear hr
        by_cases hxy : x = y
        · have HT2 := Lib.hid (HT.out hxy)
          have hb : q = true := by rw [← HQ.out, hxy]; exact beq_self_eq_true _
          clear HT HN HQ
          subst hb
          go_wp2
          go_roundg (gk - 1)
          case measure => have := HG.out; omega
          case rel => exact ⟨k + 1, by have := HG.out; omega, by go_num, HT2.out, HB2.out⟩
        · have HN2 := Lib.hid (HN.out hxy)
          have hb : q = false := by rw [← HQ.out]; exact beq_eq_false_iff_ne.2 hxy
          clear HT HN HQ
          subst hb
          go_wp2
          go_ret
          exact ⟨ret_bool HN2.out.symm, HB2.out⟩
    · have HE := Lib.hid (show k = xs.length by have := HG.out; omega)
      go_wp2
      go_ret
      have ha := HA.out
      rw [HE.out, List.take_length, HLEN.out, List.take_length] at ha
      exact ⟨ret_bool (by rw [ha]; exact (beq_self_eq_true _).symm), HB.out⟩

end Go.Proofs.Yteielgdgmmeciaa
