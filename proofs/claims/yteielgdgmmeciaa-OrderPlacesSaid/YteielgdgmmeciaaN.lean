/- IsSet of any slice; place; Find. -/
import Derived.Test.YteielgdgmmeciaaI
import Derived.Test.YteielgdgmmeciaaJ
namespace Go.Proofs.Yteielgdgmmeciaa
open Go.RowKit
set_option linter.unusedVariables false

theorem ret_two {k : IntKind} {a a' : Int} {b b' : Bool} (h1 : a = a') (h2 : b = b') : Ending.returned (.tuple #[.int k a, .bool b]) = .returned (.tuple #[.int k a', .bool b']) := by rw [h1, h2]

set_option maxHeartbeats 2000000 in
set_option maxRecDepth 100000 in
theorem isSet_any (a : Option Addr) (cap : Nat) (xs : List (List UInt8)) (w : World) (hm : xs.length ≤ 1000000) (hin : IdsIn w a xs) :
    Calls Try.prog 22 #[.slice a xs.length cap] w fun e w' => e = .returned (.bool (isSetL xs)) ∧ Below w.heap.size w w' := by
  rcases hin.2 with rfl | ⟨b, off, rfl, hc⟩
  · clear hin
    simp only [List.length_nil]
    go_enter Try.func22, Try.ntmps22
    go_wp2_with fail
    go_loopg [6] 0 (fun g i wr => g = 0 ∧ i = .int .i64 0 ∧ wr = w)
    case atStart => exact ⟨rfl, rfl, rfl⟩
    case round =>
      obtain ⟨hg, rfl, rfl⟩ := hrel
      clear hg
      go_wp2
      go_ret
      exact ⟨rfl, Below.refl _ _⟩
  · exact isSet_cells b off cap xs w hm hin.1 hc

theorem fits_cells {w : World} {b : Nat} {cs : Array Value} {t : TypeId} {n : Nat} (h : w.heap[b]? = some (.cells cs t)) (hn : cs.size = n) : fits w ⟨b, 0, none⟩ n :=
  ⟨rfl, cs, t, (0, 0), h, by simp; omega⟩
theorem aggAt_cells {w : World} {b : Nat} {cs : Array Value} {t : TypeId} {n : Nat} (h : w.heap[b]? = some (.cells cs t)) (hn : cs.size = n) : aggAt w ⟨b, 0, none⟩ n = cs := by
  subst hn
  unfold aggAt; rw [show w.heap[(⟨b, 0, none⟩ : Addr).block]? = some (.cells cs t) from h]; simp

set_option maxHeartbeats 4000000 in
set_option maxRecDepth 100000 in
theorem place_any (a : Option Addr) (cap : Nat) (xs : List (List UInt8)) (x : List UInt8) (w : World) (hm : xs.length ≤ 1000000) (hin : IdsIn w a xs) (hx : x.length = 32) (hs : isSetL xs = true) :
    Calls Try.prog 40 #[.slice a xs.length cap, .agg (idB x)] w fun e w' => e = .returned (.tuple #[.int .i64 (placeN x xs), .bool (isAt x xs)]) ∧ Below w.heap.size w w' := by
  have hb0 := (Below.refl w.heap.size w).alloc (Nat.le_refl _) (.cells (idB x) 23)
  have hbx := (MapKept.heap_alloc w (.cells (idB x) 23)).1
  have HIN := Lib.hid hin
  have HS := Lib.hid hs
  clear hin hs
  go_enter Try.func40, Try.ntmps40
  go_upto_region 1 with fail
  obtain ⟨W, hW⟩ : ∃ W, W = w.alloc (.cells (idB x) 23) := ⟨_, rfl⟩
  rw [← hW] at hb0 hbx ⊢
  have HWs := Lib.hid (show W.heap.size = w.heap.size + 1 by rw [hW]; simp)
  clear hW
  have HB0 := Lib.hid hb0
  have HBX := Lib.hid hbx
  clear hb0 hbx
  go_wp2_with fail
  go_loopg [6, 7] xs.length (fun g lo hi wr => ∃ L H : Nat, g + L = H ∧ lo = .int .i64 L ∧ hi = .int .i64 H ∧ H ≤ xs.length ∧ (∀ j, j < L → cmpB (xs.getD j []) x < 0) ∧ (∀ j, H ≤ j → j < xs.length → 0 < cmpB (xs.getD j []) x) ∧ Below W.heap.size W wr)
  case atStart => exact ⟨0, xs.length, by omega, rfl, rfl, by omega, by omega, by omega, Below.refl _ _⟩
  case round =>
    obtain ⟨L, H, hg, rfl, rfl, hH, hlow, hhigh, hbw⟩ := hrel
    have HG := Lib.hid hg
    have HL := Lib.hid hlow
    have HH := Lib.hid hhigh
    have HBW := Lib.hid hbw
    have HB := Lib.hid (HB0.out.trans (hbw.mono (by rw [HWs.out]; omega)))
    clear hg hlow hhigh hbw
    by_cases hk : L < H
    · have HM : ∃ m : Nat, ((m : Nat) : Int) = (L : Int) + ((H : Int) - (L : Int)) / 2 ∧ L ≤ m ∧ m < H := ⟨L + (H - L) / 2, by omega, by omega, by omega⟩
      rcases HIN.out.2 with h | ⟨b, off, rfl, hc⟩
      · subst h; simp at hH; omega
      go_wp2_with fail
      obtain ⟨m, hm1, hm2, hm3⟩ := HM
      rw [← hm1]
      have HM1 := Lib.hid hm1
      clear hm1
      have hmx : m < xs.length := by omega
      obtain ⟨e1, e2⟩ := IdAt.below (hc m hmx) HB.out
      obtain ⟨e3, e4⟩ := IdAt.below (b := w.heap.size) (o := 0) (w' := wr) ⟨fits_cells HBX.out (by rw [idB_size, hx]), aggAt_cells HBX.out (by rw [idB_size, hx])⟩ HBW.out
      have hxm := HIN.out.1 _ (getD_mem hmx)
      have HF := Lib.hid (isAt_found x xs m HS.out hmx)
      have HLE := Lib.hid (fun j (h : j < m) => isSet_lt xs j m HS.out h hmx)
      have HGE := Lib.hid (fun j (h : m < j) => isSet_lt xs m j HS.out h)
      obtain ⟨y, hy⟩ : ∃ y, y = xs.getD m [] := ⟨_, rfl⟩
      rw [← hy] at e2 hxm HF HLE HGE
      have HY := Lib.hid hy.symm
      clear hy
      clear hc
      refine wp_region_specs [[], [], [0, 1], [2], [], [3, 4], [5]] [some 21, some 22, some 23, some 24, some 25, some 26, some 9] [0, 1, 2, 3, 4, 5, 6]
        (fun a b => Below a.heap.size a b)
        (fun k => [eqv (.slice (some ⟨b, off, none⟩) xs.length cap), eqv (.int .i64 m), eqv (.pointer (some ⟨b, off + m * 32, none⟩)), eqv (.agg (idB y)), eqv (.agg (idB x)), eqv (.int .i64 (cmpB y x)), eqv (.int .i64 (cmpB y x))].getD k anyv)
        (by kernel_rfl) (by kernel_rfl) (below_drewN (Below.refl _ _) 1) (fun a b c h1 h2 => h1.trans (h2.mono h1.size)) (Stables.get (by exact ⟨eqv_st _ _, eqv_st _ _, eqv_st _ _, eqv_st _ _, eqv_st _ _, eqv_st _ _, eqv_st _ _, trivial⟩)) ?_ ?_
      · refine ⟨?_, ?_, ?_, ?_, ?_, ?_, ?_, trivial⟩
        · intro vs w1 hr _ hd
          simp only [putL]
          clear hd 
          go_wp2
          exact ⟨rfl, rfl, Below.refl _ _, rfl⟩
        · intro vs w1 hr _ hd
          simp only [putL]
          clear hd 
          go_wp2
          exact ⟨rfl, rfl, Below.refl _ _, rfl⟩
        · intro vs w1 hr _ hd
          have h0 := hd.get 0 rfl
          change vs 0 = _ at h0
          have h1 := hd.get 1 rfl
          change vs 1 = _ at h1
          simp only [putL, h0, h1]
          clear hd h0 h1
          go_wp2
          exact ⟨rfl, rfl, Below.refl _ _, rfl⟩
        · intro vs w1 hr _ hd
          have h2 := hd.get 2 rfl
          change vs 2 = _ at h2
          have f1 := fits_of_block (a := ⟨b, off + m * 32, none⟩) (hr.block b e1.lt) e1
          have f2 := (aggAt_of_block (a := ⟨b, off + m * 32, none⟩) (n := 32) (hr.block b e1.lt)).trans e2
          simp only [putL, h2]
          clear hd h2
          go_wp2
          exact ⟨rfl, rfl, Below.refl _ _, rfl⟩
        · intro vs w1 hr _ hd
          have f1 := fits_of_block (a := ⟨w.heap.size, 0, none⟩) (hr.block w.heap.size e3.lt) e3
          have f2 := (aggAt_of_block (a := ⟨w.heap.size, 0, none⟩) (n := 32) (hr.block w.heap.size e3.lt)).trans e4
          simp only [putL]
          clear hd 
          go_wp2
          exact ⟨rfl, rfl, Below.refl _ _, rfl⟩
        · intro vs w1 hr _ hd
          have h3 := hd.get 3 rfl
          change vs 3 = _ at h3
          have h4 := hd.get 4 rfl
          change vs 4 = _ at h4
          simp only [putL, h3, h4]
          clear hd h3 h4
          go_wp2_with fail
          refine (compare_any y x hxm hx _).mono ?_
          rintro e w2 ⟨rfl, hb2⟩
          go_wp2
          exact ⟨rfl, rfl, hb2, rfl⟩
        · intro vs w1 hr _ hd
          have h5 := hd.get 5 rfl
          change vs 5 = _ at h5
          simp only [putL, h5]
          clear hd h5
          go_wp2
          exact ⟨rfl, rfl, Below.refl _ _, rfl⟩
      · intro vs w1 hr hd
        have h0 := hd.get 0 rfl
        change vs 0 = _ at h0
        have h1 := hd.get 1 rfl
        change vs 1 = _ at h1
        have h2 := hd.get 2 rfl
        change vs 2 = _ at h2
        have h3 := hd.get 3 rfl
        change vs 3 = _ at h3
        have h4 := hd.get 4 rfl
        change vs 4 = _ at h4
        have h5 := hd.get 5 rfl
        change vs 5 = _ at h5
        have h6 := hd.get 6 rfl
        change vs 6 = _ at h6
        simp only [putL, List.getD_cons_zero, List.getD_cons_succ, Act.put, List.setIfInBounds_toArray, List.set_cons_zero, List.set_cons_succ, h0, h1, h2, h3, h4, h5, h6]
        clear hd h0 h1 h2 h3 h4 h5 h6
        have HB2 := Lib.hid (HBW.out.trans (hr.mono HBW.out.size))
        have HCZ := Lib.hid (cmpB_zero y x)
        have HLT := Lib.hid (fun z (h : cmpB z y ≤ 0) => cmpB_trans z y x h)
        have HGT := Lib.hid (fun z (h1 : cmpB y z < 0) (h2 : 0 < cmpB y x) => (show 0 < cmpB z x by
          have t := (cmpB_trans x y z (by rw [cmpB_anti y x]; omega) (by omega)).2 (.inr h1)
          rw [cmpB_anti x z]; omega))
        have HYC := Lib.hid (show cmpB (xs.getD m []) x = cmpB y x by rw [HY.out])
        generalize cmpB y x = c at *
        by_cases h0 : c = 0
        · subst h0
          have HF1 := Lib.hid (HF.out rfl)
          clear HF
          go_wp2
          go_ret2
          exact ⟨ret_two (by rw [HF1.out.1]) HF1.out.2.symm, HB0.out.trans (HB2.out.mono (by rw [HWs.out]; omega))⟩
        by_cases h1 : c < 0
        · clear HF
          go_wp2
          go_roundg (H - (m + 1))
          case measure => have := HG.out; omega
          case rel =>
            refine ⟨m + 1, H, by omega, by go_num, rfl, hH, fun j hj => ?_, HH.out, HB2.out⟩
            by_cases hjm : j < m
            · exact (HLT.out _ (by have := HLE.out j hjm; omega) (by omega)).2 (.inr h1)
            · rw [show j = m by omega, HYC.out]; exact h1
        · clear HF
          go_wp2
          go_roundg (m - L)
          case measure => have := HG.out; omega
          case rel =>
            refine ⟨L, m, by omega, rfl, by go_num, by omega, HL.out, fun j hj hjx => ?_, HB2.out⟩
            by_cases hjm : m < j
            · exact HGT.out _ (HGE.out j hjm hjx) (by omega)
            · rw [show j = m by omega, HYC.out]; omega
    · have HE := Lib.hid (show L = H by have := HG.out; omega)
      go_wp2
      go_ret2
      obtain ⟨h1, h2⟩ := isAt_none x xs L (by have := HE.out; omega) HL.out (fun h => HH.out L (by have := HE.out; omega) h)
      exact ⟨ret_two (by rw [h1]) h2.symm, HB.out⟩

end Go.Proofs.Yteielgdgmmeciaa
