/- The walk of the reference's Costs. -/
import Derived.Test.YtipoifokcnbfnaaKh
import Derived.StillTailTactics
namespace Go.Proofs.Ytipoifokcnbfnaa
open Go.RowKit
set_option linter.unusedVariables false

theorem set_from (O : List Int) (j m : Nat) (x : Int) (E : Nat → Int) (hl : O.length = m + 1) (hj : j ≤ m) (h : ∀ j', j + 1 ≤ j' → j' ≤ m → O.getD j' 0 = E j') (hx : x = E j) : ∀ j', j ≤ j' → j' ≤ m → (O.set j x).getD j' 0 = E j' := by
  intro j' h1 h2
  by_cases he : j' = j
  · subst he; simp [List.getD_eq_getElem?_getD, hl, show j' < m + 1 by omega, hx]
  · rw [← h j' (by omega) h2]; simp [List.getD_eq_getElem?_getD, List.getElem?_set_ne (Ne.symm he)]
theorem row_moved {α : Type} {R : Rec α} {e : TypeId} {base : Nat} {O : List α} {v : Value} {w w' : World} (h : R.row e base O v w) (hh : ∀ g, v.ownBlock = some g → w'.heap[g]? = w.heap[g]?) : R.row e base O v w' := by
  obtain ⟨hok, hl, h | ⟨g, cap, cur, he, hg, hb, hc, hm, hs, ht⟩⟩ := h
  · exact ⟨hok, hl, .inl h⟩
  · exact ⟨hok, hl, .inr ⟨g, cap, cur, he, hg, (hh g (by rw [he]; rfl)).trans hb, hc, hm, hs, ht⟩⟩

set_option maxHeartbeats 8000000 in
set_option maxRecDepth 100000 in
theorem costs_any (pa pb : Option Addr) (ca cb : Nat) (a b : List Int) (w : World) (ha : a.length ≤ 4096) (hb : b.length ≤ 4096) (hia : (numR .i32).In w pa a) (hib : (numR .i32).In w pb b) :
    Calls Try.prog 22 #[.slice pa a.length ca, .slice pb b.length cb] w fun e w' => ∃ go hs, e = .returned (.slice (some ⟨go, 0, none⟩) (a.length + 1 : Nat) (a.length + 1 : Nat)) ∧ hs.length = a.length + 1 ∧ hdrR.row 51 w.heap.size hs (.slice (some ⟨go, 0, none⟩) (a.length + 1 : Nat) (a.length + 1 : Nat)) w' ∧ CM w' w.heap.size a b hs 0 ∧ Below w.heap.size w w' := by
  have HIA := Lib.hid hia
  have HIB := Lib.hid hib
  clear hia hib
  obtain ⟨N, hN⟩ : ∃ N, N = a.length + 1 := ⟨_, rfl⟩
  obtain ⟨M, hM⟩ : ∃ M, M = b.length + 1 := ⟨_, rfl⟩
  have f1 : IntKind.i64.wrap ((a.length : Int) + 1) = (N : Int) := by rw [IntWalk.i64_in _ (by omega)]; omega
  have f2 : IntKind.i64.wrap ((b.length : Int) + 1) = (M : Int) := by rw [IntWalk.i64_in _ (by omega)]; omega
  have hN1 : N ≤ 1000000 := by omega
  have hM1 : M ≤ 1000000 := by omega
  have HN := Lib.hid hN
  have HM := Lib.hid hM
  rw [← hN]
  clear hN hM
  go_enter Try.func22, Try.ntmps22
  go_upto_region 3 with fail
  obtain ⟨go, hgo⟩ : ∃ go, go = w.heap.size := ⟨_, rfl⟩
  have hrow := hrow_made w 51 N hN1
  have hbe := (Below.refl w.heap.size w).alloc (Nat.le_refl _) (.cells (madeCells #[.slice none 0 0] N) 51)
  obtain ⟨W0, hW0⟩ : ∃ W0, W0 = w.alloc (.cells (madeCells #[.slice none 0 0] N) 51) := ⟨_, rfl⟩
  rw [← hW0] at hrow hbe ⊢
  rw [← hgo] at hrow ⊢
  have HR0 := Lib.hid hrow
  have HB0 := Lib.hid hbe
  have HGO := Lib.hid hgo
  clear hrow hbe hW0 hgo
  go_wp2_with fail
  go_loopg [8] N (fun g v8 wr => ∃ (i1 : Nat) (I : Int) (hs : List (Option Addr × Nat × Nat)), g = i1 ∧ i1 ≤ N ∧ v8 = .int .i64 I ∧ I = (i1 : Int) - 1 ∧ hs.length = N ∧ hdrR.row 51 go hs (.slice (some ⟨go, 0, none⟩) N N) wr ∧ CM wr go a b hs i1 ∧ Below w.heap.size w wr)
  case atStart => exact ⟨N, _, List.replicate N (none, 0, 0), rfl, by omega, rfl, by have := HN.out; omega, by simp, HR0.out, fun i h1 h2 => by have := HN.out; omega, HB0.out⟩
  case round =>
    obtain ⟨i1, I, hs, hg, hi1, rfl, hI, hsl, hrow, hcm, hbw⟩ := hrel
    have HG := Lib.hid hg
    have HSL := Lib.hid hsl
    have HR := Lib.hid hrow
    have HCM := Lib.hid hcm
    have HB := Lib.hid hbw
    clear hg hsl hrow hcm hbw
    by_cases hi0 : i1 = 0
    · have hIm : I = -1 := by omega
      have g1 : decide (0 ≤ I) = false := decide_eq_false (by omega)
      have HI0 := Lib.hid hi0
      clear hI hi0
      go_wp2
      go_ret
      rw [HI0.out] at HCM
      exact ⟨go, hs, rfl, by rw [HSL.out, HN.out], by rw [← HGO.out]; exact HR.out, by rw [← HGO.out]; exact HCM.out, HB.out⟩
    · obtain ⟨i, rfl⟩ : ∃ i, i1 = i + 1 := ⟨i1 - 1, by omega⟩
      obtain rfl : I = (i : Int) := by omega
      have hin : i ≤ a.length := by have := HN.out; omega
      have hiN : (i : Int) < N := by omega
      have hil : i < hs.length := by rw [HSL.out]; omega
      have c0 := hdr_at (List.getElem?_eq_getElem hil) HR.out
      have c1 := hdr_frozen hil HR.out
      have hgl : go < wr.heap.size := by
        obtain ⟨_, cur, hh⟩ := row_block HR.out go rfl
        exact (Array.getElem?_eq_some_iff.1 hh).1
      clear hI hi0
      have hset := hdr_set (some ⟨wr.heap.size, 0, none⟩, M, M) hil HR.out
      have hmk := row_made .i64 (wr.setCell ⟨go, i, none⟩ (.slice (some ⟨wr.heap.size, 0, none⟩) M M)) 3 M hM1
      have hsz : (wr.setCell ⟨go, i, none⟩ (.slice (some ⟨wr.heap.size, 0, none⟩) M M)).heap.size = wr.heap.size := by simp
      rw [hsz] at hmk
      go_upto_region 7 with fail
      obtain ⟨gi, hgi⟩ : ∃ gi, gi = wr.heap.size := ⟨_, rfl⟩
      obtain ⟨X, hX⟩ : ∃ X, X = wr.setCell ⟨go, i, none⟩ (.slice (some ⟨wr.heap.size, 0, none⟩) M M) := ⟨_, rfl⟩
      rw [← hX] at hset hmk hsz ⊢
      rw [← hgi] at hset hmk ⊢
      have hbe := (Below.refl X.heap.size X).alloc (Nat.le_refl _) (.cells (madeCells #[.int .i64 0] M) 3)
      obtain ⟨W1, hW1⟩ : ∃ W1, W1 = X.alloc (.cells (madeCells #[.int .i64 0] M) 3) := ⟨_, rfl⟩
      rw [← hW1] at hmk hbe ⊢
      have hcmX : CM X go a b hs (i + 1) := fun i' h1 h2 => by
        obtain ⟨g, h3, h4⟩ := HCM.out i' h1 h2
        refine ⟨g, h3, row_moved h4 (fun g' hg' => ?_)⟩
        cases hg'
        obtain ⟨_, cur, hh⟩ := row_own h4
        obtain ⟨_, cur', hh'⟩ := row_block HR.out go rfl
        rw [hX]
        refine Below.heap_setCell wr _ _ g (fun e => ?_)
        simp only at e
        rw [e, hh'] at hh
        injection hh with h5
        injection h5 with _ h6
        cases h6
      have HCM1 := Lib.hid (show CM W1 go a b (hs.set i (some ⟨gi, 0, none⟩, M, M)) (i + 1) from fun i' h1 h2 => by
        obtain ⟨g, h3, h4⟩ := hcmX i' h1 h2
        exact ⟨g, by rw [List.getElem?_set_ne (by omega)]; exact h3, h4.below hbe⟩)
      have HGLT := Lib.hid (show ∀ i', i + 1 ≤ i' → i' ≤ a.length → ∀ g, (hs.set i (some ⟨gi, 0, none⟩, M, M))[i']? = some (some ⟨g, 0, none⟩, b.length + 1, b.length + 1) → g < gi from fun i' h1 h2 g hgg => by
        obtain ⟨g', h3, h4⟩ := hcmX i' h1 h2
        rw [List.getElem?_set_ne (by omega), h3] at hgg
        cases hgg
        have := (row_own h4).1
        rw [hsz] at this
        omega)
      have HH1 := Lib.hid (hset.1.below hbe)
      have HM1 := Lib.hid (show (numR .i64).row 3 gi (List.replicate M 0) (.slice (some ⟨gi, 0, none⟩) M M) W1 from hmk)
      have HB1 := Lib.hid (show Below go wr W1 from hset.2.trans (hbe.mono (by rw [hsz]; omega)))
      have HGG := Lib.hid (show go < gi ∧ gi < W1.heap.size ∧ go = w.heap.size from ⟨by omega, (row_own hmk).1, HGO.out⟩)
      clear hset hmk hsz hbe hW1 hX hcmX c0 c1 hgl hgi
      have HHL := Lib.hid (show (hs.set i (some (⟨gi, 0, none⟩ : Addr), M, M)).length = N by rw [List.length_set]; exact HSL.out)
      obtain ⟨H1, hH1⟩ : ∃ H1, H1 = hs.set i (some (⟨gi, 0, none⟩ : Addr), M, M) := ⟨_, rfl⟩
      have HI1 := Lib.hid (show H1[i]? = some (some ⟨gi, 0, none⟩, M, M) by rw [hH1]; simp [hil])
      rw [← hH1] at HCM1 HGLT HH1 HHL
      clear hH1 hil
      have HC0 := Lib.hid (hdr_at HI1.out HH1.out)
      have HC1 := Lib.hid (show i < a.length → ∃ g', g' < gi ∧ W1.cell? ⟨go, i + 1, none⟩ = some (.slice (some ⟨g', 0, none⟩) M M) ∧ ∀ j, j ≤ b.length → W1.cell? ⟨g', j, none⟩ = some (.int .i64 (C a b (i + 1) j : Int)) from fun h => by
        obtain ⟨g', h3, h4⟩ := HCM1.out (i + 1) (by omega) (by omega)
        refine ⟨g', HGLT.out (i + 1) (by omega) (by omega) g' h3, ?_, fun j hj => ?_⟩
        · have := hdr_at h3 HH1.out; rw [← HM.out] at this; exact this
        · have := num_at (k := j) (by rw [crow_len]; omega) h4
          rw [crow_at a b (i + 1) j hj] at this; exact this)
      go_wp2_with fail
      go_loopg [9] M (fun g v9 wz => ∃ (j1 : Nat) (J : Int) (O : List Int), g = j1 ∧ j1 ≤ M ∧ v9 = .int .i64 J ∧ J = (j1 : Int) - 1 ∧ O.length = M ∧ (∀ j', j1 ≤ j' → j' ≤ b.length → O.getD j' 0 = (C a b i j' : Int)) ∧ (numR .i64).row 3 gi O (.slice (some ⟨gi, 0, none⟩) M M) wz ∧ Below gi W1 wz)
      case atStart => exact ⟨M, _, List.replicate M 0, rfl, by omega, rfl, by have := HM.out; omega, by simp, fun j' h1 h2 => by have := HM.out; omega, HM1.out, Below.refl _ _⟩
      case round =>
        obtain ⟨j1, J, O, hg, hj1, rfl, hJ, hol, hO, hrow, hbz⟩ := hrel
        have HG2 := Lib.hid hg
        have HOL := Lib.hid hol
        have HO := Lib.hid hO
        have HRO := Lib.hid hrow
        have HBZ := Lib.hid hbz
        clear hg hol hO hrow hbz
        by_cases hj0 : j1 = 0
        · have hJm : J = -1 := by omega
          have g1 : decide (0 ≤ J) = false := decide_eq_false (by omega)
          have f9 : IntKind.i64.wrap ((i : Int) - 1) = (i : Int) - 1 := IntWalk.i64_in _ (by omega)
          have HJ0 := Lib.hid hj0
          have HOC := Lib.hid (show O = crow a b i from crow_of a b i O (by rw [HOL.out, HM.out]) (fun j hj => HO.out j (by rw [hj0]; omega) hj))
          clear hJ hj0
          go_wp2
          go_roundg i
          case measure => have := HG.out; omega
          case rel =>
            refine ⟨i, _, H1, rfl, by omega, rfl, rfl, HHL.out, row_moved HH1.out (fun g hg => ?_), fun i' h1 h2 => ?_, ?_⟩
            · cases hg
              exact HBZ.out.block go (by have := HGG.out.1; omega)
            · by_cases he : i' = i
              · subst he
                refine ⟨gi, by rw [← HM.out]; exact HI1.out, ?_⟩
                rw [← HOC.out, ← HM.out]
                exact Rec.row.base HRO.out (Nat.le_of_lt HGG.out.1)
              · obtain ⟨g', h3, h4⟩ := HCM1.out i' (by omega) h2
                refine ⟨g', h3, row_moved h4 (fun g hg => ?_)⟩
                cases hg
                exact HBZ.out.block g' (HGLT.out i' (by omega) h2 g' h3)
            · have h1 := HB1.out
              rw [HGG.out.2.2] at h1
              exact HB.out.trans (h1.trans (HBZ.out.mono (by have := HGG.out; omega)))
        · obtain ⟨j, rfl⟩ : ∃ j, j1 = j + 1 := ⟨j1 - 1, by omega⟩
          obtain rfl : J = (j : Int) := by omega
          have hjm : j ≤ b.length := by have := HM.out; omega
          have hjM : (j : Int) < M := by omega
          have hjO : j < O.length := by rw [HOL.out]; omega
          have f9 : IntKind.i64.wrap ((j : Int) - 1) = (j : Int) - 1 := IntWalk.i64_in _ (by omega)
          have e0 := (HBZ.out.cell (p := ⟨go, i, none⟩) HGG.out.1).trans HC0.out
          have z0 := num_at hjO HRO.out
          have z1 := num_frozen hjO HRO.out
          have HSET := Lib.hid (fun x : Int => num_set x hjO HRO.out)
          have HFROM := Lib.hid (fun (x : Int) (hx : x = (C a b i j : Int)) => set_from O j b.length x (fun j => (C a b i j : Int)) (by rw [HOL.out, HM.out]) hjm (fun j' h1 h2 => HO.out j' h1 h2) hx)
          have hgol : go < wr.heap.size := by have := HGG.out; have := HBZ.out.size; omega
          have hgil : gi < wr.heap.size := by have := HGG.out; have := HBZ.out.size; omega
          clear hJ hj0
          by_cases hien : i = a.length
          · have g2 : ((i : Int) == a.length) = true := beq_iff_eq.2 (by omega)
            have f3 : IntKind.i64.wrap ((b.length : Int) - j) = (b.length : Int) - j := IntWalk.i64_in _ (by omega)
            have HX := Lib.hid (HFROM.out ((b.length : Int) - j) (by rw [hien, C_n]; omega))
            have HXS := Lib.hid (HSET.out ((b.length : Int) - j))
            clear hien
            go_wp2
            go_roundg j
            case measure => have := HG2.out; omega
            case rel => exact ⟨j, _, O.set j ((b.length : Int) - j), rfl, by omega, rfl, rfl, by rw [List.length_set]; exact HOL.out, HX.out, HXS.out.1, HBZ.out.trans HXS.out.2⟩
          · have g2 : ((i : Int) == a.length) = false := beq_eq_false_iff_ne.2 (by omega)
            have hia : i < a.length := by omega
            by_cases hjem : j = b.length
            · have g3 : ((j : Int) == b.length) = true := beq_iff_eq.2 (by omega)
              have f3 : IntKind.i64.wrap ((a.length : Int) - i) = (a.length : Int) - i := IntWalk.i64_in _ (by omega)
              have HX := Lib.hid (HFROM.out ((a.length : Int) - i) (by rw [hjem, C_m]; omega))
              have HXS := Lib.hid (HSET.out ((a.length : Int) - i))
              clear hjem
              go_wp2
              go_roundg j
              case measure => have := HG2.out; omega
              case rel => exact ⟨j, _, O.set j ((a.length : Int) - i), rfl, by omega, rfl, rfl, by rw [List.length_set]; exact HOL.out, HX.out, HXS.out.1, HBZ.out.trans HXS.out.2⟩
            · have g3 : ((j : Int) == b.length) = false := beq_eq_false_iff_ne.2 (by omega)
              have hjb : j < b.length := by omega
              obtain ⟨I1, hI1⟩ : ∃ I1, I1 = i + 1 := ⟨_, rfl⟩
              obtain ⟨J1, hJ1⟩ : ∃ J1, J1 = j + 1 := ⟨_, rfl⟩
              have q1 : IntKind.i64.wrap ((i : Int) + 1) = (I1 : Int) := by rw [IntWalk.i64_in _ (by omega)]; omega
              have q2 : IntKind.i64.wrap ((j : Int) + 1) = (J1 : Int) := by rw [IntWalk.i64_in _ (by omega)]; omega
              have q3 : (I1 : Int) < N := by have := HN.out; omega
              have q4 : (J1 : Int) < M := by have := HM.out; omega
              obtain ⟨g', hgg', d0, d1⟩ := HC1.out hia
              have hd2 := d1 J1 (by omega)
              have hd3 := d1 j (by omega)
              have hco1 := C_len a b (i + 1) (j + 1) (by omega) (by omega)
              have hco2 := C_len a b (i + 1) j (by omega) (by omega)
              have hco3 := C_len a b i (j + 1) (by omega) (by omega)
              have HCE := Lib.hid (fun h => C_eq a b i j hia hjb h)
              have HCN := Lib.hid (fun h => C_ne a b i j hia hjb h)
              have HOJ := Lib.hid (HO.out (j + 1) (by omega) (by omega))
              rw [← hJ1] at HOJ HCE HCN hco1 hco3
              rw [← hI1] at d0 hd2 hd3 HCE HCN hco1 hco2
              have hJO : J1 < O.length := by rw [HOL.out]; omega
              have hIA := HIA.out.below (HB.out.trans ((HB1.out.mono (by have := HGG.out; omega) : Below w.heap.size _ W1).trans (HBZ.out.mono (by have := HGG.out; omega))))
              have hIB := HIB.out.below (HB.out.trans ((HB1.out.mono (by have := HGG.out; omega) : Below w.heap.size _ W1).trans (HBZ.out.mono (by have := HGG.out; omega))))
              rcases hIA.2 with h0 | ⟨ba, oa, rfl, hla, hca⟩
              · subst h0; simp at hia
              rcases hIB.2 with h0 | ⟨bb, ob, rfl, hlb, hcb⟩
              · subst h0; simp at hjb
              have e1 := num_cell (hca i _ (show a[i]? = some (a.getD i 0) by simp [List.getD_eq_getElem?_getD, hia]))
              have e2 := num_cell (hcb j _ (show b[j]? = some (b.getD j 0) by simp [List.getD_eq_getElem?_getD, hjb]))
              have g4 : (i : Int) < a.length := by omega
              have g5 : (j : Int) < b.length := by omega
              have HD0 := Lib.hid d0
              have HD2 := Lib.hid hd2
              have HD3 := Lib.hid hd3
              have HGG' := Lib.hid hgg'
              clear hIA hIB hca hcb d0 d1 hd2 hd3 hgg' hJ1 hI1
              obtain ⟨c1, hc1⟩ : ∃ c1, c1 = C a b I1 J1 := ⟨_, rfl⟩
              obtain ⟨c2, hc2⟩ : ∃ c2, c2 = C a b I1 j := ⟨_, rfl⟩
              obtain ⟨c3, hc3⟩ : ∃ c3, c3 = C a b i J1 := ⟨_, rfl⟩
              rw [← hc1] at HCE hco1 HD2
              rw [← hc2] at HCN hco2 HD3
              rw [← hc3] at HCN HOJ hco3
              clear hc1 hc2 hc3
              have q5 : IntKind.i64.wrap (1 + (c2 : Int)) = 1 + (c2 : Int) := IntWalk.i64_in _ (by omega)
              have q6 : IntKind.i64.wrap (1 + (c3 : Int)) = 1 + (c3 : Int) := IntWalk.i64_in _ (by omega)
              clear hco1 hco2 hco3
              obtain ⟨x, hx⟩ : ∃ x, x = a.getD i 0 := ⟨_, rfl⟩
              obtain ⟨y, hy⟩ : ∃ y, y = b.getD j 0 := ⟨_, rfl⟩
              rw [← hx] at e1 HCE HCN
              rw [← hy] at e2 HCE HCN
              clear hx hy e0 z0 z1 HSET
              by_cases hxy : x = y
              · have g6 : (x == y) = true := by simpa using hxy
                have HX := Lib.hid (HFROM.out (c1 : Int) (by rw [HCE.out hxy]))
                clear hxy HCE HCN
                go_wp2_with fail
                refine wp_region_over (by kernel_rfl) (by kernel_rfl) ?_
                repeat (go_big_quiet_step (fail))
                refine wpQuiet_nil ?_
                rintro _ ⟨x0, rfl⟩
                clear e1 e2
                obtain ⟨X, hX⟩ : ∃ X, X = ov wr x0 := ⟨_, rfl⟩
                have hbX : Below wr.heap.size wr X := by rw [hX]; exact ov_below wr x0
                rw [← hX]
                have HROX := Lib.hid (HRO.out.below hbX)
                have HBZX := Lib.hid (HBZ.out.trans (hbX.mono (by have := HGG.out; have := HBZ.out.size; omega)))
                have e0 := (HBZX.out.cell (p := ⟨go, i, none⟩) HGG.out.1).trans HC0.out
                have e3 := (HBZX.out.cell (p := ⟨go, I1, none⟩) HGG.out.1).trans HD0.out
                have z0 := num_at hjO HROX.out
                have z1 := num_frozen hjO HROX.out
                have hgoX : go < X.heap.size := by have := HGG.out; have := HBZX.out.size; omega
                have hgiX : gi < X.heap.size := by have := HGG.out; have := HBZX.out.size; omega
                have hggX : g' < X.heap.size := by have := HGG.out; have := HGG'.out; have := HBZX.out.size; omega
                clear hX hbX
                have e4 := (HBZX.out.cell (p := ⟨g', J1, none⟩) HGG'.out).trans HD2.out
                go_upto_region 15 with fail
                go_still_tail 15, (by kernel_rfl)
                change wpList _ _ _ _ _ X.drew
                have HROD := Lib.hid (HROX.out.below (Below.refl X.heap.size X).drew)
                have HBZD := Lib.hid (HBZX.out.trans ((Below.refl X.heap.size X).drew.mono (by have := HGG.out; have := HBZX.out.size; omega)))
                clear e0 e3 z0 z1
                generalize X.drew = W9 at *
                have z0 := num_at hjO HROD.out
                have z1 := num_frozen hjO HROD.out
                have HXS := Lib.hid (num_set ((c1 : Int)) hjO HROD.out)
                go_wp2
                go_roundg j
                case measure => have := HG2.out; omega
                case rel => exact ⟨j, _, O.set j ((c1 : Int)), rfl, by omega, rfl, rfl, by rw [List.length_set]; exact HOL.out, HX.out, HXS.out.1, HBZD.out.trans HXS.out.2⟩
              · have g6 : (x == y) = false := by simpa using hxy
                have hcn := HCN.out hxy
                clear hxy HCE HCN
                go_wp2_with fail
                refine wp_region_over (by kernel_rfl) (by kernel_rfl) ?_
                repeat (go_big_quiet_step (fail))
                refine wpQuiet_nil ?_
                rintro _ ⟨x0, rfl⟩
                clear e1 e2
                obtain ⟨X, hX⟩ : ∃ X, X = ov wr x0 := ⟨_, rfl⟩
                have hbX : Below wr.heap.size wr X := by rw [hX]; exact ov_below wr x0
                rw [← hX]
                have HROX := Lib.hid (HRO.out.below hbX)
                have HBZX := Lib.hid (HBZ.out.trans (hbX.mono (by have := HGG.out; have := HBZ.out.size; omega)))
                have e0 := (HBZX.out.cell (p := ⟨go, i, none⟩) HGG.out.1).trans HC0.out
                have e3 := (HBZX.out.cell (p := ⟨go, I1, none⟩) HGG.out.1).trans HD0.out
                have z0 := num_at hjO HROX.out
                have z1 := num_frozen hjO HROX.out
                have hgoX : go < X.heap.size := by have := HGG.out; have := HBZX.out.size; omega
                have hgiX : gi < X.heap.size := by have := HGG.out; have := HBZX.out.size; omega
                have hggX : g' < X.heap.size := by have := HGG.out; have := HGG'.out; have := HBZX.out.size; omega
                clear hX hbX
                have e4 := (HBZX.out.cell (p := ⟨g', j, none⟩) HGG'.out).trans HD3.out
                have e5 := num_at hJO HROX.out
                rw [HOJ.out] at e5
                go_upto_region 16 with fail
                by_cases hlt : c2 < c3
                · have HX := Lib.hid (HFROM.out (1 + (c2 : Int)) (by rw [hcn]; omega))
                  have g7 : decide ((c2 : Int) < c3) = true := decide_eq_true (by omega)
                  clear hcn
                  refine wp_region_over (by kernel_rfl) (by kernel_rfl) ?_
                  repeat (go_big_quiet_step (fail))
                  refine wpQuiet_nil ?_
                  rintro _ ⟨x1, rfl⟩
                  clear e0 e3 e4 e5 z0 z1
                  obtain ⟨Y, hY⟩ : ∃ Y, Y = ov X x1 := ⟨_, rfl⟩
                  have hbY : Below X.heap.size X Y := by rw [hY]; exact ov_below X x1
                  rw [← hY]
                  have HROY := Lib.hid (HROX.out.below hbY)
                  have HBZY := Lib.hid (HBZX.out.trans (hbY.mono (by have := HGG.out; have := HBZX.out.size; omega)))
                  have e0 := (HBZY.out.cell (p := ⟨go, i, none⟩) HGG.out.1).trans HC0.out
                  have e3 := (HBZY.out.cell (p := ⟨go, I1, none⟩) HGG.out.1).trans HD0.out
                  have z0 := num_at hjO HROY.out
                  have z1 := num_frozen hjO HROY.out
                  have hgoY : go < Y.heap.size := by have := HGG.out; have := HBZY.out.size; omega
                  have hgiY : gi < Y.heap.size := by have := HGG.out; have := HBZY.out.size; omega
                  have hggY : g' < Y.heap.size := by have := HGG.out; have := HGG'.out; have := HBZY.out.size; omega
                  clear hY hbY
                  have e4 := (HBZY.out.cell (p := ⟨g', j, none⟩) HGG'.out).trans HD3.out
                  go_upto_region 17 with fail
                  go_still_tail 15, (by kernel_rfl)
                  change wpList _ _ _ _ _ Y.drew
                  have HROD := Lib.hid (HROY.out.below (Below.refl Y.heap.size Y).drew)
                  have HBZD := Lib.hid (HBZY.out.trans ((Below.refl Y.heap.size Y).drew.mono (by have := HGG.out; have := HBZY.out.size; omega)))
                  clear e0 e3 z0 z1
                  generalize Y.drew = W9 at *
                  have z0 := num_at hjO HROD.out
                  have z1 := num_frozen hjO HROD.out
                  have HXS := Lib.hid (num_set ((1 + (c2 : Int))) hjO HROD.out)
                  go_wp2
                  go_roundg j
                  case measure => have := HG2.out; omega
                  case rel => exact ⟨j, _, O.set j ((1 + (c2 : Int))), rfl, by omega, rfl, rfl, by rw [List.length_set]; exact HOL.out, HX.out, HXS.out.1, HBZD.out.trans HXS.out.2⟩
                · have HX := Lib.hid (HFROM.out (1 + (c3 : Int)) (by rw [hcn]; omega))
                  have g7 : decide ((c2 : Int) < c3) = false := decide_eq_false (by omega)
                  clear hcn
                  refine wp_region_over (by kernel_rfl) (by kernel_rfl) ?_
                  repeat (go_big_quiet_step (fail))
                  refine wpQuiet_nil ?_
                  rintro _ ⟨x1, rfl⟩
                  clear e0 e3 e4 e5 z0 z1
                  obtain ⟨Y, hY⟩ : ∃ Y, Y = ov X x1 := ⟨_, rfl⟩
                  have hbY : Below X.heap.size X Y := by rw [hY]; exact ov_below X x1
                  rw [← hY]
                  have HROY := Lib.hid (HROX.out.below hbY)
                  have HBZY := Lib.hid (HBZX.out.trans (hbY.mono (by have := HGG.out; have := HBZX.out.size; omega)))
                  have e0 := (HBZY.out.cell (p := ⟨go, i, none⟩) HGG.out.1).trans HC0.out
                  have e3 := (HBZY.out.cell (p := ⟨go, I1, none⟩) HGG.out.1).trans HD0.out
                  have z0 := num_at hjO HROY.out
                  have z1 := num_frozen hjO HROY.out
                  have hgoY : go < Y.heap.size := by have := HGG.out; have := HBZY.out.size; omega
                  have hgiY : gi < Y.heap.size := by have := HGG.out; have := HBZY.out.size; omega
                  have hggY : g' < Y.heap.size := by have := HGG.out; have := HGG'.out; have := HBZY.out.size; omega
                  clear hY hbY
                  have e5 := num_at hJO HROY.out
                  rw [HOJ.out] at e5
                  go_upto_region 18 with fail
                  go_still_tail 15, (by kernel_rfl)
                  change wpList _ _ _ _ _ Y.drew
                  have HROD := Lib.hid (HROY.out.below (Below.refl Y.heap.size Y).drew)
                  have HBZD := Lib.hid (HBZY.out.trans ((Below.refl Y.heap.size Y).drew.mono (by have := HGG.out; have := HBZY.out.size; omega)))
                  clear e0 e3 z0 z1
                  generalize Y.drew = W9 at *
                  have z0 := num_at hjO HROD.out
                  have z1 := num_frozen hjO HROD.out
                  have HXS := Lib.hid (num_set ((1 + (c3 : Int))) hjO HROD.out)
                  go_wp2
                  go_roundg j
                  case measure => have := HG2.out; omega
                  case rel => exact ⟨j, _, O.set j ((1 + (c3 : Int))), rfl, by omega, rfl, rfl, by rw [List.length_set]; exact HOL.out, HX.out, HXS.out.1, HBZD.out.trans HXS.out.2⟩
end Go.Proofs.Ytipoifokcnbfnaa
