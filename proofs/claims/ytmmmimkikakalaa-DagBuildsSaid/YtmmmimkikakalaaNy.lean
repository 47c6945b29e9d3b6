/- Log. -/
import Derived.Test.YtmmmimkikakalaaNx
namespace Go.Proofs.Ytmmmimkikakalaa
open Go.RowKit Go.Maps Go.ChangeMaps
set_option linter.unusedVariables false

theorem g_box (w : World) (g : Option Addr) (x : List UInt8) (hx : x.length = 32) (W : World) (hW : W = (w.alloc (.cells #[.pointer g] 26)).alloc (.cells (idB x) 24)) (Bg : Nat) (hBg : Bg = w.heap.size) (Bi : Nat) (hBi : Bi = w.heap.size + 1) :
    Below w.heap.size w W ∧ (Bg < W.heap.size ∧ W.cell? ⟨Bg, 0, none⟩ = some (.pointer g)) ∧ fits W ⟨Bi, 0, none⟩ 32 ∧ aggAt W ⟨Bi, 0, none⟩ 32 = idB x := by
  have hq1 := (Below.refl w.heap.size w).alloc (Nat.le_refl _) (.cells #[.pointer g] 26)
  have hq2 := (Below.refl (w.alloc (.cells #[.pointer g] 26)).heap.size (w.alloc (.cells #[.pointer g] 26))).alloc (Nat.le_refl _) (.cells (idB x) 24)
  have hq := hq1.trans (hq2.mono hq1.size)
  have hs : (w.alloc (.cells #[.pointer g] 26)).heap.size = w.heap.size + 1 := by simp
  have c1 := fits_new (w.alloc (.cells #[.pointer g] 26)) (idB x) 24 32 (by rw [idB_size, hx])
  have c2 := aggAt_new (w.alloc (.cells #[.pointer g] 26)) (idB x) 24 32 (by rw [idB_size, hx])
  rw [hs] at c1 c2
  rw [← hW, ← hBi] at c1 c2
  have h9 : W.heap[Bg]? = some (.cells #[.pointer g] 26 (0, 0)) := by
    rw [hW, hBg]
    exact (hq2.block _ (by simp)).trans (World.alloc_heap_new w _)
  refine ⟨by rw [hW]; exact hq, ⟨(Array.getElem?_eq_some_iff.1 h9).1, by rw [Lib.cell_of_heap h9]; rfl⟩, c1, c2⟩

theorem not_mem_take {l : List (List UInt8)} (hn : l.Nodup) {j : Nat} (hj : j < l.length) : ¬ l.getD j [] ∈ l.take j := by
  intro h
  rw [getD_at hj] at h
  obtain ⟨i, hi, he⟩ := List.getElem_of_mem h
  rw [List.length_take] at hi
  rw [List.getElem_take] at he
  have := nodup_idx hn (by omega) hj he
  omega

set_option maxHeartbeats 2000000 in
set_option maxRecDepth 100000 in
theorem log_err (g : Option Addr) (er : Int) (her : er ≠ 0) (x : List UInt8) (hx : x.length = 32) (w : World) (hp : ∀ W, Below w.heap.size w W → Calls Try.prog 19 #[.pointer g, .agg (idB x)] W fun e w' => e = .returned (.tuple #[.slice none 0 0, .int .i64 er]) ∧ Below W.heap.size W w') :
    Calls Try.prog 18 #[.pointer g, .agg (idB x)] w fun e w' => e = .returned (.tuple #[.slice none 0 0, .int .i64 er]) ∧ Below w.heap.size w w' := by
  obtain ⟨W, hW⟩ : ∃ W, W = (w.alloc (.cells #[.pointer g] 26)).alloc (.cells (idB x) 24) := ⟨_, rfl⟩
  obtain ⟨Bg, hBg⟩ : ∃ b, b = w.heap.size := ⟨_, rfl⟩
  obtain ⟨Bi, hBi⟩ : ∃ b, b = w.heap.size + 1 := ⟨_, rfl⟩
  obtain ⟨hq, ⟨hl, e1⟩, e2, e3⟩ := g_box w g x hx W hW Bg hBg Bi hBi
  have HP := Lib.hid (hp W hq)
  have HQ := Lib.hid hq
  have i1 : (er == 0) = false := beq_eq_false_iff_ne.2 her
  clear hq hp
  go_enter Try.func18, Try.ntmps18
  go_upto_region 1 with fail
  rw [← hW, ← hBi, ← hBg]
  clear hW hBi hBg
  go_wp2_with fail
  refine HP.out.mono ?_
  rintro e w1 ⟨rfl, hb1⟩
  have HB1 := Lib.hid (HQ.out.trans (hb1.mono HQ.out.size))
  clear hb1 e1 e2 e3 hl
  go_wp2
  go_ret2
  exact ⟨rfl, HB1.out⟩

set_option maxHeartbeats 16000000 in
set_option maxRecDepth 100000 in
theorem log_any (gb mb : Nat) (G : List GN) (x : List UInt8) (w : World) (hlen : G.length ≤ 400) (hwf : Wf G) (hG : GraphAt w gb mb G) (hn : isNode G x = true) :
    Calls Try.prog 18 #[.pointer (some ⟨gb, 0, none⟩), .agg (idB x)] w fun e w' => ∃ v, e = .returned (.tuple #[v, .int .i64 0]) ∧ rowI w.heap.size (logL G x) v w' ∧ Below w.heap.size w w' := by
  have HLL := Lib.hid (show logN G (pastL G x) (pastL G x).length = logL G x from rfl)
  obtain ⟨LL, hLL⟩ : ∃ LL, LL = logL G x := ⟨_, rfl⟩
  rw [← hLL] at HLL ⊢
  clear hLL
  have hx := isNode_len hwf hn
  obtain ⟨W, hW⟩ : ∃ W, W = (w.alloc (.cells #[.pointer (some ⟨gb, 0, none⟩)] 26)).alloc (.cells (idB x) 24) := ⟨_, rfl⟩
  obtain ⟨Bg, hBg⟩ : ∃ b, b = w.heap.size := ⟨_, rfl⟩
  obtain ⟨Bi, hBi⟩ : ∃ b, b = w.heap.size + 1 := ⟨_, rfl⟩
  obtain ⟨hq, ⟨hl, e1⟩, e2, e3⟩ := g_box w (some ⟨gb, 0, none⟩) x hx W hW Bg hBg Bi hBi
  have HQ := Lib.hid hq
  have HP := Lib.hid (past_any gb mb G x W (by omega) hwf (hG.below hq) hn)
  have HX := Lib.hid hx
  have HGW := Lib.hid (hG.below hq)
  have HBG0 := Lib.hid (And.intro hl e1)
  have HBI0 := Lib.hid (And.intro e2 e3)
  have HWF := Lib.hid hwf
  have HLEN := Lib.hid hlen
  have HP32 := Lib.hid (pastL_32 (x := x) hwf)
  have HPN := Lib.hid (pastL_node (G := G) (x := x))
  have HPS0 := Lib.hid (pastL_strict G x)
  have HRS := Lib.hid (readyI_start hwf hn)
  have HPCL := Lib.hid (show ∀ z ∈ pastL G x, ∀ p ∈ parsOf G z, p ∈ pastL G x from fun z hz p hp => (pastL_mem hwf hn).2 (((pastL_mem hwf hn).1 hz).par hp))
  have hpl : (pastL G x).length ≤ 400 := by have := pastL_len G x; omega
  generalize pastL G x = P at *
  have HPL := Lib.hid hpl
  clear hq hG hn hwf
  go_enter Try.func18, Try.ntmps18
  go_upto_region 1 with fail
  rw [← hW, ← hBi, ← hBg]
  clear hW hBi hBg
  go_wp2_with fail
  refine HP.out.mono ?_
  rintro e w1 ⟨v1, rfl, hr1, hb1⟩
  have HB1 := Lib.hid (HQ.out.trans (hb1.mono HQ.out.size))
  have HGA1 := Lib.hid (HGW.out.below hb1)
  have HBG := Lib.hid (show Bg < w1.heap.size ∧ w1.cell? ⟨Bg, 0, none⟩ = some (.pointer (some ⟨gb, 0, none⟩)) from ⟨Nat.lt_of_lt_of_le HBG0.out.1 hb1.size, (hb1.cell (p := ⟨Bg, 0, none⟩) HBG0.out.1).trans HBG0.out.2⟩)
  have HBI := Lib.hid (show fits w1 ⟨Bi, 0, none⟩ 32 ∧ aggAt w1 ⟨Bi, 0, none⟩ 32 = idB x from ⟨fits_below hb1 HBI0.out.1, (agg_below hb1 HBI0.out.1).trans HBI0.out.2⟩)
  obtain ⟨a6, c6, rfl, q1, q2, hin6, _⟩ := SlI_row HP32.out hr1
  have HIN := Lib.hid hin6
  have hmm := @run_makeMap Try.prog
  clear hb1 e1 e2 e3 hl hr1 hin6 HP q1 q2
  go_upto_region 5 with fail
  obtain ⟨mb2, hmb2⟩ : ∃ m, m = w1.heap.size := ⟨_, rfl⟩
  have HMB := Lib.hid hmb2
  obtain ⟨wA, hwA⟩ : ∃ wA, wA = w1.alloc (.map #[] 0) := ⟨_, rfl⟩
  have HBA := Lib.hid (show Below w1.heap.size w1 wA by rw [hwA]; exact (Below.refl _ _).alloc (Nat.le_refl _) _)
  have HCA := Lib.hid (show CntAt wA mb2 (fun _ => 0) 0 by rw [hwA, hmb2]; exact CntAt.made w1)
  rw [← hwA, ← hmb2]
  clear hwA hmb2 hmm
  go_wp2_with fail
  go_loopg [33] P.length (fun g v33 wr => ∃ (k nn : Nat), g + k = P.length ∧ v33 = .int .i64 k ∧ CntAt wr mb2 (fun y => (pcnt G (P.take k) y : Int)) nn ∧ nn ≤ 2 * k ∧ Below w1.heap.size w1 wr)
  case atStart => exact ⟨0, 0, by omega, rfl, HCA.out.congr (fun y hy => by simp [pcnt]), by omega, HBA.out⟩
  case round =>
    obtain ⟨k, nn, hg, rfl, hcnt, hnn, hbw⟩ := hrel
    have HG := Lib.hid hg
    have HCN0 := Lib.hid hcnt
    have HNN := Lib.hid hnn
    have HBW := Lib.hid hbw
    clear hg hcnt hnn hbw
    by_cases hk : k < P.length
    · have HK := Lib.hid hk
      rcases (HIN.out.below HBW.out).2 with h | ⟨bm, offm, rfl, hc⟩
      · rw [h] at hk; simp at hk
      obtain ⟨e1, e2⟩ := hc k hk
      have HZM := Lib.hid (getD_mem hk)
      have HTK := Lib.hid (take_snoc [] P k hk)
      obtain ⟨z, hz⟩ : ∃ z, z = P.getD k [] := ⟨_, rfl⟩
      rw [← hz] at e2 HZM HTK
      have hz32 := HP32.out _ HZM.out
      have hidZ := idOk_agg z hz32
      have HNEL := Lib.hid (HPN.out z HZM.out)
      have i1 : (k : Int) < P.length := by omega
      clear hc hz
      go_upto_region 8 with fail
      clear e1 e2 hidZ
      obtain ⟨W3, hW3⟩ : ∃ W3, W3 = wr.alloc (.cells (idB z) 24) := ⟨_, rfl⟩
      obtain ⟨bz, hbz⟩ : ∃ b, b = wr.heap.size := ⟨_, rfl⟩
      have hb3 : Below wr.heap.size wr W3 := by rw [hW3]; exact (Below.refl _ _).alloc (Nat.le_refl _) _
      have HB3 := Lib.hid hb3
      have HBW3 := Lib.hid (HBW.out.trans (hb3.mono HBW.out.size))
      have HFZ := Lib.hid (show fits W3 ⟨bz, 0, none⟩ 32 ∧ aggAt W3 ⟨bz, 0, none⟩ 32 = idB z from by rw [hW3, hbz]; exact ⟨fits_new _ _ _ _ (by rw [idB_size, hz32]), aggAt_new _ _ _ _ (by rw [idB_size, hz32])⟩)
      rw [← hW3, ← hbz]
      clear hW3 hbz hb3
      have hgr := HGA1.out.below HBW3.out
      obtain ⟨a', c', hsl3, hlk3⟩ := look_node HGA1.out (x := z) HNEL.out
      have HSL3 := Lib.hid hsl3
      have g1 : W3.cell? ⟨Bg, 0, none⟩ = some (.pointer (some ⟨gb, 0, none⟩)) := (HBW3.out.cell (p := ⟨Bg, 0, none⟩) HBG.out.1).trans HBG.out.2
      have g2 := hgr.cell
      have g3 := HFZ.out.1
      have g4 := HFZ.out.2
      have g5 := fun X => hlk3 (ov W3 X) (HBW3.out.trans ((ov_below W3 X).mono HBW3.out.size))
      have g6 : Bg < W3.heap.size := Nat.lt_of_lt_of_le HBG.out.1 HBW3.out.size
      have g7 : gb < W3.heap.size := hgr.lt
      have g8 : bz < W3.heap.size := g3.lt
      obtain ⟨ps, hps⟩ : ∃ ps, ps = parsOf G z := ⟨_, rfl⟩
      have HPS := Lib.hid hps
      have HPA := Lib.hid (pars_len HWF.out z)
      have HPN := Lib.hid (pars_nodup HWF.out z)
      rw [← hps] at g5 HSL3 HPA HPN
      generalize stampOf G z = st' at *
      change ∀ X, Sem.run Try.prog (Instr.lookup 59 (Value.map (some mb)) (Value.agg (idB z)) false) (ov W3 X) = Result.ok (.agg #[.slice a' ps.length c', .int .i64 st']) (ov W3 X) at g5
      have hps2 : ps.length ≤ 2 := HPA.out
      clear hgr hsl3 hlk3 hps
      refine wp_region_over (by kernel_rfl) (by kernel_rfl) ?_
      repeat (go_big_quiet_step (fail))
      refine wpQuiet_nil ?_
      rintro _ ⟨z0, rfl⟩
      have HZ0 := Lib.hid (ov_below W3 z0)
      obtain ⟨W4, hW4⟩ : ∃ W4, W4 = ov W3 z0 := ⟨_, rfl⟩
      rw [← hW4] at HZ0 ⊢
      clear g1 g2 g3 g4 g5 g6 g7 g8 hW4
      have HB4 := Lib.hid (HBW3.out.trans (HZ0.out.mono HBW3.out.size))
      have HC4 := Lib.hid (HCN0.out.same ((HZ0.out.block mb2 (Nat.lt_of_lt_of_le HCN0.out.lt HB3.out.size)).trans (HB3.out.block mb2 HCN0.out.lt)))
      go_wp2_with fail
      go_loopg [45] ps.length (fun g v45 wr4 => ∃ (j nn' : Nat), g + j = ps.length ∧ v45 = .int .i64 j ∧ CntAt wr4 mb2 (fun y => (pcnt G (P.take k) y : Int) + (if y ∈ ps.take j then 1 else 0)) nn' ∧ nn' ≤ 2 * k + j ∧ Below w1.heap.size w1 wr4)
      case atStart => exact ⟨0, nn, by omega, rfl, HC4.out.congr (fun y hy => by simp), by have := HNN.out; omega, HB4.out⟩
      case round =>
        obtain ⟨j, nn', hg, rfl, hcnt, hnn, hbw⟩ := hrel
        have HG' := Lib.hid hg
        have HCN' := Lib.hid hcnt
        have HNN' := Lib.hid hnn
        have HBW' := Lib.hid hbw
        clear hg hcnt hnn hbw
        by_cases hj : j < ps.length
        · have HJL := Lib.hid hj
          have HSLR := Lib.hid (SlI_below HSL3.out HBW'.out)
          obtain ⟨a3, c3, he3, _, _, hi3, _⟩ := HSLR.out
          obtain ⟨rfl, _, rfl⟩ := Value.slice.inj he3
          rcases hi3.2 with h | ⟨b3, off3, rfl, hc3⟩
          · rw [h] at hj; simp at hj
          obtain ⟨e1, e2⟩ := hc3 j hj
          have hy32 := hi3.1 _ (getD_mem hj)
          have HTJ := Lib.hid (take_snoc [] ps j hj)
          have HNJ := Lib.hid (show ¬ ps.getD j [] ∈ ps.take j from not_mem_take HPN.out hj)
          obtain ⟨y, hy⟩ : ∃ y, y = ps.getD j [] := ⟨_, rfl⟩
          rw [← hy] at e2 hy32 HTJ HNJ
          have HY32 := Lib.hid hy32
          have hidY := idOk_agg y hy32
          have i1' : (j : Int) < ps.length := by omega
          clear hc3 hi3 hy he3
          go_upto_region 11 with fail
          clear e1 e2 hidY
          obtain ⟨wq, hwq⟩ : ∃ wq, wq = wr.alloc (.cells (idB y) 24) := ⟨_, rfl⟩
          obtain ⟨by_, hby⟩ : ∃ b, b = wr.heap.size := ⟨_, rfl⟩
          have hbq : Below wr.heap.size wr wq := by rw [hwq]; exact (Below.refl _ _).alloc (Nat.le_refl _) _
          have HBQ := Lib.hid hbq
          have HFY := Lib.hid (show fits wq ⟨by_, 0, none⟩ 32 ∧ aggAt wq ⟨by_, 0, none⟩ 32 = idB y from by rw [hwq, hby]; exact ⟨fits_new _ _ _ _ (by rw [idB_size, hy32]), aggAt_new _ _ _ _ (by rw [idB_size, hy32])⟩)
          have HNEY := Lib.hid (show by_ ≠ mb2 from by have := HCN'.out.lt; omega)
          rw [← hwq, ← hby]
          have hcq := HCN'.out.same (hbq.block mb2 HCN'.out.lt)
          obtain ⟨f9, hf9⟩ : ∃ f9, f9 = (fun y => (pcnt G (P.take k) y : Int) + (if y ∈ ps.take j then 1 else 0)) := ⟨_, rfl⟩
          obtain ⟨n9, hn9⟩ : ∃ n9, n9 = nn' := ⟨_, rfl⟩
          rw [← hf9, ← hn9] at hcq
          have HCN := Lib.hid hcq
          obtain ⟨cy, hcy⟩ : ∃ c, c = f9 y := ⟨_, rfl⟩
          obtain ⟨c1, hc1⟩ : ∃ c, c = cy + 1 := ⟨_, rfl⟩
          have HCY2 := Lib.hid (show cy = (pcnt G (P.take k) y : Int) from by rw [hcy, hf9]; simp [HNJ.out])
          have hcyb : 0 ≤ cy ∧ cy ≤ 100000 := by
            have h1 := HCY2.out
            have h2 := pcnt_le G (P.take k) y
            rw [List.length_take] at h2
            have := HPL.out
            omega
          have HF9 := Lib.hid hf9
          have HN9 := Lib.hid hn9
          have HCY := Lib.hid hcy
          have HC1 := Lib.hid hc1
          have HCW := Lib.hid (i64_wf (c := c1) (by omega) (by omega))
          have HCNE := Lib.hid (show c1 ≠ cy by omega)
          have HNL := Lib.hid (show n9 < maxLen by have := HNN'.out; have := HPL.out; have := HK.out; unfold maxLen; omega)
          clear hwq hby hbq hcy hc1 hf9 hn9 hcq
          obtain ⟨wd, hwd⟩ : ∃ wd, wd = wq.drew := ⟨_, rfl⟩
          have HCD := Lib.hid (show CntAt wd mb2 f9 n9 by rw [hwd]; exact HCN.out.same rfl)
          have HGD := Lib.hid (show wq.grownBy wd (some mb2) by rw [hwd]; exact ⟨rfl, rfl, rfl, Nat.le_refl _, fun _ _ _ => rfl⟩)
          obtain ⟨v0, st, o1, hen, ho1, hst⟩ := HCD.out.entry HNL.out HY32.out
          have HEN := Lib.hid hen
          have HO1 := Lib.hid ho1
          have HST := Lib.hid hst
          have HBD := Lib.hid (show (setBlock wd mb2 o1).heap[mb2]? = some o1 by obtain ⟨D, ⟨es, clock, hb, _⟩, _⟩ := HCD.out; exact setBlock_same hb)
          have HSB := Lib.hid (fun (wx : World) (o2 : Obj) (hx : wx.heap[mb2]? = some o1) => (show (setBlock wx mb2 o2).heap[mb2]? = some o2 ∧ wx.grownBy (setBlock wx mb2 o2) (some mb2) from setBlock_any (HO1.out wx hx)))
          have HWD := Lib.hid hwd
          have HWG := Lib.hid (show ∀ o, wd.grownBy (setBlock wd mb2 o) (some mb2) from fun o => (setBlock_any HCD.out).2)
          clear hen ho1 hst hwd
          refine wp_region_specs2 [[], [], [0, 1], [2], [0, 1], [4], [0, 1, 2, 3, 4, 5]] [some 49, some 50, some 51, some 52, some 53, some 54, none] [0, 1, 2, 3, 4, 5, 6]
            (fun w_ => wq.grownBy w_ (some mb2))
            (fun i w_ => (i = 2 → CntAt w_ mb2 f9 (n9 + 1)) ∧ (i = 4 → w_ = wd) ∧ (i = 6 → (w_ = wd ∨ w_.heap[mb2]? = some o1)))
            (fun j w_ w_' => (j = 4 → w_'.heap[mb2]? = some o1 ∧ w_.grownBy w_' (some mb2)) ∧ (j = 6 → CntAt w_' mb2 (updF f9 y c1) (n9 + 1) ∧ w_.grownBy w_' (some mb2)) ∧ (j ≠ 4 → j ≠ 6 → w_' = w_))
            (fun ix_ => [eqv (.map (some mb2)), eqv (.agg (idB y)), eqv (.int .i64 cy), eqv (.int .i64 c1), fun v w_ => v = .tuple #[v0, goInt st] ∧ (w_.heap[mb2]? = some o1 ∨ CntAt w_ mb2 (updF f9 y c1) (n9 + 1)), eqv (goInt st), fun v w_ => CntAt w_ mb2 (updF f9 y c1) (n9 + 1)].getD ix_ anyv)
            (by kernel_rfl) (by kernel_rfl) ?_ ?_ ?_ ?_ ?_ ?_ ?_
          · rw [← HWD.out]; exact HGD.out
          · intro i
            rw [← HWD.out]
            exact ⟨fun _ => HCD.out.mono (Nat.le_succ _), fun _ => rfl, fun _ => .inl rfl⟩
          · intro j w_ w_' hg hr
            by_cases h4 : j = 4
            · exact grown_trans hg (hr.1 h4).2
            · by_cases h6 : j = 6
              · exact grown_trans hg (hr.2.1 h6).2
              · rw [hr.2.2 h4 h6]; exact hg
          · intro i j w_ w_' hij hd hp hr
            by_cases h4 : j = 4
            · subst h4
              exact ⟨fun _ => HO1.out _ (hr.1 rfl).1, fun h => absurd h hij, fun _ => .inr (hr.1 rfl).1⟩
            · by_cases h6 : j = 6
              · subst h6
                have hd' : ¬ i ∈ [0, 1, 2, 3, 4, 5] := hd
                simp only [List.mem_cons, List.not_mem_nil, or_false, not_or] at hd'
                exact ⟨fun h => absurd h hd'.2.2.1, fun h => absurd h hd'.2.2.2.2.1, fun h => absurd h hij⟩
              · rw [hr.2.2 h4 h6]; exact hp
          · intro i j v w_ w_' hij hd h hr
            by_cases h4 : j = 4
            · subst h4
              match i, hij, hd, h with
              | 0, _, _, h => exact h
              | 1, _, _, h => exact h
              | 2, _, _, h => exact h
              | 3, _, _, h => exact h
              | 4, hij, _, h => exact absurd rfl hij
              | 5, _, hd, h => exact absurd (by decide) hd
              | 6, _, hd, h => exact absurd (by decide) hd
              | i + 7, _, _, h => exact trivial
            · by_cases h6 : j = 6
              · subst h6
                match i, hij, hd, h with
                | 0, _, _, h => exact h
                | 1, _, _, h => exact h
                | 2, _, _, h => exact h
                | 3, _, _, h => exact h
                | 4, _, _, h => exact ⟨h.1, .inr (hr.2.1 rfl).1⟩
                | 5, _, _, h => exact h
                | 6, hij, _, h => exact absurd rfl hij
                | i + 7, _, _, h => exact trivial
              · rw [hr.2.2 h4 h6]; exact h
          · refine ⟨?_, ?_, ?_, ?_, ?_, ?_, ?_, trivial⟩
            · intro vs wx hG hP hd
              simp only [putL]
              clear hd hP hG
              go_wp2
              exact ⟨rfl, rfl, ⟨(fun h => by cases h), (fun h => by cases h), fun _ _ => rfl⟩, rfl⟩
            · intro vs wx hG hP hd
              have hbl := hG.block by_ HFY.out.1.lt (fun h => HNEY.out (Option.some.inj h))
              have n1 := fits_of_block (a := ⟨by_, 0, none⟩) hbl HFY.out.1
              have n2 := (aggAt_of_block (a := ⟨by_, 0, none⟩) (n := 32) hbl).trans HFY.out.2
              simp only [putL]
              clear hd hP hG hbl
              go_wp2
              exact ⟨rfl, rfl, ⟨(fun h => by cases h), (fun h => by cases h), fun _ _ => rfl⟩, rfl⟩
            · intro vs wx hG hP hd
              have h0 := hd.get 0 rfl
              change vs 0 = _ at h0
              have h1 := hd.get 1 rfl
              change vs 1 = _ at h1
              have n1 := (hP.1 rfl).look HY32.out
              rw [← HCY.out] at n1
              simp only [putL, h0, h1]
              clear hd hP hG h0 h1
              go_wp2
              exact ⟨rfl, rfl, ⟨(fun h => by cases h), (fun h => by cases h), fun _ _ => rfl⟩, rfl⟩
            · intro vs wx hG hP hd
              have h2 := hd.get 2 rfl
              change vs 2 = _ at h2
              simp only [putL, h2]
              clear hd hP hG h2
              go_wp2
              exact ⟨rfl, rfl, ⟨(fun h => by cases h), (fun h => by cases h), fun _ _ => rfl⟩, show Value.int .i64 (cy + 1) = Value.int .i64 c1 from by rw [HC1.out]⟩
            · intro vs wx hG hP hd
              have h0 := hd.get 0 rfl
              change vs 0 = _ at h0
              have h1 := hd.get 1 rfl
              change vs 1 = _ at h1
              have hwx : wx = wd := hP.2.1 rfl
              subst hwx
              have n1 := HEN.out
              change (Instr.mapEntry 68 (.map (some mb2)) (.agg (idB y))).run Try.prog _ = .ok (.tuple #[v0, .int .i64 (st : Int)]) _ at n1
              simp only [putL, h0, h1]
              clear hd hP hG h0 h1
              go_wp2
              exact ⟨rfl, rfl, ⟨fun _ => ⟨HBD.out, HWG.out _⟩, (fun h => by cases h), fun h => absurd rfl h⟩, rfl, .inl HBD.out⟩
            · intro vs wx hG hP hd
              have h4 := (hd.get 4 rfl).1
              change vs 4 = _ at h4
              simp only [putL, h4]
              clear hd hP hG h4
              go_wp2
              exact ⟨rfl, rfl, ⟨(fun h => by cases h), (fun h => by cases h), fun _ _ => rfl⟩, rfl⟩
            · intro vs wx hG hP hd
              have h0 := hd.get 0 rfl
              change vs 0 = _ at h0
              have h3 := hd.get 3 rfl
              change vs 3 = _ at h3
              have h5 := hd.get 5 rfl
              change vs 5 = _ at h5
              have hwx : wx.heap[mb2]? = some o1 := by
                rcases hP.2.2 rfl with h | h
                · rcases (hd.get 4 rfl).2 with h' | h'
                  · exact h'
                  · exfalso
                    subst h
                    have e1 := HCD.out.look HY32.out
                    have e2 := h'.look HY32.out
                    rw [e1] at e2
                    injection e2 with e2 _
                    injection e2 with _ e2
                    rw [← HCY.out] at e2
                    unfold updF at e2
                    rw [if_pos rfl] at e2
                    exact HCNE.out e2.symm
                · exact h
              obtain ⟨o2, n1, hco⟩ := HST.out wx c1 HCW.out hwx
              change (Instr.entryStore 68 (.map (some mb2)) (.int .i64 (st : Int)) (.int .i64 c1)).run Try.prog wx = _ at n1
              obtain ⟨hs1, hs2⟩ := HSB.out wx o2 hwx
              have HS2 := Lib.hid hs2
              have HC2 := Lib.hid (hco _ hs1)
              simp only [putL, h0, h3, h5]
              clear hd hP hG h0 h3 h5 hwx hco hs1 hs2
              go_wp2
              exact ⟨rfl, rfl, ⟨(fun h => by cases h), fun _ => ⟨HC2.out, HS2.out⟩, fun _ h => absurd rfl h⟩, HC2.out⟩
          intro vs wz hG hd
          have h0 := hd.get 0 rfl
          change vs 0 = _ at h0
          have h1 := hd.get 1 rfl
          change vs 1 = _ at h1
          have h2 := hd.get 2 rfl
          change vs 2 = _ at h2
          have h3 := hd.get 3 rfl
          change vs 3 = _ at h3
          have h4 := (hd.get 4 rfl).1
          change vs 4 = _ at h4
          have h5 := hd.get 5 rfl
          change vs 5 = _ at h5
          have HZC := Lib.hid (show CntAt wz mb2 (updF f9 y c1) (n9 + 1) from hd.get 6 rfl)
          have HZG := Lib.hid hG
          simp only [putL, List.getD_cons_zero, List.getD_cons_succ, Act.put, List.setIfInBounds_toArray, List.set_cons_zero, List.set_cons_succ, h0, h1, h2, h3, h4, h5]
          clear hd hG h0 h1 h2 h3 h4 h5 HCD HGD HEN HO1 HST HBD HSB HWD HWG
          have hzb : Below w1.heap.size w1 wz := (HBW'.out.trans (HBQ.out.mono HBW'.out.size)).trans ⟨HZG.out.os, HZG.out.tape, HZG.out.output, HZG.out.size, fun i hi => HZG.out.block i (by have := HBW'.out.size; have := HBQ.out.size; omega) (fun h => by have := Option.some.inj h; have := HMB.out; omega)⟩
          have HZB := Lib.hid hzb
          clear hzb
          generalize vs 6 = zz6 at *
          go_wp2
          go_roundg (gk - 1)
          case measure => have := HG'.out; have := HJL.out; omega
          case rel =>
            refine ⟨j + 1, n9 + 1, by have := HG'.out; have := HJL.out; omega, by go_num, HZC.out.congr (fun u hu => ?_), by have := HNN'.out; have := HN9.out; omega, HZB.out⟩
            rw [HTJ.out]
            unfold updF
            by_cases hu : u = y
            · subst hu
              rw [if_pos rfl, HC1.out, HCY2.out]; simp
            · rw [if_neg hu, HF9.out]
              simp [hu]
        · have HJE := Lib.hid (show j = ps.length by have := HG'.out; omega)
          go_wp2
          go_roundg (P.length - (k + 1))
          case measure => have := HG.out; have := HK.out; omega
          case rel =>
            refine ⟨k + 1, nn', by have := HK.out; omega, by go_num, HCN'.out.congr (fun u hu => ?_), by have := HNN'.out; have := HJE.out; omega, HBW'.out⟩
            rw [HTK.out, pcnt_snoc, ← HPS.out, HJE.out, List.take_length]
            by_cases h : u ∈ ps <;> simp [h]
    · have HCB := Lib.hid (show CntAt wr mb2 (fun y => (unt G P [] y : Int)) nn from HCN0.out.congr (fun u hu => by rw [List.take_of_length_le (by omega), pcnt_all]))
      have e2 := fits_below HBW.out HBI.out.1
      have e3 := (agg_below HBW.out HBI.out.1).trans HBI.out.2
      have HNB := Lib.hid (show nn ≤ 800 by have := HNN.out; have := HG.out; have := HPL.out; omega)
      obtain ⟨wB, hwB⟩ : ∃ wB, wB = wr := ⟨_, rfl⟩
      rw [← hwB] at HCB e2 e3 HBW HCN0 ⊢
      have HR0 := Lib.hid (row_one (w := wB) HX.out)
      have hbx := (Below.refl wB.heap.size wB).alloc (Nat.le_refl _) (.cells (idB x) 24)
      have HBX := Lib.hid hbx
      have HMBL := Lib.hid (show mb2 < wB.heap.size from HCN0.out.lt)
      clear hwB hbx
      go_wp2_with fail
      clear e2 e3
      go_loopg [14, 15] P.length (fun g v14 v15 wr => ∃ (n nn : Nat) (R : List (List UInt8)), g + n = P.length ∧ rowI wB.heap.size R v14 wr ∧ rowI wB.heap.size (logN G P n) v15 wr ∧ (∀ k, v14.ownBlock = some k → v15.ownBlock ≠ some k) ∧ CntAt wr mb2 (fun y => (unt G P (logN G P n) y : Int)) nn ∧ nn ≤ 800 + 2 * n ∧ ReadyI G P (logN G P n) R ∧ LogIs G P n ∧ Below w1.heap.size w1 wr ∧ wB.heap.size ≤ wr.heap.size)
      case atStart =>
        refine ⟨0, nn, [x], by omega, HR0.out, ⟨by simp [idsC, logN], .inl ⟨rfl, rfl⟩⟩, (fun k _ h => by cases h), HCB.out.same (HBX.out.block mb2 HMBL.out), by have := HNB.out; omega, HRS.out, LogIs.zero G P, HBW.out.trans (HBX.out.mono HBW.out.size), HBX.out.size⟩
      case round =>
        obtain ⟨n, nn, R, hg, hr14, hr15, hdis, hcnt, hnn, hrd, hli, hbw, hbs⟩ := hrel
        have HG := Lib.hid hg
        have HR14 := Lib.hid hr14
        have HDIS := Lib.hid hdis
        have HNN := Lib.hid hnn
        have HBW1 := Lib.hid hbw
        have HBS := Lib.hid hbs
        have HLI := Lib.hid hli
        have HNX := Lib.hid (fun (z : List UInt8) (hz : IsBest G P (logN G P n) z) => hli.step hz)
        have HLLN := Lib.hid (show P.length ≤ n → logN G P n = LL from fun h => by rw [show n = P.length by omega]; exact HLL.out)
        have HOLN := Lib.hid (logN_len G P n)
        have HSUB := Lib.hid hli.sub
        obtain ⟨O, hO⟩ : ∃ O, O = logN G P n := ⟨_, rfl⟩
        have HO := Lib.hid hO
        rw [← hO] at hr15 hcnt hrd HNX HLLN HOLN HSUB
        have HR15 := Lib.hid hr15
        have HCNT := Lib.hid hcnt
        have HRD := Lib.hid hrd
        have HR32 := Lib.hid (show ∀ z ∈ R, z.length = 32 from fun z hz => HP32.out z ((hrd.mem z).1 hz).1)
        have HO32 := Lib.hid (show ∀ z ∈ O, z.length = 32 from fun z hz => HP32.out z (HSUB.out z hz))
        have HRL := Lib.hid (show R.length ≤ 400 by have := hrd.len; have := HPL.out; omega)
        clear hg hr14 hr15 hdis hcnt hnn hrd hli hbw hbs hO
        by_cases hRn : R = []
        · have HE := Lib.hid (show O = LL from HLLN.out (by have := HRD.out.some_left HWF.out (strict_nodup HPS0.out) hRn; have := HOLN.out; omega))
          obtain ⟨a2, c2, rfl, p1, p2, p3, p4⟩ := SlI_row HR32.out HR14.out
          have i0 : ¬ (0 : Int) < R.length := by rw [hRn]; simp
          clear hRn p1 p2 p3 p4
          go_wp2
          go_ret2
          exact ⟨_, rfl, by rw [← HE.out]; exact ownsRow_base HR15.out (by have := HBW.out.size; have := HB1.out.size; omega), HB1.out.trans (HBW1.out.mono HB1.out.size)⟩
        · have hRp : 0 < R.length := Nat.pos_of_ne_zero (fun h => hRn (List.eq_nil_of_length_eq_zero h))
          obtain ⟨g14, cap, rfl, p1, p2⟩ := row_some hRn HR14.out
          have i0 : (0 : Int) < R.length := by omega
          have HRP := Lib.hid hRp
          have HCAP := Lib.hid p1
          clear hRn
          go_wp2_with fail
          go_loopg [16, 65] R.length (fun g v16 v65 wr2 => ∃ (i m : Nat), g + i = R.length ∧ v16 = .int .i64 m ∧ v65 = .int .i64 i ∧ m < R.length ∧ (∀ j, j < i → R.getD j [] = R.getD m [] ∨ aheadB G (R.getD m []) (R.getD j []) = true) ∧ Below wr.heap.size wr wr2)
          case atStart => exact ⟨0, 0, by omega, rfl, rfl, HRP.out, fun j hj => by omega, Below.refl _ _⟩
          case round =>
            obtain ⟨i, m, hg, rfl, rfl, hm, hbest, hb2⟩ := hrel
            have HG' := Lib.hid hg
            have HM := Lib.hid hm
            have HBEST := Lib.hid hbest
            have HBQ := Lib.hid hb2
            have HBW2 := Lib.hid (HBW1.out.trans (hb2.mono HBW1.out.size))
            have HR14' := Lib.hid (rowI_st _ _ _ _ _ HR14.out hb2)
            clear hg hbest hb2
            by_cases hi : i < R.length
            · have HI := Lib.hid hi
              obtain ⟨e1, e2⟩ := rowI_at HR32.out hi HR14'.out
              obtain ⟨e3, e4⟩ := rowI_at HR32.out hm HR14'.out
              have q7 := e1.lt
              simp only at q7
              have hy := (HRD.out.mem _).1 (getD_mem hi)
              have hz := (HRD.out.mem _).1 (getD_mem hm)
              have hbg := Nat.lt_of_lt_of_le HBG.out.1 HBW2.out.size
              have hcg := (HBW2.out.cell (p := ⟨Bg, 0, none⟩) HBG.out.1).trans HBG.out.2
              have C1 := Lib.hid (fun X => ahead_any Bg gb mb G (R.getD i []) (R.getD m []) (HP32.out _ hy.1) (HP32.out _ hz.1) (ov wr X) (HPN.out _ hy.1) (HPN.out _ hz.1) (Nat.lt_of_lt_of_le hbg (ov_size wr X)) (((ov_below wr X).cell (p := ⟨Bg, 0, none⟩) hbg).trans hcg) (HGA1.out.below (HBW2.out.trans ((ov_below wr X).mono HBW2.out.size))))
              obtain ⟨y, hy⟩ : ∃ y, y = R.getD i [] := ⟨_, rfl⟩
              obtain ⟨z, hz⟩ : ∃ z, z = R.getD m [] := ⟨_, rfl⟩
              have HYE := Lib.hid hy
              have HZE := Lib.hid hz
              rw [← hy] at e2 C1
              rw [← hz] at e4 C1
              have i1 : (i : Int) < R.length := by omega
              have i2 : (m : Int) < R.length := by omega
              have hrl := HRL.out
              clear hy hz hbg hcg
              cases hah : aheadB G y z with
              | true =>
                have HAH := Lib.hid hah
                rw [hah] at C1
                clear hah
                go_wp2_with fail
                refine wp_region_over (by kernel_rfl) (by kernel_rfl) ?_
                repeat (go_big_quiet_step ((go_at_call 43; exact Calls.over_of (C1.out _))))
                refine wpQuiet_nil ?_
                rintro _ ⟨z0, rfl⟩
                have HB5 := Lib.hid (HBQ.out.trans ((ov_below wr z0).mono HBQ.out.size))
                clear e1 e2 e3 e4 C1 q7
                go_wp2
                go_roundg (gk - 1)
                case measure => have := HG'.out; have := HI.out; omega
                case rel =>
                  refine ⟨i + 1, i, by have := HG'.out; have := HI.out; omega, rfl, by go_num, HI.out, fun j hj => ?_, HB5.out⟩
                  rcases Nat.lt_succ_iff_lt_or_eq.1 hj with h | rfl
                  · right
                    rcases HBEST.out j h with e | e
                    · rw [e, ← HYE.out, ← HZE.out]; exact HAH.out
                    · rw [← HYE.out]; rw [← HZE.out] at e; exact ahead_trans HAH.out e
                  · exact .inl rfl
              | false =>
                have HAH := Lib.hid hah
                rw [hah] at C1
                clear hah
                go_wp2_with fail
                refine wp_region_over (by kernel_rfl) (by kernel_rfl) ?_
                repeat (go_big_quiet_step ((go_at_call 43; exact Calls.over_of (C1.out _))))
                refine wpQuiet_nil ?_
                rintro _ ⟨z0, rfl⟩
                have HB5 := Lib.hid (HBQ.out.trans ((ov_below wr z0).mono HBQ.out.size))
                clear e1 e2 e3 e4 C1 q7
                go_wp2
                go_roundg (gk - 1)
                case measure => have := HG'.out; have := HI.out; omega
                case rel =>
                  refine ⟨i + 1, m, by have := HG'.out; have := HI.out; omega, rfl, by go_num, HM.out, fun j hj => ?_, HB5.out⟩
                  rcases Nat.lt_succ_iff_lt_or_eq.1 hj with h | rfl
                  · exact HBEST.out j h
                  · rw [← HYE.out, ← HZE.out]
                    exact ahead_total (by rw [HAH.out]; simp)
            · have hbst := HRD.out.best hm (fun j hj => HBEST.out j (by have := HG'.out; omega))
              have HST := Lib.hid (HNX.out _ hbst)
              have HIB := Lib.hid hbst
              obtain ⟨e1, e2⟩ := rowI_at HR32.out hm HR14'.out
              have HSTEP := Lib.hid (fun (a : List UInt8) (ha : a = R.getD m []) => HRD.out.step HWF.out (strict_nodup HPS0.out) HPCL.out hm ha)
              obtain ⟨a, ha⟩ : ∃ a, a = R.getD m [] := ⟨_, rfl⟩
              have HAE := Lib.hid ha
              rw [← ha] at e2 HST HIB
              have ha32 : a.length = 32 := HP32.out a HIB.out.mem
              have HA32 := Lib.hid ha32
              have HNEL := Lib.hid (HPN.out a HIB.out.mem)
              have hidA := idOk_agg a ha32
              have i2 : (m : Int) < R.length := by omega
              obtain ⟨m1, hm1⟩ : ∃ m1, m1 = m + 1 := ⟨_, rfl⟩
              have hm1' : (m : Int) + 1 = (m1 : Int) := by omega
              have hrl := HRL.out
              obtain ⟨q, hq⟩ : ∃ q, R.length = q + 1 := ⟨R.length - 1, by have := HRP.out; omega⟩
              have HQ1 := Lib.hid hq
              have HM1 := Lib.hid hm1
              have q7 := e1.lt
              simp only at q7
              clear ha hbst hm1 hq
              go_upto_region 26 with fail
              clear e1 e2 hidA q7
              obtain ⟨W6, hW6⟩ : ∃ W6, W6 = wr.alloc (.cells (idB a) 24) := ⟨_, rfl⟩
              obtain ⟨ba, hba⟩ : ∃ b, b = wr.heap.size := ⟨_, rfl⟩
              have hb6 : Below wr.heap.size wr W6 := by rw [hW6]; exact (Below.refl _ _).alloc (Nat.le_refl _) _
              have HB6 := Lib.hid (HBQ.out.trans (hb6.mono HBQ.out.size))
              have HR14W := Lib.hid (rowI_st _ _ _ _ _ HR14'.out hb6)
              have HFA := Lib.hid (show fits W6 ⟨ba, 0, none⟩ 32 ∧ aggAt W6 ⟨ba, 0, none⟩ 32 = idB a from by rw [hW6, hba]; exact ⟨fits_new _ _ _ _ (by rw [idB_size, ha32]), aggAt_new _ _ _ _ (by rw [idB_size, ha32])⟩)
              have HG14 := Lib.hid (rowI_lt HR14.out (k := g14) rfl)
              have HBA := Lib.hid (show g14 < ba from by rw [hba]; exact Nat.lt_of_lt_of_le HG14.out.1 HBQ.out.size)
              have HO15 := Lib.hid (fun k (hk : u15.ownBlock = some k) => (show wB.heap.size ≤ k ∧ k < ba ∧ k ≠ g14 from ⟨(rowI_lt HR15.out hk).2.1, by rw [hba]; exact Nat.lt_of_lt_of_le (rowI_lt HR15.out hk).1 HBQ.out.size, fun e => HDIS.out g14 rfl (by rw [← e]; exact hk)⟩))
              have HMG := Lib.hid (show mb2 ≠ g14 from fun h => by have := HG14.out.2.1; have := HMBL.out; omega)
              have HR15W := Lib.hid (rowI_st _ _ _ _ _ HR15.out HB6.out)
              have HCW6 := Lib.hid (HCNT.out.same (HB6.out.block mb2 HCNT.out.lt))
              have HBW6 := Lib.hid (HBW1.out.trans (HB6.out.mono HBW1.out.size))
              have HBS6 := Lib.hid (show wB.heap.size ≤ W6.heap.size from Nat.le_trans HBS.out HB6.out.size)
              have HDEL := Lib.hid (delete_any W6 wB.heap.size g14 R.length cap m m1 q R HR32.out rfl (by omega) hm HM1.out HQ1.out HR14W.out)
              rw [← hW6, ← hba]
              clear hW6 hba hb6
              go_wp2_with fail
              refine HDEL.out.mono ?_
              rintro e w7 ⟨rfl, hr7, hg7⟩
              have HR7 := Lib.hid hr7
              have HG7 := Lib.hid hg7
              have hk7 : ∀ k, k < W6.heap.size → k ≠ g14 → w7.heap[k]? = W6.heap[k]? := fun k hk hn => hg7.block k hk (fun h => hn (Option.some.inj h))
              have HBW7 := Lib.hid (show Below w1.heap.size w1 w7 from HBW6.out.trans ⟨hg7.os, hg7.tape, hg7.output, hg7.size, fun k hk => hk7 k (by have := HBW6.out.size; omega) (fun h => by have := HG14.out.2.1; have := HBW.out.size; omega)⟩)
              have hfa7 := hk7 ba HFA.out.1.lt (fun h => by have := HBA.out; omega)
              have d1 := fits_of_block (a := ⟨ba, 0, none⟩) hfa7 HFA.out.1
              have d2 := (aggAt_of_block (a := ⟨ba, 0, none⟩) (n := 32) hfa7).trans HFA.out.2
              have HFA7 := Lib.hid (And.intro d1 d2)
              have HR157 := Lib.hid (rowI_same HR15W.out (fun k hk => hk7 k (rowI_lt HR15W.out hk).1 (HO15.out k hk).2.2))
              have HCW7 := Lib.hid (HCW6.out.same (hk7 mb2 HCW6.out.lt HMG.out))
              have HBS7 := Lib.hid (show wB.heap.size ≤ w7.heap.size from Nat.le_trans HBS6.out hg7.size)
              have hbn := (Below.refl w7.heap.size w7).alloc (Nat.le_refl _) (.cells (idB a) 24)
              have HBN := Lib.hid hbn
              have HRN := Lib.hid (rowI_st _ _ _ _ _ HR157.out hbn)
              have HNEW := Lib.hid (one_new (w := w7) HA32.out)
              have HC := Lib.hid (show O.length + [a].length ≤ 4000000 by
                have h9 := nodup_len _ _ HST.out.2.nd HST.out.2.sub
                rw [logN_len] at h9
                have := HOLN.out; have := HPL.out
                simp only [List.length_cons, List.length_nil]; omega)
              have HBASE := Lib.hid (show wB.heap.size ≤ (w7.alloc (.cells (idB a) 24)).heap.size by have := HBS7.out; simp; omega)
              have HU15 := Lib.hid HO15.out
              obtain ⟨a2, c2, he15, p1', p2', p3', p4'⟩ := SlI_row HO32.out HR15.out
              have HE15 := Lib.hid he15
              subst he15
              unfold maxLen at p2'
              clear hr7 hg7 hk7 hfa7 hbn p3' p4'
              go_wp2_with (at_builtin; refine wpList_app_id rfl _ _ rfl wB.heap.size _ O [a] rfl HRN.out _ 1 rfl HNEW.out HC.out HBASE.out ?_)
              rintro v15' w8 hr8 hg8 ho8
              have HR8 := Lib.hid hr8
              have HG8 := Lib.hid hg8
              have HO8 := Lib.hid ho8
              have hk8 : ∀ k, k < w7.heap.size → (Value.slice a2 O.length c2).ownBlock ≠ some k → w8.heap[k]? = w7.heap[k]? := fun k hk hn => (hg8.block k (by simp; omega) (fun h => hn h.symm)).trans (HBN.out.block k hk)
              have hs8 : w7.heap.size ≤ w8.heap.size := by have := hg8.size; simp at this; omega
              have HBW8 := Lib.hid (show Below w1.heap.size w1 w8 from HBW7.out.trans ⟨hg8.os, hg8.tape, hg8.output, hs8, fun k hk => hk8 k (by have := HBW7.out.size; omega) (fun h => by have := (HO15.out k h).1; have := HBW.out.size; omega)⟩)
              have hfa8 := hk8 ba HFA7.out.1.lt (fun h => by have := (HO15.out ba h).2.1; omega)
              have HFA8 := Lib.hid (show fits w8 ⟨ba, 0, none⟩ 32 ∧ aggAt w8 ⟨ba, 0, none⟩ 32 = idB a from ⟨fits_of_block (a := ⟨ba, 0, none⟩) hfa8 HFA7.out.1, (aggAt_of_block (a := ⟨ba, 0, none⟩) (n := 32) hfa8).trans HFA7.out.2⟩)
              have HR148 := Lib.hid (rowI_same HR7.out (fun k hk => hk8 k (rowI_lt HR7.out hk).1 (fun h => by
                simp only [Value.ownBlock, Option.some.injEq] at hk
                exact (HO15.out k h).2.2 hk.symm)))
              have HCW8 := Lib.hid (HCW7.out.same (hk8 mb2 HCW7.out.lt (fun h => by have := (HO15.out mb2 h).1; have := HMBL.out; omega)))
              have HBS8 := Lib.hid (Nat.le_trans HBS7.out hs8)
              have HD8 := Lib.hid (show v15'.ownBlock ≠ some g14 from fun h => by
                rcases HO8.out with e | e
                · exact (HO15.out g14 (e ▸ h)).2.2 rfl
                · rw [h] at e
                  have e := Option.some.inj e
                  have := (rowI_lt HR7.out (k := g14) rfl).1
                  try simp at e
                  omega)
              clear hr8 hg8 ho8 hk8 hs8 hfa8 d1 d2
              go_upto_region 28 with fail
              have hgr := HGA1.out.below HBW8.out
              obtain ⟨a', c', hsl3, hlk3⟩ := look_node HGA1.out (x := a) HNEL.out
              have HSL3 := Lib.hid hsl3
              have g1 : w8.cell? ⟨Bg, 0, none⟩ = some (.pointer (some ⟨gb, 0, none⟩)) := (HBW8.out.cell (p := ⟨Bg, 0, none⟩) HBG.out.1).trans HBG.out.2
              have g2 := hgr.cell
              have g3 := HFA8.out.1
              have g4 := HFA8.out.2
              have g5 := fun X => hlk3 (ov w8 X) (HBW8.out.trans ((ov_below w8 X).mono HBW8.out.size))
              have g6 : Bg < w8.heap.size := Nat.lt_of_lt_of_le HBG.out.1 HBW8.out.size
              have g7 : gb < w8.heap.size := hgr.lt
              have g8 : ba < w8.heap.size := g3.lt
              obtain ⟨ps, hps⟩ : ∃ ps, ps = parsOf G a := ⟨_, rfl⟩
              have HPS := Lib.hid hps
              have HPA := Lib.hid (pars_len HWF.out a)
              have HPN := Lib.hid (pars_nodup HWF.out a)
              rw [← hps] at g5 HSL3 HPA HPN
              generalize stampOf G a = st' at *
              change ∀ X, Sem.run Try.prog (Instr.lookup 59 (Value.map (some mb)) (Value.agg (idB a)) false) (ov w8 X) = Result.ok (.agg #[.slice a' ps.length c', .int .i64 st']) (ov w8 X) at g5
              have hps2 : ps.length ≤ 2 := HPA.out
              clear hgr hsl3 hlk3 hps
              refine wp_region_over (by kernel_rfl) (by kernel_rfl) ?_
              repeat (go_big_quiet_step (fail))
              refine wpQuiet_nil ?_
              rintro _ ⟨z0, rfl⟩
              have HZ0 := Lib.hid (ov_below w8 z0)
              obtain ⟨W4, hW4⟩ : ∃ W4, W4 = ov w8 z0 := ⟨_, rfl⟩
              rw [← hW4] at HZ0 ⊢
              clear g1 g2 g3 g4 g5 g6 g7 g8 hW4
              have HB4 := Lib.hid (HBW8.out.trans (HZ0.out.mono HBW8.out.size))
              have HR14I := Lib.hid (rowI_st _ _ _ _ _ HR148.out HZ0.out)
              have HR15I := Lib.hid (rowI_st _ _ _ _ _ HR8.out HZ0.out)
              have HCI := Lib.hid (HCW8.out.same (HZ0.out.block mb2 HCW8.out.lt))
              have HBSI := Lib.hid (Nat.le_trans HBS8.out HZ0.out.size)
              have HE32 := Lib.hid (show ∀ z ∈ R.eraseIdx m, z.length = 32 from fun z hz => HR32.out z (List.mem_of_mem_eraseIdx hz))
              obtain ⟨RE, hRE⟩ : ∃ RE, RE = R.eraseIdx m := ⟨_, rfl⟩
              have HRE := Lib.hid hRE
              have HREL := Lib.hid (show RE.length ≤ 400 from by rw [hRE]; have := HRL.out; rw [List.length_eraseIdx]; split <;> omega)
              rw [← hRE] at HR14I HE32
              clear hRE
              go_wp2_with fail
              go_loopg [14, 101] ps.length (fun g v14 v101 wr4 => ∃ (j nn' : Nat), g + j = ps.length ∧ v101 = .int .i64 j ∧ rowI wB.heap.size (RE ++ (ps.take j).filter fun p => decide (unt G P O p = 1)) v14 wr4 ∧ rowI wB.heap.size (O ++ [a]) v15' wr4 ∧ (∀ k, v14.ownBlock = some k → v15'.ownBlock ≠ some k) ∧ CntAt wr4 mb2 (fun y => (unt G P O y : Int) - (if y ∈ ps.take j then 1 else 0)) nn' ∧ nn' ≤ 800 + 2 * n + j ∧ Below w1.heap.size w1 wr4 ∧ wB.heap.size ≤ wr4.heap.size)
              case atStart => exact ⟨0, nn, by omega, rfl, by simpa using HR14I.out, HR15I.out, (fun k hk => by simp only [Value.ownBlock, Option.some.injEq] at hk; subst hk; exact HD8.out), HCI.out.congr (fun y hy => by simp), by have := HNN.out; omega, HB4.out, HBSI.out⟩
              case round =>
                obtain ⟨j, nn', hg, rfl, hrow, hrow15, hdis, hcnt, hnn, hbw, hbs⟩ := hrel
                have HGJ := Lib.hid hg
                have HRJ := Lib.hid hrow
                have HR15J := Lib.hid hrow15
                have HDJ := Lib.hid hdis
                have HCN' := Lib.hid hcnt
                have HNN' := Lib.hid hnn
                have HBW' := Lib.hid hbw
                have HBSJ := Lib.hid hbs
                clear hg hrow hrow15 hdis hcnt hnn hbw hbs
                by_cases hj : j < ps.length
                · have HJL := Lib.hid hj
                  have HSLR := Lib.hid (SlI_below HSL3.out HBW'.out)
                  obtain ⟨a3, c3, he3, _, _, hi3, _⟩ := HSLR.out
                  obtain ⟨rfl, _, rfl⟩ := Value.slice.inj he3
                  rcases hi3.2 with h | ⟨b3, off3, rfl, hc3⟩
                  · rw [h] at hj; simp at hj
                  obtain ⟨e1, e2⟩ := hc3 j hj
                  have hy32 := hi3.1 _ (getD_mem hj)
                  have HTJ := Lib.hid (take_snoc [] ps j hj)
                  have HNJ := Lib.hid (show ¬ ps.getD j [] ∈ ps.take j from not_mem_take HPN.out hj)
                  have HYM := Lib.hid (getD_mem hj)
                  obtain ⟨y, hy⟩ : ∃ y, y = ps.getD j [] := ⟨_, rfl⟩
                  rw [← hy] at e2 hy32 HTJ HNJ HYM
                  have HY32 := Lib.hid hy32
                  have hidY := idOk_agg y hy32
                  have i1' : (j : Int) < ps.length := by omega
                  clear hc3 hi3 hy he3
                  go_upto_region 31 with fail
                  clear e1 e2 hidY
                  obtain ⟨wq, hwq⟩ : ∃ wq, wq = wr.alloc (.cells (idB y) 24) := ⟨_, rfl⟩
                  obtain ⟨by_, hby⟩ : ∃ b, b = wr.heap.size := ⟨_, rfl⟩
                  have hbq : Below wr.heap.size wr wq := by rw [hwq]; exact (Below.refl _ _).alloc (Nat.le_refl _) _
                  have HBQ2 := Lib.hid hbq
                  have HFY := Lib.hid (show fits wq ⟨by_, 0, none⟩ 32 ∧ aggAt wq ⟨by_, 0, none⟩ 32 = idB y from by rw [hwq, hby]; exact ⟨fits_new _ _ _ _ (by rw [idB_size, hy32]), aggAt_new _ _ _ _ (by rw [idB_size, hy32])⟩)
                  have HNEY := Lib.hid (show by_ ≠ mb2 from by have := HCN'.out.lt; omega)
                  rw [← hwq, ← hby]
                  have hcq := HCN'.out.same (hbq.block mb2 HCN'.out.lt)
                  obtain ⟨f9, hf9⟩ : ∃ f9, f9 = (fun y => (unt G P O y : Int) - (if y ∈ ps.take j then 1 else 0)) := ⟨_, rfl⟩
                  obtain ⟨n9, hn9⟩ : ∃ n9, n9 = nn' := ⟨_, rfl⟩
                  rw [← hf9, ← hn9] at hcq
                  have HCN := Lib.hid hcq
                  obtain ⟨cy, hcy⟩ : ∃ c, c = f9 y := ⟨_, rfl⟩
                  obtain ⟨c1, hc1⟩ : ∃ c, c = cy - 1 := ⟨_, rfl⟩
                  have HCY2 := Lib.hid (show cy = (unt G P O y : Int) from by rw [hcy, hf9]; simp [HNJ.out])
                  have hup : 1 ≤ unt G P O y := by
                    rcases Nat.eq_zero_or_pos (unt G P O y) with h | h
                    · exfalso
                      rcases unt_zero.1 h a HIB.out.mem with h' | h'
                      · exact (candB_unt.1 HIB.out.cand).1 h'
                      · exact h' (by rw [← HPS.out]; exact HYM.out)
                    · exact h
                  have hcyb : 0 < cy ∧ cy ≤ 100000 := by
                    have h1 := HCY2.out
                    have h2 := unt_le G P O y
                    have := HPL.out
                    omega
                  have HF9 := Lib.hid hf9
                  have HN9 := Lib.hid hn9
                  have HCY := Lib.hid hcy
                  have HC1 := Lib.hid hc1
                  have HCW := Lib.hid (i64_wf (c := c1) (by omega) (by omega))
                  have HCNE := Lib.hid (show c1 ≠ cy by omega)
                  have HNL := Lib.hid (show n9 < maxLen by
                    have h9 := nodup_len _ _ HST.out.2.nd HST.out.2.sub
                    rw [logN_len] at h9
                    have := HNN'.out; have := HPL.out; unfold maxLen; omega)
                  clear hwq hby hbq hcy hc1 hf9 hn9 hcq hup
                  obtain ⟨wd, hwd⟩ : ∃ wd, wd = wq.drew := ⟨_, rfl⟩
                  have HCD := Lib.hid (show CntAt wd mb2 f9 n9 by rw [hwd]; exact HCN.out.same rfl)
                  have HGD := Lib.hid (show wq.grownBy wd (some mb2) by rw [hwd]; exact ⟨rfl, rfl, rfl, Nat.le_refl _, fun _ _ _ => rfl⟩)
                  obtain ⟨v0, st, o1, hen, ho1, hst⟩ := HCD.out.entry HNL.out HY32.out
                  have HEN := Lib.hid hen
                  have HO1 := Lib.hid ho1
                  have HST := Lib.hid hst
                  have HBD := Lib.hid (show (setBlock wd mb2 o1).heap[mb2]? = some o1 by obtain ⟨D, ⟨es, clock, hb, _⟩, _⟩ := HCD.out; exact setBlock_same hb)
                  have HSB := Lib.hid (fun (wx : World) (o2 : Obj) (hx : wx.heap[mb2]? = some o1) => (show (setBlock wx mb2 o2).heap[mb2]? = some o2 ∧ wx.grownBy (setBlock wx mb2 o2) (some mb2) from setBlock_any (HO1.out wx hx)))
                  have HWD := Lib.hid hwd
                  have HWG := Lib.hid (show ∀ o, wd.grownBy (setBlock wd mb2 o) (some mb2) from fun o => (setBlock_any HCD.out).2)
                  clear hen ho1 hst hwd
                  refine wp_region_specs2 [[], [], [0, 1], [2], [0, 1], [4], [0, 1, 2, 3, 4, 5]] [some 105, some 106, some 107, some 108, some 109, some 110, none] [0, 1, 2, 3, 4, 5, 6]
                    (fun w_ => wq.grownBy w_ (some mb2))
                    (fun i w_ => (i = 2 → CntAt w_ mb2 f9 (n9 + 1)) ∧ (i = 4 → w_ = wd) ∧ (i = 6 → (w_ = wd ∨ w_.heap[mb2]? = some o1)))
                    (fun j w_ w_' => (j = 4 → w_'.heap[mb2]? = some o1 ∧ w_.grownBy w_' (some mb2)) ∧ (j = 6 → CntAt w_' mb2 (updF f9 y c1) (n9 + 1) ∧ w_.grownBy w_' (some mb2)) ∧ (j ≠ 4 → j ≠ 6 → w_' = w_))
                    (fun ix_ => [eqv (.map (some mb2)), eqv (.agg (idB y)), eqv (.int .i64 cy), eqv (.int .i64 c1), fun v w_ => v = .tuple #[v0, goInt st] ∧ (w_.heap[mb2]? = some o1 ∨ CntAt w_ mb2 (updF f9 y c1) (n9 + 1)), eqv (goInt st), fun v w_ => CntAt w_ mb2 (updF f9 y c1) (n9 + 1)].getD ix_ anyv)
                    (by kernel_rfl) (by kernel_rfl) ?_ ?_ ?_ ?_ ?_ ?_ ?_
                  · rw [← HWD.out]; exact HGD.out
                  · intro i
                    rw [← HWD.out]
                    exact ⟨fun _ => HCD.out.mono (Nat.le_succ _), fun _ => rfl, fun _ => .inl rfl⟩
                  · intro j w_ w_' hg hr
                    by_cases h4 : j = 4
                    · exact grown_trans hg (hr.1 h4).2
                    · by_cases h6 : j = 6
                      · exact grown_trans hg (hr.2.1 h6).2
                      · rw [hr.2.2 h4 h6]; exact hg
                  · intro i j w_ w_' hij hd hp hr
                    by_cases h4 : j = 4
                    · subst h4
                      exact ⟨fun _ => HO1.out _ (hr.1 rfl).1, fun h => absurd h hij, fun _ => .inr (hr.1 rfl).1⟩
                    · by_cases h6 : j = 6
                      · subst h6
                        have hd' : ¬ i ∈ [0, 1, 2, 3, 4, 5] := hd
                        simp only [List.mem_cons, List.not_mem_nil, or_false, not_or] at hd'
                        exact ⟨fun h => absurd h hd'.2.2.1, fun h => absurd h hd'.2.2.2.2.1, fun h => absurd h hij⟩
                      · rw [hr.2.2 h4 h6]; exact hp
                  · intro i j v w_ w_' hij hd h hr
                    by_cases h4 : j = 4
                    · subst h4
                      match i, hij, hd, h with
                      | 0, _, _, h => exact h
                      | 1, _, _, h => exact h
                      | 2, _, _, h => exact h
                      | 3, _, _, h => exact h
                      | 4, hij, _, h => exact absurd rfl hij
                      | 5, _, hd, h => exact absurd (by decide) hd
                      | 6, _, hd, h => exact absurd (by decide) hd
                      | i + 7, _, _, h => exact trivial
                    · by_cases h6 : j = 6
                      · subst h6
                        match i, hij, hd, h with
                        | 0, _, _, h => exact h
                        | 1, _, _, h => exact h
                        | 2, _, _, h => exact h
                        | 3, _, _, h => exact h
                        | 4, _, _, h => exact ⟨h.1, .inr (hr.2.1 rfl).1⟩
                        | 5, _, _, h => exact h
                        | 6, hij, _, h => exact absurd rfl hij
                        | i + 7, _, _, h => exact trivial
                      · rw [hr.2.2 h4 h6]; exact h
                  · refine ⟨?_, ?_, ?_, ?_, ?_, ?_, ?_, trivial⟩
                    · intro vs wx hG hP hd
                      simp only [putL]
                      clear hd hP hG
                      go_wp2
                      exact ⟨rfl, rfl, ⟨(fun h => by cases h), (fun h => by cases h), fun _ _ => rfl⟩, rfl⟩
                    · intro vs wx hG hP hd
                      have hbl := hG.block by_ HFY.out.1.lt (fun h => HNEY.out (Option.some.inj h))
                      have n1 := fits_of_block (a := ⟨by_, 0, none⟩) hbl HFY.out.1
                      have n2 := (aggAt_of_block (a := ⟨by_, 0, none⟩) (n := 32) hbl).trans HFY.out.2
                      simp only [putL]
                      clear hd hP hG hbl
                      go_wp2
                      exact ⟨rfl, rfl, ⟨(fun h => by cases h), (fun h => by cases h), fun _ _ => rfl⟩, rfl⟩
                    · intro vs wx hG hP hd
                      have h0 := hd.get 0 rfl
                      change vs 0 = _ at h0
                      have h1 := hd.get 1 rfl
                      change vs 1 = _ at h1
                      have n1 := (hP.1 rfl).look HY32.out
                      rw [← HCY.out] at n1
                      simp only [putL, h0, h1]
                      clear hd hP hG h0 h1
                      go_wp2
                      exact ⟨rfl, rfl, ⟨(fun h => by cases h), (fun h => by cases h), fun _ _ => rfl⟩, rfl⟩
                    · intro vs wx hG hP hd
                      have h2 := hd.get 2 rfl
                      change vs 2 = _ at h2
                      simp only [putL, h2]
                      clear hd hP hG h2
                      go_wp2
                      exact ⟨rfl, rfl, ⟨(fun h => by cases h), (fun h => by cases h), fun _ _ => rfl⟩, show Value.int .i64 (cy - 1) = Value.int .i64 c1 from by rw [HC1.out]⟩
                    · intro vs wx hG hP hd
                      have h0 := hd.get 0 rfl
                      change vs 0 = _ at h0
                      have h1 := hd.get 1 rfl
                      change vs 1 = _ at h1
                      have hwx : wx = wd := hP.2.1 rfl
                      subst hwx
                      have n1 := HEN.out
                      change (Instr.mapEntry 68 (.map (some mb2)) (.agg (idB y))).run Try.prog _ = .ok (.tuple #[v0, .int .i64 (st : Int)]) _ at n1
                      simp only [putL, h0, h1]
                      clear hd hP hG h0 h1
                      go_wp2
                      exact ⟨rfl, rfl, ⟨fun _ => ⟨HBD.out, HWG.out _⟩, (fun h => by cases h), fun h => absurd rfl h⟩, rfl, .inl HBD.out⟩
                    · intro vs wx hG hP hd
                      have h4 := (hd.get 4 rfl).1
                      change vs 4 = _ at h4
                      simp only [putL, h4]
                      clear hd hP hG h4
                      go_wp2
                      exact ⟨rfl, rfl, ⟨(fun h => by cases h), (fun h => by cases h), fun _ _ => rfl⟩, rfl⟩
                    · intro vs wx hG hP hd
                      have h0 := hd.get 0 rfl
                      change vs 0 = _ at h0
                      have h3 := hd.get 3 rfl
                      change vs 3 = _ at h3
                      have h5 := hd.get 5 rfl
                      change vs 5 = _ at h5
                      have hwx : wx.heap[mb2]? = some o1 := by
                        rcases hP.2.2 rfl with h | h
                        · rcases (hd.get 4 rfl).2 with h' | h'
                          · exact h'
                          · exfalso
                            subst h
                            have e1 := HCD.out.look HY32.out
                            have e2 := h'.look HY32.out
                            rw [e1] at e2
                            injection e2 with e2 _
                            injection e2 with _ e2
                            rw [← HCY.out] at e2
                            unfold updF at e2
                            rw [if_pos rfl] at e2
                            exact HCNE.out e2.symm
                        · exact h
                      obtain ⟨o2, n1, hco⟩ := HST.out wx c1 HCW.out hwx
                      change (Instr.entryStore 68 (.map (some mb2)) (.int .i64 (st : Int)) (.int .i64 c1)).run Try.prog wx = _ at n1
                      obtain ⟨hs1, hs2⟩ := HSB.out wx o2 hwx
                      have HS2 := Lib.hid hs2
                      have HC2 := Lib.hid (hco _ hs1)
                      simp only [putL, h0, h3, h5]
                      clear hd hP hG h0 h3 h5 hwx hco hs1 hs2
                      go_wp2
                      exact ⟨rfl, rfl, ⟨(fun h => by cases h), fun _ => ⟨HC2.out, HS2.out⟩, fun _ h => absurd rfl h⟩, HC2.out⟩
                  intro vs wz hG hd
                  have h0 := hd.get 0 rfl
                  change vs 0 = _ at h0
                  have h1 := hd.get 1 rfl
                  change vs 1 = _ at h1
                  have h2 := hd.get 2 rfl
                  change vs 2 = _ at h2
                  have h3 := hd.get 3 rfl
                  change vs 3 = _ at h3
                  have h4 := (hd.get 4 rfl).1
                  change vs 4 = _ at h4
                  have h5 := hd.get 5 rfl
                  change vs 5 = _ at h5
                  have HZC := Lib.hid (show CntAt wz mb2 (updF f9 y c1) (n9 + 1) from hd.get 6 rfl)
                  have HZG := Lib.hid hG
                  simp only [putL, List.getD_cons_zero, List.getD_cons_succ, Act.put, List.setIfInBounds_toArray, List.set_cons_zero, List.set_cons_succ, h0, h1, h2, h3, h4, h5]
                  clear hd hG h0 h1 h2 h3 h4 h5 HCD HGD HEN HO1 HST HBD HSB HWD HWG
                  have hzs : wq.heap.size ≤ wz.heap.size := HZG.out.size
                  have hqs : wr.heap.size ≤ wq.heap.size := HBQ2.out.size
                  have hzk : ∀ k, k < wr.heap.size → k ≠ mb2 → wz.heap[k]? = wr.heap[k]? := fun k hk hn => (HZG.out.block k (by omega) (fun h => hn (Option.some.inj h))).trans (HBQ2.out.block k hk)
                  have HZB := Lib.hid (show Below w1.heap.size w1 wz from (HBW'.out.trans (HBQ2.out.mono HBW'.out.size)).trans ⟨HZG.out.os, HZG.out.tape, HZG.out.output, HZG.out.size, fun i hi => HZG.out.block i (by have := HBW'.out.size; omega) (fun h => by have := Option.some.inj h; have := HMB.out; omega)⟩)
                  have HRZ := Lib.hid (rowI_same HRJ.out (fun k hk => hzk k (rowI_lt HRJ.out hk).1 (fun h => by have := (rowI_lt HRJ.out hk).2.1; have := HMBL.out; omega)))
                  have HR15Z := Lib.hid (rowI_same HR15J.out (fun k hk => hzk k (rowI_lt HR15J.out hk).1 (fun h => by have := (rowI_lt HR15J.out hk).2.1; have := HMBL.out; omega)))
                  have HBSZ := Lib.hid (show wB.heap.size ≤ wz.heap.size by have := HBSJ.out; omega)
                  have hbl9 := HZG.out.block by_ HFY.out.1.lt (fun h => HNEY.out (Option.some.inj h))
                  have d1 := fits_of_block (a := ⟨by_, 0, none⟩) hbl9 HFY.out.1
                  have d2 := (aggAt_of_block (a := ⟨by_, 0, none⟩) (n := 32) hbl9).trans HFY.out.2
                  have n1 := HZC.out.look HY32.out
                  rw [show updF f9 y c1 y = c1 from if_pos rfl] at n1
                  have HNEXT := Lib.hid (show CntAt wz mb2 (fun u => (unt G P O u : Int) - (if u ∈ ps.take (j + 1) then 1 else 0)) (n9 + 1) from HZC.out.congr (fun u hu => by
                    rw [HTJ.out]
                    unfold updF
                    by_cases hu : u = y
                    · subst hu
                      rw [if_pos rfl, HC1.out, HCY2.out]; simp
                    · rw [if_neg hu, HF9.out]
                      simp [hu]))
                  have HRJ32 := Lib.hid (show ∀ z ∈ RE ++ (ps.take j).filter (fun p => decide (unt G P O p = 1)), z.length = 32 from fun z hz => by
                    rcases List.mem_append.1 hz with h | h
                    · exact HE32.out z h
                    · obtain ⟨_, _, he, _, _, hi, _⟩ := HSL3.out
                      exact hi.1 z (List.mem_of_mem_take (List.mem_filter.1 h).1))
                  have HRJL := Lib.hid (show (RE ++ (ps.take j).filter (fun p => decide (unt G P O p = 1))).length ≤ 500 from by
                    have h1 := List.length_filter_le (fun p => decide (unt G P O p = 1)) (ps.take j)
                    rw [List.length_take] at h1
                    have := HREL.out
                    rw [List.length_append]; omega)
                  have HFT := Lib.hid (show RE ++ (ps.take (j + 1)).filter (fun p => decide (unt G P O p = 1)) = (RE ++ (ps.take j).filter (fun p => decide (unt G P O p = 1))) ++ (if unt G P O y = 1 then [y] else []) from by
                    rw [HTJ.out, List.filter_append]
                    by_cases h : unt G P O y = 1 <;> simp [h])
                  obtain ⟨RJ, hRJ⟩ : ∃ RJ, RJ = RE ++ (ps.take j).filter (fun p => decide (unt G P O p = 1)) := ⟨_, rfl⟩
                  rw [← hRJ] at HRZ HRJ32 HRJL HFT
                  clear hzs hqs hzk hbl9 hRJ
                  generalize vs 6 = zz6 at *
                  by_cases hc0 : c1 = 0
                  · subst hc0
                    have HU1 := Lib.hid (show unt G P O y = 1 from by have := HCY2.out; have := HC1.out; omega)
                    obtain ⟨a4, c4, rfl, p1, p2, p3, p4⟩ := SlI_row HRJ32.out HRZ.out
                    unfold maxLen at p2
                    have hbn := (Below.refl wz.heap.size wz).alloc (Nat.le_refl _) (.cells (idB y) 24)
                    have HNEW2 := Lib.hid (one_new (w := wz) HY32.out)
                    have HRN2 := Lib.hid (rowI_st _ _ _ _ _ HRZ.out hbn)
                    have HBN2 := Lib.hid hbn
                    have HC2 := Lib.hid (show RJ.length + [y].length ≤ 4000000 by have := HRJL.out; simp only [List.length_cons, List.length_nil]; omega)
                    have HBASE2 := Lib.hid (show wB.heap.size ≤ (wz.alloc (.cells (idB y) 24)).heap.size by have := HBSZ.out; simp; omega)
                    clear hbn p3 p4
                    go_wp2_with (at_builtin; refine wpList_app_id rfl _ _ rfl wB.heap.size _ RJ [y] rfl HRN2.out _ 1 rfl HNEW2.out HC2.out HBASE2.out ?_)
                    rintro v5' w5 hr5 hg5 hb5
                    have HR5 := Lib.hid hr5
                    have HG5 := Lib.hid hg5
                    have HB5 := Lib.hid hb5
                    clear hr5 hg5 hb5 d1 d2 n1
                    go_wp2
                    have hown : ∀ k, (Value.slice a4 RJ.length c4).ownBlock = some k → wB.heap.size ≤ k ∧ k < wz.heap.size := fun k hk => ⟨(rowI_lt HRZ.out hk).2.1, (rowI_lt HRZ.out hk).1⟩
                    have hk5 : ∀ k, k < wz.heap.size → (Value.slice a4 RJ.length c4).ownBlock ≠ some k → w5.heap[k]? = wz.heap[k]? := fun k hk hn => (HG5.out.block k (by simp; omega) (fun h => hn h.symm)).trans (HBN2.out.block k hk)
                    have hs5 : wz.heap.size ≤ w5.heap.size := by have := HG5.out.size; simp at this; omega
                    have hmz : mb2 < wz.heap.size := HZC.out.lt
                    go_roundg (gk - 1)
                    case measure => have := HGJ.out; have := HJL.out; omega
                    case rel =>
                      refine ⟨j + 1, n9 + 1, by have := HGJ.out; have := HJL.out; omega, by go_num, by rw [HFT.out, if_pos HU1.out]; exact HR5.out, rowI_same HR15Z.out (fun k hk => hk5 k (rowI_lt HR15Z.out hk).1 (fun h => HDJ.out k h hk)), ?_, HNEXT.out.same (hk5 mb2 hmz (fun h => by have := (hown mb2 h).1; have := HMBL.out; omega)), by have := HNN'.out; have := HN9.out; omega, HZB.out.trans ⟨HG5.out.os, HG5.out.tape, HG5.out.output, hs5, fun k hk => hk5 k (by have := HZB.out.size; omega) (fun h => by have := (hown k h).1; have := HBW.out.size; omega)⟩, by have := HBSZ.out; omega⟩
                      intro k hk
                      rcases HB5.out with h | h
                      · exact HDJ.out k (by rw [← h]; exact hk)
                      · rw [h] at hk
                        have hk' := Option.some.inj hk
                        try simp at hk'
                        intro h'
                        have := (rowI_lt HR15Z.out h').1
                        omega
                  · have hu1 : ¬ unt G P O y = 1 := fun h => by have := HCY2.out; have := HC1.out; omega
                    have HU1 := Lib.hid hu1
                    clear hu1
                    go_wp2
                    go_roundg (gk - 1)
                    case measure => have := HGJ.out; have := HJL.out; omega
                    case rel => exact ⟨j + 1, n9 + 1, by have := HGJ.out; have := HJL.out; omega, by go_num, by rw [HFT.out, if_neg HU1.out, List.append_nil]; exact HRZ.out, HR15Z.out, HDJ.out, HNEXT.out, by have := HNN'.out; have := HN9.out; omega, HZB.out, HBSZ.out⟩
                · have HJE := Lib.hid (show j = ps.length by have := HGJ.out; omega)
                  have HN1 := Lib.hid (show n + 1 ≤ P.length by
                    have h9 := nodup_len _ _ HST.out.2.nd HST.out.2.sub
                    rw [logN_len] at h9; exact h9)
                  go_wp2
                  go_roundg (P.length - (n + 1))
                  case measure => have := HG.out; have := HN1.out; omega
                  case rel =>
                    have hrj := HRJ.out
                    rw [HJE.out, List.take_length, HRE.out, HPS.out] at hrj
                    refine ⟨n + 1, nn', _, by have := HN1.out; omega, hrj, by rw [HST.out.1]; exact HR15J.out, HDJ.out, HCN'.out.congr (fun u hu => ?_), by have := HNN'.out; have := HJE.out; omega, by rw [HST.out.1]; exact HSTEP.out a HAE.out, HST.out.2, HBW'.out, HBSJ.out⟩
                    rw [HST.out.1, unt_step (strict_nodup HPS0.out) HIB.out.mem (candB_unt.1 HIB.out.cand).1 u, HJE.out, List.take_length, HPS.out]
                    by_cases h : u ∈ parsOf G a <;> simp [h]
end Go.Proofs.Ytmmmimkikakalaa
