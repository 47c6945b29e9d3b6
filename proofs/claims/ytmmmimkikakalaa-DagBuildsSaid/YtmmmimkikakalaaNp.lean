/- The iterator over a node's past: walk. -/
import Derived.Test.YtmmmimkikakalaaNo
namespace Go.Proofs.Ytmmmimkikakalaa
open Go.RowKit Go.Maps Go.ChangeMaps
set_option linter.unusedVariables false
attribute [local go_sem] Oper.semAt_some
attribute [local go_sem ↓] semAt_run

set_option maxHeartbeats 1000000 in
set_option maxRecDepth 100000 in
theorem back_any (g : Option Addr) (x : List UInt8) (w : World) : Calls Try.prog 40 #[.pointer g, .agg (idB x)] w fun e w' =>
    e = .returned (.func (.func 53) #[] #[.pointer (some ⟨w.heap.size + 1, 0, none⟩), .pointer (some ⟨w.heap.size, 0, none⟩)]) ∧ w' = (w.alloc (.cells #[.pointer g] 26)).alloc (.cells (idB x) 24) := by
  go_enter Try.func40, Try.ntmps40
  go_wp2
  go_ret
  exact ⟨by simp, rfl⟩

theorem i64_wf {c : Int} (h1 : -1000000 ≤ c) (h2 : c ≤ 1000000) : (Lit.int .i64 c).wf = true := by
  have e1 : IntKind.i64.min = -9223372036854775808 := by decide
  have e2 : IntKind.i64.max = 9223372036854775807 := by decide
  show (decide (IntKind.i64.min ≤ c) && decide (c ≤ IntKind.i64.max)) = true
  rw [e1, e2, Bool.and_eq_true]
  exact ⟨decide_eq_true (by omega), decide_eq_true (by omega)⟩

/-- What the walk through a past has come to: what has come, what waits, how often each was met. -/
structure BackI (G : List GN) (x : List UInt8) (X Wt : List (List UInt8)) (f : List UInt8 → Int) (m : Nat) : Prop where
  nd : (X ++ Wt).Nodup
  anc : ∀ y ∈ X ++ Wt, Anc G x y
  here : x ∈ X ++ Wt
  pos : ∀ y : List UInt8, y.length = 32 → 0 ≤ f y ∧ f y ≤ 1 + m
  seen : ∀ y : List UInt8, y.length = 32 → (f y ≠ 0 ↔ y ∈ X ++ Wt)

theorem BackI.take {G : List GN} {x a : List UInt8} {X Wt : List (List UInt8)} {f : List UInt8 → Int} {m : Nat} (h : BackI G x X (Wt ++ [a]) f m) : BackI G x (X ++ [a]) Wt f m := by
  have hp : (X ++ (Wt ++ [a])).Perm ((X ++ [a]) ++ Wt) := by
    rw [List.append_assoc]
    exact List.Perm.append_left X List.perm_append_comm
  exact ⟨hp.nodup_iff.1 h.nd, fun y hy => h.anc y (hp.mem_iff.2 hy), hp.mem_iff.1 h.here, h.pos, fun y hy => (h.seen y hy).trans hp.mem_iff⟩
theorem BackI.again {G : List GN} {x p : List UInt8} {X Wt : List (List UInt8)} {f : List UInt8 → Int} {m : Nat} (h : BackI G x X Wt f m) (hp : p.length = 32) (h0 : f p ≠ 0) : BackI G x X Wt (updF f p (f p + 1)) (m + 1) := by
  have hm := (h.seen p hp).1 h0
  have h1 := h.pos p hp
  refine ⟨h.nd, h.anc, h.here, fun y hy => ?_, fun y hy => ?_⟩
  · have := h.pos y hy
    unfold updF; split <;> constructor <;> omega
  · unfold updF; split
    · next e => subst e; exact ⟨fun _ => hm, fun _ => by omega⟩
    · exact h.seen y hy
theorem BackI.new {G : List GN} {x p : List UInt8} {X Wt : List (List UInt8)} {f : List UInt8 → Int} {m : Nat} (h : BackI G x X Wt f m) (hp : p.length = 32) (h0 : f p = 0) (ha : Anc G x p) : BackI G x X (Wt ++ [p]) (updF f p (f p + 1)) (m + 1) := by
  have hm : ¬ p ∈ X ++ Wt := fun hm => (h.seen p hp).2 hm h0
  refine ⟨?_, ?_, ?_, fun y hy => ?_, fun y hy => ?_⟩
  · rw [← List.append_assoc]; exact nodup_snoc h.nd hm
  · intro y hy
    rw [← List.append_assoc] at hy
    rcases List.mem_append.1 hy with hy | hy
    · exact h.anc y hy
    · rw [List.mem_singleton.1 hy]; exact ha
  · rw [← List.append_assoc]; exact List.mem_append.2 (.inl h.here)
  · have := h.pos y hy
    unfold updF; split <;> constructor <;> omega
  · rw [← List.append_assoc, List.mem_append, List.mem_singleton]
    unfold updF; split
    · next e => subst e; exact ⟨fun _ => .inr rfl, fun _ => by omega⟩
    · next e => rw [h.seen y hy]; exact ⟨.inl, fun h => h.elim id (fun h => absurd h e)⟩
theorem BackI.mono {G : List GN} {x : List UInt8} {X Wt : List (List UInt8)} {f : List UInt8 → Int} {m m' : Nat} (h : BackI G x X Wt f m) (hm : m ≤ m') : BackI G x X Wt f m' :=
  ⟨h.nd, h.anc, h.here, fun y hy => by have := h.pos y hy; omega, h.seen⟩
theorem J_step {α : Type} {B : Nat} {J : List α → (Nat → Prop) → World → Prop} (h : Stays B J) {pre : List α} {U : Nat → Prop} {W W' : World} {k : Nat} (hj : J pre U W) (hg : W.grownBy W' (some k)) (hB : B ≤ k) (hk : ¬ U k) : J pre U W' :=
  h pre U W W' hj ⟨hg.os, hg.tape, hg.output, hg.size, fun i hi hn => hg.block i hi (fun e => by cases e; exact hn ⟨hB, hk⟩)⟩

set_option maxHeartbeats 8000000 in
set_option maxRecDepth 100000 in
theorem back1_any (Bi Bg gb mb : Nat) (G : List GN) (x : List UInt8) (w : World) (hlen : G.length ≤ 1000) (hwf : Wf G) (hn : isNode G x = true) (hBi : fits w ⟨Bi, 0, none⟩ 32 ∧ aggAt w ⟨Bi, 0, none⟩ 32 = idB x)
    (hBgl : Bg < w.heap.size) (hBg : w.cell? ⟨Bg, 0, none⟩ = some (.pointer (some ⟨gb, 0, none⟩))) (hG : GraphAt w gb mb G) :
    SeqO Try.prog 53 #[.pointer (some ⟨Bi, 0, none⟩), .pointer (some ⟨Bg, 0, none⟩)] encI (fun xs => (valsI xs).Nodup ∧ ∀ y, y ∈ valsI xs ↔ Anc G x y) (fun pre => ∀ y ∈ valsI pre, Anc G x y) G.length w := by
  intro n l J Jx W U hW hJ hU hY h0
  refine callsIn_wide.2 ?_
  have hx := isNode_len hwf hn
  have HX32 := Lib.hid hx
  have HWB := Lib.hid hW
  have HJ := Lib.hid hJ
  have HU := Lib.hid hU
  have HY := Lib.hid hY
  have H0 := Lib.hid h0
  have HWF := Lib.hid hwf
  have HN := Lib.hid hn
  have HLEN := Lib.hid hlen
  have HBI := Lib.hid hBi
  have HBG := Lib.hid hBg
  have HBGL := Lib.hid hBgl
  have HGA := Lib.hid hG
  have e1 := fits_below hW hBi.1
  have e2 := (agg_below hW hBi.1).trans hBi.2
  have hmm := @run_makeMap Try.prog
  have hm0 := CntAt.made W
  obtain ⟨W2, hup, hm1, hg1⟩ := hm0.update (by unfold maxLen; omega) hx (c := 1) (by decide)
  have hbw1 : Below W.heap.size W (W.alloc (.map #[] 0)) := (Below.refl _ _).alloc (Nat.le_refl _) _
  have hsz1 : (W.alloc (.map #[] 0)).heap.size = W.heap.size + 1 := by simp
  have hbw2 : Below W.heap.size W W2 := hbw1.trans ⟨hg1.os, hg1.tape, hg1.output, hg1.size, fun k hk => hg1.block k (by omega) (fun h => by have := Option.some.inj h; omega)⟩
  have hsz2 : W.heap.size + 1 ≤ W2.heap.size := by have := hg1.size; omega
  have e5 := fits_below hbw2 e1
  have e6 := (agg_below hbw2 e1).trans e2
  have HM1 := Lib.hid hm1
  have HBW2 := Lib.hid hbw2
  have HSZ2 := Lib.hid hsz2
  clear hJ hU hY h0 hn hBi hBg hG hW hwf hm0 hm1 hg1 hbw1 hbw2 hsz1 hsz2
  go_enter Try.func53, Try.ntmps53
  go_upto_region 0 with fail
  go_upto_region 1 with fail
  obtain ⟨mb2, hmb2⟩ : ∃ m, m = W.heap.size := ⟨_, rfl⟩
  have HMB := Lib.hid hmb2
  rw [← hmb2]
  rw [← hmb2] at HM1
  clear hmb2 hup e1 e2
  have hb3 := (Below.refl W2.heap.size W2).alloc (Nat.le_refl _) (.cells (idB x) 24)
  have HR0 := Lib.hid (row_one (w := W2) hx)
  have HB3 := Lib.hid hb3
  clear hb3
  go_wp2_with fail
  clear e5 e6
  go_loopg [5] G.length (fun g v5 wr => ∃ (xs : List Id32) (Wt : List (List UInt8)) (f : List UInt8 → Int) (nn : Nat) (V : Nat → Prop), g + xs.length = G.length ∧ rowI W.heap.size Wt v5 wr ∧ CntAt wr mb2 f nn ∧ nn ≤ 1 + 2 * xs.length ∧ BackI G x (valsI xs) Wt f (2 * xs.length) ∧ (∀ s ∈ valsI xs, ∀ p ∈ parsOf G s, p ∈ valsI xs ++ Wt) ∧ J xs V wr ∧ ¬ V mb2 ∧ (∀ k, v5.ownBlock = some k → ¬ V k ∧ k ≠ mb2) ∧ Below w.heap.size w wr ∧ W.heap.size ≤ wr.heap.size)
  case atStart =>
    refine ⟨[], [x], updF (fun _ => 0) x 1, 1, U, by simp, ownsRow_base HR0.out (by have := HSZ2.out; omega), HM1.out.same (HB3.out.block mb2 (by have := HSZ2.out; have := HMB.out; omega)), by simp, ⟨by simp [valsI], ?_, by simp [valsI], ?_, ?_⟩, by simp [valsI], ?_, ?_, ?_, ?_, ?_⟩
    · intro y hy
      simp [valsI] at hy; subst hy; exact .refl y
    · intro y hy
      unfold updF; split <;> simp
    · intro y hy
      unfold updF; simp [valsI]
    · exact HJ.out [] U W _ H0.out (.of_below (HBW2.out.trans (HB3.out.mono HBW2.out.size)) _)
    · intro h; have := (HU.out [] U W H0.out _ h).1; have := HMB.out; omega
    · intro k hk
      simp only [Value.ownBlock, Option.some.injEq] at hk
      subst hk
      refine ⟨fun h => ?_, ?_⟩
      · have := (HU.out [] U W H0.out _ h).1; have := HSZ2.out; omega
      · have := HSZ2.out; have := HMB.out; omega
    · exact (HWB.out.trans (HBW2.out.mono HWB.out.size)).trans (HB3.out.mono (by have := HWB.out.size; have := HSZ2.out; omega))
    · have := HSZ2.out; simp; omega
  case round =>
    obtain ⟨xs, Wt, f, nn, V, hg, hrow, hcnt, hnn, hbi, hcl, hj, hv, hvo, hbw, hws⟩ := hrel
    have HG := Lib.hid hg
    have HR := Lib.hid hrow
    have HCN0 := Lib.hid hcnt
    have HNN := Lib.hid hnn
    have HBI := Lib.hid hbi
    have HCL := Lib.hid hcl
    have HJS := Lib.hid hj
    have HV := Lib.hid hv
    have HVO := Lib.hid hvo
    have HBW := Lib.hid hbw
    have HWS := Lib.hid hws
    have HNO := Lib.hid (show ∀ y ∈ valsI xs ++ Wt, isNode G y = true from fun y hy => (hbi.anc y hy).node HWF.out HN.out)
    have HLX := Lib.hid (show (valsI xs ++ Wt).length ≤ G.length from nodes_len hbi.nd HNO.out)
    have H32 := Lib.hid (show ∀ y ∈ Wt, y.length = 32 from fun y hy => isNode_len HWF.out (HNO.out y (List.mem_append.2 (.inr hy))))
    clear hg hrow hcnt hnn hbi hcl hj hv hvo hbw hws
    rcases List.eq_nil_or_concat Wt with hWt | ⟨Wt0, a, hWt⟩
    · obtain ⟨a2, c2, rfl, p1, p2, p3, p4⟩ := SlI_row H32.out HR.out
      have i0 : ¬ (0 : Int) < Wt.length := by rw [hWt]; simp
      have HE := Lib.hid hWt
      clear hWt p1 p2 p3 p4
      go_wp2
      go_end0
      have hval : valsI xs ++ Wt = valsI xs := by rw [HE.out]; simp
      refine ⟨⟨_, rfl⟩, .inl ⟨xs, ⟨by have := HBI.out.nd; rwa [hval] at this, fun y => ⟨fun h => HBI.out.anc y (by rw [hval]; exact h), fun h => ?_⟩⟩, V, HJS.out⟩⟩
      have := h.closed (S := valsI xs) (fun s hs p hp => by have := HCL.out s hs p hp; rwa [hval] at this) (by have := HBI.out.here; rwa [hval] at this)
      exact this
    · obtain ⟨gw, cap, rfl, p1, p2⟩ := row_some (by rw [hWt]; simp) HR.out
      have hn0 : Wt0.length < Wt.length := by rw [hWt]; simp
      obtain ⟨e1, e2⟩ := rowI_at H32.out hn0 HR.out
      have hga : Wt.getD Wt0.length [] = a := by rw [hWt]; simp
      rw [hga] at e2
      have ha32 : a.length = 32 := H32.out a (by rw [hWt]; simp)
      have HPOP := Lib.hid (rowI_pop (O := Wt0) (x := a) (fun z hz => H32.out z (by rw [hWt]; simp [hz])) (by have := HR.out; rw [hWt, List.concat_eq_append] at this; exact this))
      have hsl := slice30_to (g := gw) (l := Wt.length) (c := cap) (n := Wt0.length) (by omega) p1 (by omega)
      have HWT := Lib.hid (show Wt = Wt0 ++ [a] by rw [hWt, List.concat_eq_append])
      have hsub : (Wt.length : Int) - 1 = (Wt0.length : Int) := by rw [hWt]; simp
      have i0 : (0 : Int) < Wt.length := by omega
      have i1 : (Wt0.length : Int) < Wt.length := by omega
      have hb1000 : Wt.length ≤ 1000 := by have h9 := HLX.out; have := HLEN.out; rw [List.length_append] at h9; omega
      have q7 := e1.lt
      simp only at q7
      have HA32 := Lib.hid ha32
      have hidA := idOk_agg a ha32
      clear hWt hga hn0
      go_upto_region 5 with fail
      have hbn := (Below.refl wr.heap.size wr).alloc (Nat.le_refl _) (.cells (idB a) 24)
      have hj3 : J xs V (wr.alloc (.cells (idB a) 24)) := HJ.out xs V wr _ HJS.out (.of_below hbn _)
      obtain ⟨fn, tmps, assign, body, hy, hR⟩ := HY.out xs ⟨a, ha32⟩ _ V hj3 (by have h9 := HLX.out; rw [List.length_append] at h9; have : (valsI xs).length = xs.length := by simp [valsI]
                                                                                 omega)
      have f1 := fits_new wr (idB a) 24 32 (by rw [idB_size, ha32])
      have f2 := aggAt_new wr (idB a) 24 32 (by rw [idB_size, ha32])
      have HF1 := Lib.hid f1
      have HF2 := Lib.hid f2
      change (Instr.yield l #[.agg (idB a)]).run Try.prog _ = _ at hy
      have HBN := Lib.hid hbn
      have HVL := Lib.hid (fun k hk => (HU.out xs V wr HJS.out k hk))
      have HANC := Lib.hid (show Anc G x a from HBI.out.anc a (by rw [HWT.out]; simp))
      clear hbn hj3 e1 e2 hsl hidA
      refine (wpIn_wide (n := n + 1)).1 ?_
      gi_wp2
      refine hR.mono ?_
      clear hR hy f1 f2
      rintro e W3 (⟨rfl, V', hj3, ht3, hsub⟩ | ⟨rfl, V', hjx⟩)
      · have HB3' := Lib.hid hj3
        have HT3 := Lib.hid ht3
        have HSUB := Lib.hid hsub
        clear hj3 ht3 hsub
        gi_wp2
        go_upto_region 6 with fail
        have hbw3 : Below w.heap.size w W3 := (HBW.out.trans (HBN.out.mono HBW.out.size)).trans (HT3.out.below (fun k hk _ h => by have := (HVL.out k h).2; omega) (by have := HBW.out.size; simp; omega))
        have HBW3 := Lib.hid hbw3
        have hga3 := HGA.out.below hbw3
        obtain ⟨a', c', hsl3, hlk3⟩ := look_node HGA.out (x := a) (HANC.out.node HWF.out HN.out)
        have HSL3 := Lib.hid hsl3
        have g1 : W3.cell? ⟨Bg, 0, none⟩ = some (.pointer (some ⟨gb, 0, none⟩)) := (hbw3.cell (p := ⟨Bg, 0, none⟩) HBGL.out).trans HBG.out
        have g2 := hga3.cell
        have hblk : W3.heap[wr.heap.size]? = (wr.alloc (.cells (idB a) 24)).heap[wr.heap.size]? := HT3.out.block _ (by simp) (fun h => by have := (HVL.out _ h).1; omega)
        have g3 := fits_of_block (a := ⟨wr.heap.size, 0, none⟩) hblk HF1.out
        have g4 := (aggAt_of_block (a := ⟨wr.heap.size, 0, none⟩) (n := 32) hblk).trans HF2.out
        have g5 := fun X => hlk3 (ov W3 X) (hbw3.trans ((ov_below W3 X).mono hbw3.size))
        have g6 : Bg < W3.heap.size := Nat.lt_of_lt_of_le HBGL.out hbw3.size
        have g7 : gb < W3.heap.size := hga3.lt
        have g8 : wr.heap.size < W3.heap.size := g3.lt
        obtain ⟨ps, hps⟩ : ∃ ps, ps = parsOf G a := ⟨_, rfl⟩
        have HPS := Lib.hid hps
        have HPA := Lib.hid (pars_len HWF.out a)
        have HPN := Lib.hid (pars_nodup HWF.out a)
        rw [← hps] at g5 HSL3 HPA HPN
        generalize stampOf G a = st' at *
        change ∀ X, Sem.run Try.prog (Instr.lookup 59 (Value.map (some mb)) (Value.agg (idB a)) false) (ov W3 X) = Result.ok (.agg #[.slice a' ps.length c', .int .i64 st']) (ov W3 X) at g5
        clear hbw3 hga3 hsl3 hlk3 hblk hps
        refine wp_region_over (by kernel_rfl) (by kernel_rfl) ?_
        repeat (go_big_quiet_step (fail))
        refine wpQuiet_nil ?_
        rintro _ ⟨z0, rfl⟩
        have HBZ := Lib.hid (HBW3.out.trans ((ov_below W3 z0).mono HBW3.out.size))
        have HW3Z := Lib.hid (ov_below W3 z0)
        obtain ⟨W4, hW4⟩ : ∃ W4, W4 = ov W3 z0 := ⟨_, rfl⟩
        rw [← hW4] at HBZ HW3Z ⊢
        clear g1 g2 g3 g4 g5 g6 g7 g8 hW4
        have hgwV := HVO.out gw rfl
        have hgwl : gw < wr.heap.size := (rowI_lt HR.out (k := gw) rfl).1
        have hmbl : mb2 < wr.heap.size := HCN0.out.lt
        have hkeep : ∀ k, k < wr.heap.size → ¬ V k → W4.heap[k]? = wr.heap[k]? := fun k hk hn => (HW3Z.out.block k (by have := HT3.out.size; simp at this; omega)).trans ((HT3.out.block k (by simp; omega) hn).trans (HBN.out.block k hk))
        have hV' : ∀ k, V' k → V k ∨ wr.heap.size + 1 ≤ k := fun k hk => by have := HSUB.out k hk; simpa using this
        have HR4 := Lib.hid (rowI_same HPOP.out (fun k hk => by simp only [Value.ownBlock, Option.some.injEq] at hk; subst hk; exact hkeep _ hgwl hgwV.1))
        have HC4 := Lib.hid (HCN0.out.same (hkeep mb2 hmbl HV.out))
        have HJ4 := Lib.hid (HJ.out _ V' W3 W4 HB3'.out (.of_below HW3Z.out _))
        have HBI4 := Lib.hid (show BackI G x (valsI xs ++ [a]) Wt0 f (2 * xs.length) from BackI.take (by rw [← HWT.out]; exact HBI.out))
        have HV4 := Lib.hid (show ¬ V' mb2 from fun h => by rcases hV' _ h with h | h; exact HV.out h; omega)
        have HO4 := Lib.hid (show ¬ V' gw ∧ gw ≠ mb2 from ⟨fun h => by rcases hV' _ h with h | h; exact hgwV.1 h; omega, hgwV.2⟩)
        have HS4 := Lib.hid (show W.heap.size ≤ W4.heap.size from by have := HWS.out; have := HT3.out.size; have := HW3Z.out.size; simp at *; omega)
        clear hgwV hgwl hmbl hkeep hV'
        have hps2 : ps.length ≤ 2 := HPA.out
        go_wp2_with fail
        go_loopg [5, 40] ps.length (fun g v5 v40 wr4 => ∃ (j : Nat) (Wt' : List (List UInt8)) (f' : List UInt8 → Int) (nn' : Nat), g + j = ps.length ∧ v40 = .int .i64 j ∧ rowI W.heap.size Wt' v5 wr4 ∧ CntAt wr4 mb2 f' nn' ∧ nn' ≤ 1 + 2 * xs.length + j ∧ BackI G x (valsI xs ++ [a]) Wt' f' (2 * xs.length + j) ∧ (∃ T, Wt' = Wt0 ++ T) ∧ (∀ i, i < j → ps.getD i [] ∈ (valsI xs ++ [a]) ++ Wt') ∧ J (xs ++ [⟨a, ha32⟩]) V' wr4 ∧ (∀ k, v5.ownBlock = some k → ¬ V' k ∧ k ≠ mb2) ∧ Below w.heap.size w wr4 ∧ W.heap.size ≤ wr4.heap.size)
        case atStart => exact ⟨0, Wt0, f, nn, by omega, rfl, HR4.out, HC4.out, by have := HNN.out; omega, HBI4.out, ⟨[], by simp⟩, fun i hi => by omega, HJ4.out, fun k hk => by simp only [Value.ownBlock, Option.some.injEq] at hk; subst hk; exact HO4.out, HBZ.out, HS4.out⟩
        case round =>
          obtain ⟨j, Wt', f', nn', hg, rfl, hrow, hcnt, hnn, hbi, hpre, hin, hj, hvo, hbw, hws⟩ := hrel
          have HG' := Lib.hid hg
          have HR' := Lib.hid hrow
          have HCN' := Lib.hid hcnt
          have HNN' := Lib.hid hnn
          have HBI' := Lib.hid hbi
          have HPRE := Lib.hid hpre
          have HIN := Lib.hid hin
          have HJ' := Lib.hid hj
          have HVO' := Lib.hid hvo
          have HBW' := Lib.hid hbw
          have HWS' := Lib.hid hws
          clear hg hrow hcnt hnn hbi hpre hin hj hvo hbw hws
          by_cases hj : j < ps.length
          · have HJL := Lib.hid hj
            have HSLR := Lib.hid (SlI_below HSL3.out HBW'.out)
            obtain ⟨a3, c3, he3, _, _, hi3, _⟩ := HSLR.out
            obtain ⟨rfl, _, rfl⟩ := Value.slice.inj he3
            rcases hi3.2 with h | ⟨b3, off3, rfl, hc3⟩
            · rw [h] at hj; simp at hj
            obtain ⟨e1, e2⟩ := hc3 j hj
            have hy32 := hi3.1 _ (getD_mem hj)
            have HYM := Lib.hid (getD_mem hj)
            obtain ⟨y, hy⟩ : ∃ y, y = ps.getD j [] := ⟨_, rfl⟩
            have HYE := Lib.hid hy
            rw [← hy] at e2 hy32 HYM
            have HY32 := Lib.hid hy32
            have hidY := idOk_agg y hy32
            have i1' : (j : Int) < ps.length := by omega
            have HANY := Lib.hid (show Anc G x y from HANC.out.par (by rw [← HPS.out]; exact HYM.out))
            clear hc3 hi3 hy he3
            go_upto_region 9 with fail
            clear e1 e2 hidY
            obtain ⟨wq, hwq⟩ : ∃ wq, wq = wr.alloc (.cells (idB y) 24) := ⟨_, rfl⟩
            obtain ⟨by_, hby⟩ : ∃ b, b = wr.heap.size := ⟨_, rfl⟩
            have hbq : Below wr.heap.size wr wq := by rw [hwq]; exact (Below.refl _ _).alloc (Nat.le_refl _) _
            have HBQ := Lib.hid hbq
            have HFY := Lib.hid (show fits wq ⟨by_, 0, none⟩ 32 ∧ aggAt wq ⟨by_, 0, none⟩ 32 = idB y from by rw [hwq, hby]; exact ⟨fits_new _ _ _ _ (by rw [idB_size, hy32]), aggAt_new _ _ _ _ (by rw [idB_size, hy32])⟩)
            have HNEY := Lib.hid (show by_ ≠ mb2 from by have := HCN'.out.lt; omega)
            have HBY := Lib.hid hby
            rw [← hwq, ← hby]
            have HCN := Lib.hid (HCN'.out.same (hbq.block mb2 HCN'.out.lt))
            obtain ⟨cy, hcy⟩ : ∃ c, c = f' y := ⟨_, rfl⟩
            obtain ⟨c1, hc1⟩ : ∃ c, c = cy + 1 := ⟨_, rfl⟩
            have hpos := HBI'.out.pos y hy32
            have hxl : xs.length ≤ 1000 := by have h9 := HLX.out; have := HLEN.out; rw [List.length_append] at h9; have : (valsI xs).length = xs.length := by simp [valsI]
                                              omega
            have hcyb : 0 ≤ cy ∧ cy ≤ 100000 := by rw [hcy]; omega
            have HCY := Lib.hid hcy
            have HC1 := Lib.hid hc1
            have HCW := Lib.hid (i64_wf (c := c1) (by omega) (by omega))
            have HCNE := Lib.hid (show c1 ≠ cy by omega)
            have HNL := Lib.hid (show nn' < maxLen by have := HNN'.out; unfold maxLen; omega)
            have HXL := Lib.hid hxl
            have HCYB := Lib.hid hcyb
            clear hwq hby hbq hcy hc1 hpos hxl
            obtain ⟨n9, hn9⟩ : ∃ n9, n9 = nn' := ⟨_, rfl⟩
            obtain ⟨f9, hf9⟩ : ∃ f9, f9 = f' := ⟨_, rfl⟩
            have HN9 := Lib.hid hn9
            have HF9 := Lib.hid hf9
            rw [← hn9, ← hf9] at HCN
            rw [← hn9] at HNL
            rw [← hf9] at HCY
            clear hn9 hf9
            obtain ⟨wd, hwd⟩ : ∃ wd, wd = wq.drew := ⟨_, rfl⟩
            have HCD := Lib.hid (show CntAt wd mb2 f9 n9 by rw [hwd]; exact HCN.out.same rfl)
            have HGD := Lib.hid (show wq.grownBy wd (some mb2) by rw [hwd]; exact ⟨rfl, rfl, rfl, Nat.le_refl _, fun _ _ _ => rfl⟩)
            obtain ⟨v0, st, o1, hen, ho1, hst⟩ := HCD.out.entry HNL.out HY32.out
            have HEN := Lib.hid hen
            have HO1 := Lib.hid ho1
            have HST := Lib.hid hst
            have HBD := Lib.hid (show (setBlock wd mb2 o1).heap[mb2]? = some o1 by obtain ⟨D, ⟨es, clock, hb, _⟩, _⟩ := HCD.out; exact setBlock_same hb)
            have HSB := Lib.hid (fun (wx : World) (o2 : Obj) (hx : wx.heap[mb2]? = some o1) => (show (setBlock wx mb2 o2).heap[mb2]? = some o2 ∧ wx.grownBy (setBlock wx mb2 o2) (some mb2) from setBlock_any (HO1.out wx hx)))
            have HWD := Lib.hid hwd
            have HWG := Lib.hid (show ∀ o, wd.grownBy (setBlock wd mb2 o) (some mb2) from fun o => (setBlock_any HCD.out).2)
            clear hen ho1 hst hwd
            refine wp_region_specs2 [[], [], [0, 1], [2], [0, 1], [4], [0, 1, 2, 3, 4, 5]] [some 44, some 45, some 46, some 47, some 48, some 49, none] [0, 1, 2, 3, 4, 5, 6]
              (fun w_ => wq.grownBy w_ (some mb2))
              (fun i w_ => (i = 2 → CntAt w_ mb2 f9 (n9 + 1)) ∧ (i = 4 → w_ = wd) ∧ (i = 6 → (w_ = wd ∨ w_.heap[mb2]? = some o1)))
              (fun j w_ w_' => (j = 4 → w_'.heap[mb2]? = some o1 ∧ w_.grownBy w_' (some mb2)) ∧ (j = 6 → CntAt w_' mb2 (updF f9 y c1) (n9 + 1) ∧ w_.grownBy w_' (some mb2)) ∧ (j ≠ 4 → j ≠ 6 → w_' = w_))
              (fun ix_ => [eqv (.map (some mb2)), eqv (.agg (idB y)), eqv (.int .i64 cy), eqv (.int .i64 c1), fun v w_ => v = .tuple #[v0, goInt st] ∧ (w_.heap[mb2]? = some o1 ∨ CntAt w_ mb2 (updF f9 y c1) (n9 + 1)), eqv (goInt st), fun v w_ => CntAt w_ mb2 (updF f9 y c1) (n9 + 1)].getD ix_ anyv)
              (by kernel_rfl) (by kernel_rfl) ?_ ?_ ?_ ?_ ?_ ?_ ?_
            · rw [← HWD.out]; exact HGD.out
            · intro i
              rw [← HWD.out]
              exact ⟨fun _ => HCD.out.mono (Nat.le_succ _), fun _ => rfl, fun _ => .inl rfl⟩
            · intro j w_ w_' hg hr
              by_cases h4 : j = 4
              · exact grown_trans hg (hr.1 h4).2
              · by_cases h6 : j = 6
                · exact grown_trans hg (hr.2.1 h6).2
                · rw [hr.2.2 h4 h6]; exact hg
            · intro i j w_ w_' hij hd hp hr
              by_cases h4 : j = 4
              · subst h4
                exact ⟨fun _ => HO1.out _ (hr.1 rfl).1, fun h => absurd h hij, fun _ => .inr (hr.1 rfl).1⟩
              · by_cases h6 : j = 6
                · subst h6
                  have hd' : ¬ i ∈ [0, 1, 2, 3, 4, 5] := hd
                  simp only [List.mem_cons, List.not_mem_nil, or_false, not_or] at hd'
                  exact ⟨fun h => absurd h hd'.2.2.1, fun h => absurd h hd'.2.2.2.2.1, fun h => absurd h hij⟩
                · rw [hr.2.2 h4 h6]; exact hp
            · intro i j v w_ w_' hij hd h hr
              by_cases h4 : j = 4
              · subst h4
                match i, hij, hd, h with
                | 0, _, _, h => exact h
                | 1, _, _, h => exact h
                | 2, _, _, h => exact h
                | 3, _, _, h => exact h
                | 4, hij, _, h => exact absurd rfl hij
                | 5, _, hd, h => exact absurd (by decide) hd
                | 6, _, hd, h => exact absurd (by decide) hd
                | i + 7, _, _, h => exact trivial
              · by_cases h6 : j = 6
                · subst h6
                  match i, hij, hd, h with
                  | 0, _, _, h => exact h
                  | 1, _, _, h => exact h
                  | 2, _, _, h => exact h
                  | 3, _, _, h => exact h
                  | 4, _, _, h => exact ⟨h.1, .inr (hr.2.1 rfl).1⟩
                  | 5, _, _, h => exact h
                  | 6, hij, _, h => exact absurd rfl hij
                  | i + 7, _, _, h => exact trivial
                · rw [hr.2.2 h4 h6]; exact h
            · refine ⟨?_, ?_, ?_, ?_, ?_, ?_, ?_, trivial⟩
              · intro vs wx hG hP hd
                simp only [putL]
                clear hd hP hG
                go_wp2
                exact ⟨rfl, rfl, ⟨(fun h => by cases h), (fun h => by cases h), fun _ _ => rfl⟩, rfl⟩
              · intro vs wx hG hP hd
                have hbl := hG.block by_ HFY.out.1.lt (fun h => HNEY.out (Option.some.inj h))
                have n1 := fits_of_block (a := ⟨by_, 0, none⟩) hbl HFY.out.1
                have n2 := (aggAt_of_block (a := ⟨by_, 0, none⟩) (n := 32) hbl).trans HFY.out.2
                simp only [putL]
                clear hd hP hG hbl
                go_wp2
                exact ⟨rfl, rfl, ⟨(fun h => by cases h), (fun h => by cases h), fun _ _ => rfl⟩, rfl⟩
              · intro vs wx hG hP hd
                have h0 := hd.get 0 rfl
                change vs 0 = _ at h0
                have h1 := hd.get 1 rfl
                change vs 1 = _ at h1
                have n1 := (hP.1 rfl).look HY32.out
                rw [← HCY.out] at n1
                simp only [putL, h0, h1]
                clear hd hP hG h0 h1
                go_wp2
                exact ⟨rfl, rfl, ⟨(fun h => by cases h), (fun h => by cases h), fun _ _ => rfl⟩, rfl⟩
              · intro vs wx hG hP hd
                have h2 := hd.get 2 rfl
                change vs 2 = _ at h2
                simp only [putL, h2]
                clear hd hP hG h2
                go_wp2
                exact ⟨rfl, rfl, ⟨(fun h => by cases h), (fun h => by cases h), fun _ _ => rfl⟩, show Value.int .i64 (cy + 1) = Value.int .i64 c1 from by rw [HC1.out]⟩
              · intro vs wx hG hP hd
                have h0 := hd.get 0 rfl
                change vs 0 = _ at h0
                have h1 := hd.get 1 rfl
                change vs 1 = _ at h1
                have hwx : wx = wd := hP.2.1 rfl
                subst hwx
                have n1 := HEN.out
                change (Instr.mapEntry 68 (.map (some mb2)) (.agg (idB y))).run Try.prog _ = .ok (.tuple #[v0, .int .i64 (st : Int)]) _ at n1
                simp only [putL, h0, h1]
                clear hd hP hG h0 h1
                go_wp2
                exact ⟨rfl, rfl, ⟨fun _ => ⟨HBD.out, HWG.out _⟩, (fun h => by cases h), fun h => absurd rfl h⟩, rfl, .inl HBD.out⟩
              · intro vs wx hG hP hd
                have h4 := (hd.get 4 rfl).1
                change vs 4 = _ at h4
                simp only [putL, h4]
                clear hd hP hG h4
                go_wp2
                exact ⟨rfl, rfl, ⟨(fun h => by cases h), (fun h => by cases h), fun _ _ => rfl⟩, rfl⟩
              · intro vs wx hG hP hd
                have h0 := hd.get 0 rfl
                change vs 0 = _ at h0
                have h3 := hd.get 3 rfl
                change vs 3 = _ at h3
                have h5 := hd.get 5 rfl
                change vs 5 = _ at h5
                have hwx : wx.heap[mb2]? = some o1 := by
                  rcases hP.2.2 rfl with h | h
                  · rcases (hd.get 4 rfl).2 with h' | h'
                    · exact h'
                    · exfalso
                      subst h
                      have e1 := HCD.out.look HY32.out
                      have e2 := h'.look HY32.out
                      rw [e1] at e2
                      injection e2 with e2 _
                      injection e2 with _ e2
                      rw [← HCY.out] at e2
                      unfold updF at e2
                      rw [if_pos rfl] at e2
                      exact HCNE.out e2.symm
                  · exact h
                obtain ⟨o2, n1, hco⟩ := HST.out wx c1 HCW.out hwx
                change (Instr.entryStore 68 (.map (some mb2)) (.int .i64 (st : Int)) (.int .i64 c1)).run Try.prog wx = _ at n1
                obtain ⟨hs1, hs2⟩ := HSB.out wx o2 hwx
                have HS2 := Lib.hid hs2
                have HC2 := Lib.hid (hco _ hs1)
                simp only [putL, h0, h3, h5]
                clear hd hP hG h0 h3 h5 hwx hco hs1 hs2
                go_wp2
                exact ⟨rfl, rfl, ⟨(fun h => by cases h), fun _ => ⟨HC2.out, HS2.out⟩, fun _ h => absurd rfl h⟩, HC2.out⟩
            intro vs wz hG hd
            have h0 := hd.get 0 rfl
            change vs 0 = _ at h0
            have h1 := hd.get 1 rfl
            change vs 1 = _ at h1
            have h2 := hd.get 2 rfl
            change vs 2 = _ at h2
            have h3 := hd.get 3 rfl
            change vs 3 = _ at h3
            have h4 := (hd.get 4 rfl).1
            change vs 4 = _ at h4
            have h5 := hd.get 5 rfl
            change vs 5 = _ at h5
            have HZC := Lib.hid (show CntAt wz mb2 (updF f9 y c1) (n9 + 1) from hd.get 6 rfl)
            have HZG := Lib.hid hG
            simp only [putL, List.getD_cons_zero, List.getD_cons_succ, Act.put, List.setIfInBounds_toArray, List.set_cons_zero, List.set_cons_succ, h0, h1, h2, h3, h4, h5]
            clear hd hG h0 h1 h2 h3 h4 h5 HCD HGD HEN HO1 HST HBD HSB HWD HWG
            have hzs : wq.heap.size ≤ wz.heap.size := HZG.out.size
            have hqs : wr.heap.size ≤ wq.heap.size := HBQ.out.size
            have hzk : ∀ k, k < wr.heap.size → k ≠ mb2 → wz.heap[k]? = wr.heap[k]? := fun k hk hn => (HZG.out.block k (by omega) (fun h => hn (Option.some.inj h))).trans (HBQ.out.block k hk)
            have H32' := Lib.hid (show ∀ z ∈ Wt', z.length = 32 from fun z hz => isNode_len HWF.out ((HBI'.out.anc z (List.mem_append.2 (.inr hz))).node HWF.out HN.out))
            have hmbW : W.heap.size ≤ mb2 := by have := HMB.out; omega
            have HJZ := Lib.hid (J_step HJ.out (HJ.out _ V' wr wq HJ'.out (.of_below HBQ.out _)) HZG.out hmbW HV4.out)
            have HRZ := Lib.hid (rowI_same HR'.out (fun k hk => hzk k (rowI_lt HR'.out hk).1 (HVO'.out k hk).2))
            have HBZ2 := Lib.hid (show Below w.heap.size w wz from (HBW'.out.trans (HBQ.out.mono HBW'.out.size)).trans ⟨HZG.out.os, HZG.out.tape, HZG.out.output, hzs, fun k hk => HZG.out.block k (by have := HBW'.out.size; omega) (fun h => by have := Option.some.inj h; have := HWB.out.size; omega)⟩)
            have HWZ := Lib.hid (show W.heap.size ≤ wz.heap.size by have := HWS'.out; omega)
            have hbl9 := HZG.out.block by_ HFY.out.1.lt (fun h => HNEY.out (Option.some.inj h))
            have d1 := fits_of_block (a := ⟨by_, 0, none⟩) hbl9 HFY.out.1
            have d2 := (aggAt_of_block (a := ⟨by_, 0, none⟩) (n := 32) hbl9).trans HFY.out.2
            have n1 := HZC.out.look HY32.out
            rw [show updF f9 y c1 y = c1 from if_pos rfl] at n1
            have HF := Lib.hid (HF9.out)
            have HNL9 := Lib.hid (HN9.out)
            clear hzs hqs hzk hmbW hbl9
            generalize vs 6 = zz6 at *
            by_cases hc0 : cy = 0
            · obtain rfl : c1 = 1 := by rw [HC1.out, hc0]; rfl
              subst hc0
              obtain ⟨a2, c2, rfl, p1, p2, p3, p4⟩ := SlI_row H32'.out HRZ.out
              unfold maxLen at p2
              have hbn := (Below.refl wz.heap.size wz).alloc (Nat.le_refl _) (.cells (idB y) 24)
              have HNEW := Lib.hid (one_new (w := wz) HY32.out)
              have HRN := Lib.hid (rowI_st _ _ _ _ _ HRZ.out hbn)
              have HBN2 := Lib.hid hbn
              have HBNB := Lib.hid (HBZ2.out.trans (hbn.mono HBZ2.out.size))
              have HC := Lib.hid (show Wt'.length + [y].length ≤ 4000000 by
                have h9 : (valsI xs ++ [a] ++ Wt').length ≤ G.length := nodes_len HBI'.out.nd (fun z hz => (HBI'.out.anc z hz).node HWF.out HN.out)
                have := HLEN.out
                simp only [List.length_append, List.length_cons, List.length_nil] at h9 ⊢; omega)
              have HBASE := Lib.hid (show W.heap.size ≤ (wz.alloc (.cells (idB y) 24)).heap.size by have := HWZ.out; simp; omega)
              clear hbn p3 p4
              go_wp2_with (at_builtin; refine wpList_app_id rfl _ _ rfl W.heap.size _ Wt' [y] rfl HRN.out _ 1 rfl HNEW.out HC.out HBASE.out ?_)
              rintro v5' w5 hr5 hg5 hb5
              have HR5 := Lib.hid hr5
              have HG5 := Lib.hid hg5
              have HB5 := Lib.hid hb5
              clear hr5 hg5 hb5 d1 d2 n1
              go_wp2
              have hown : ∀ k, (Value.slice a2 Wt'.length c2).ownBlock = some k → W.heap.size ≤ k ∧ ¬ V' k ∧ k ≠ mb2 ∧ k < wz.heap.size := fun k hk => ⟨(rowI_lt HRZ.out hk).2.1, (HVO'.out k hk).1, (HVO'.out k hk).2, (rowI_lt HRZ.out hk).1⟩
              have hjn : J (xs ++ [⟨a, ha32⟩]) V' (wz.alloc (.cells (idB y) 24)) := HJ.out _ V' wz _ HJZ.out (.of_below HBN2.out _)
              have hj5 : J (xs ++ [⟨a, ha32⟩]) V' w5 := by
                cases ho : (Value.slice a2 Wt'.length c2).ownBlock with
                | none =>
                  rw [ho] at HG5
                  exact HJ.out _ V' _ w5 hjn ⟨HG5.out.os, HG5.out.tape, HG5.out.output, HG5.out.size, fun i hi _ => HG5.out.block i hi (fun h => by cases h)⟩
                | some k =>
                  have hk := hown k ho
                  rw [ho] at HG5
                  exact J_step HJ.out hjn HG5.out hk.1 hk.2.1
              have hvl : ∀ k, V' k → k < wz.heap.size := fun k hk => (HU.out _ _ _ HJZ.out k hk).1
              have hmz : mb2 < wz.heap.size := HZC.out.lt
              go_roundg (gk - 1)
              case measure => have := HG'.out; have := HJL.out; omega
              case rel =>
                refine ⟨j + 1, Wt' ++ [y], updF f9 y 1, n9 + 1, by have := HG'.out; have := HJL.out; omega, by go_num, HR5.out, HZC.out.same ((HG5.out.block mb2 (by simp; omega) (fun h => (hown mb2 h.symm).2.2.1 rfl)).trans (HBN2.out.block mb2 hmz)), by have := HNN'.out; have := HN9.out; omega, ?_, ?_, ?_, hj5, ?_, ?_, ?_⟩
                · have h0 : f' y = 0 := by have := HCY.out; rw [HF.out] at this; exact this.symm
                  have := HBI'.out.new HY32.out h0 HANY.out
                  rw [h0] at this
                  rw [HF.out]
                  exact this
                · obtain ⟨T, hT⟩ := HPRE.out; exact ⟨T ++ [y], by rw [hT]; simp⟩
                · intro i hi
                  rw [← List.append_assoc]
                  rcases Nat.lt_succ_iff_lt_or_eq.1 hi with h | rfl
                  · exact List.mem_append.2 (.inl (HIN.out i h))
                  · rw [← HYE.out]; simp
                · intro k hk
                  rcases HB5.out with h | h
                  · have := hown k (by rw [← h]; exact hk)
                    exact ⟨this.2.1, this.2.2.1⟩
                  · rw [h] at hk
                    have hk' := Option.some.inj hk
                    try simp at hk'
                    exact ⟨fun h => by have := hvl k h; omega, by omega⟩
                · refine HBNB.out.trans ⟨HG5.out.os, HG5.out.tape, HG5.out.output, HG5.out.size, fun k hk => HG5.out.block k (by have := HBNB.out.size; omega) (fun h => ?_)⟩
                  have := (hown k h.symm).1
                  have := HWB.out.size
                  omega
                · have := HG5.out.size; have := HWZ.out; simp at *; omega
            · have hc1 : ¬ c1 = 1 := by have := HC1.out; omega
              go_wp2
              go_roundg (gk - 1)
              case measure => have := HG'.out; have := HJL.out; omega
              case rel =>
                refine ⟨j + 1, Wt', updF f9 y c1, n9 + 1, by have := HG'.out; have := HJL.out; omega, by go_num, HRZ.out, HZC.out, by have := HNN'.out; have := HN9.out; omega, ?_, HPRE.out, ?_, HJZ.out, HVO'.out, HBZ2.out, HWZ.out⟩
                · have h0 : f' y ≠ 0 := by have := HCY.out; rw [HF.out] at this; omega
                  have := HBI'.out.again HY32.out h0
                  have h1 : c1 = f' y + 1 := by have := HCY.out; rw [HF.out] at this; have := HC1.out; omega
                  rw [HF.out, h1]
                  exact this
                · intro i hi
                  rcases Nat.lt_succ_iff_lt_or_eq.1 hi with h | rfl
                  · exact HIN.out i h
                  · rw [← HYE.out]
                    have h0 : f' y ≠ 0 := by have := HCY.out; rw [HF.out] at this; omega
                    exact (HBI'.out.seen y HY32.out).1 h0
          · have HJE := Lib.hid (show j = ps.length by have := HG'.out; omega)
            have HXL := Lib.hid (show (valsI xs ++ [a]).length ≤ G.length from nodes_len (List.nodup_append.1 HBI'.out.nd).1 (fun z hz => (HBI'.out.anc z (List.mem_append.2 (.inl hz))).node HWF.out HN.out))
            have HXL2 := Lib.hid (show (valsI xs).length = xs.length by simp [valsI])
            go_wp2
            go_roundg (G.length - (xs.length + 1))
            case measure => have := HG.out; have := HXL.out; have := HXL2.out; simp only [List.length_append, List.length_cons, List.length_nil] at *; omega
            case rel =>
              refine ⟨xs ++ [⟨a, ha32⟩], Wt', f', nn', V', by have := HXL.out; have := HXL2.out; simp only [List.length_append, List.length_cons, List.length_nil] at *; omega, HR'.out, HCN'.out, ?_, ?_, ?_, HJ'.out, HV4.out, HVO'.out, HBW'.out, HWS'.out⟩
              · have := HNN'.out; have := HJE.out; simp only [List.length_append, List.length_cons, List.length_nil]; omega
              · rw [valsI_snoc]
                exact HBI'.out.mono (by have := HJE.out; simp only [List.length_append, List.length_cons, List.length_nil]; omega)
              · intro s hs p hp
                rw [valsI_snoc] at hs ⊢
                obtain ⟨T, hT⟩ := HPRE.out
                rcases List.mem_append.1 hs with hs | hs
                · have h1 := HCL.out s hs p hp
                  rw [HWT.out] at h1
                  rw [hT]
                  simp only [List.mem_append, List.mem_singleton] at h1 ⊢
                  rcases h1 with h | h | h
                  · exact .inl (.inl h)
                  · exact .inr (.inl h)
                  · exact .inl (.inr h)
                · rw [List.mem_singleton.1 hs, ← HPS.out] at hp
                  obtain ⟨i, hi, rfl⟩ := List.getElem_of_mem hp
                  have := HIN.out i (by rw [HJE.out]; exact hi)
                  rwa [getD_at hi] at this
      · have HJX := Lib.hid hjx
        clear hjx
        gi_wp2
        go_wp2
        refine bodyPost_ret (results_none rfl _ _ _) rfl ?_
        refine ⟨⟨_, rfl⟩, .inr ⟨_, V', ?_, HJX.out⟩⟩
        intro y hy
        rw [valsI_snoc] at hy
        rcases List.mem_append.1 hy with hy | hy
        · exact HBI.out.anc y (List.mem_append.2 (.inl hy))
        · rw [List.mem_singleton.1 hy]; exact HANC.out
end Go.Proofs.Ytmmmimkikakalaa
