/- Bases. -/
import Derived.Test.YtmmmimkikakalaaNr
namespace Go.Proofs.Ytmmmimkikakalaa
open Go.RowKit Go.Maps
set_option linter.unusedVariables false

theorem wpList_app_any {w : World} {ops : Array Oper} {rest : List Oper} {o : Oper} {a : Act} {Q : Exit → Act → World → Prop} (hgd : o.guard = none) (s x : Operand)
    (ho : o.op = .call { callee := .builtin .append, args := #[s, x], argTypes := #[30, 30] })
    (base : Nat) (v : Value) (O A : List (List UInt8)) (hs : a.eval s = v) (hown : rowI base O v w)
    (ad : Option Addr) (cap : Nat) (hx : a.eval x = .slice ad A.length cap) (hA : IdsIn w ad A) (hn : ad = none → A = [] ∧ cap = 0) (hlen : O.length + A.length ≤ 4000000) (hbase : base ≤ w.heap.size)
    (h : ∀ v' w', rowI base (O ++ A) v' w' → w.grownBy w' v.ownBlock → (v'.ownBlock = v.ownBlock ∨ v'.ownBlock = some w.heap.size) → wpList Try.prog ops Q rest (a.put o.dst v') w') : wpList Try.prog ops Q (o :: rest) a w := by
  cases ad with
  | some ad => exact wpList_app_id hgd s x ho base v O A hs hown ad cap hx hA hlen hbase h
  | none =>
    obtain ⟨rfl, rfl⟩ := hn rfl
    have hi := info23
    cases hq : Try.prog.info? 24 with
    | none => rw [hq] at hi; cases hi
    | some i =>
      refine wpList_append_own_none hgd s x 30 ho base 24 i 32 Try.underlying30 hq v O.length (idsC O) hs hown hx ?_
      exact h v w (by simpa using hown) ⟨rfl, rfl, rfl, Nat.le_refl _, fun _ _ _ => rfl⟩ (.inl rfl)

theorem flat_len {f : List UInt8 → List (List UInt8)} (hf : ∀ y, (f y).length ≤ 2) : ∀ {k : Nat} (l : List (List UInt8)), l.length ≤ k → (l.map f).flatten.length ≤ 2 * k
  | _, [], _ => by simp
  | 0, y :: l, h => by simp at h
  | k + 1, y :: l, h => by
    have := flat_len hf (k := k) l (by simpa using h)
    have := hf y
    rw [List.map_cons, List.flatten_cons, List.length_append]
    omega
/-- The bases, by the parents of what is common. -/
theorem basesL_pars {G : List GN} (hG : Wf G) {a b : List UInt8} (ha : isNode G a = true) (hb : isNode G b = true) :
    setL ((commonL G a b).filter fun z => !decide (z ∈ ((commonL G a b).map (parsOf G)).flatten)) = basesL G a b := by
  unfold basesL
  refine setL_congr (fun x => ?_)
  rw [List.mem_filter, List.mem_filter]
  refine and_congr_right fun hx => ?_
  have hxa := (pastL_mem hG ha).1 (commonL_mem.1 hx).1
  rw [List.all_eq_true]
  simp only [Bool.not_eq_true', decide_eq_false_iff_not, List.mem_flatten, List.mem_map, not_exists, not_and, Bool.or_eq_true, decide_eq_true_eq]
  constructor
  · intro h k hk
    by_cases he : k = x
    · exact .inl he
    · right
      cases hi : isR G x k with
      | false => rfl
      | true =>
        exfalso
        unfold isR at hi
        rw [Bool.and_eq_true, decide_eq_true_eq] at hi
        have hkn := hi.1
        have hka := (pastL_mem hG ha).1 (commonL_mem.1 hk).1
        have hkb := (pastL_mem hG hb).1 (commonL_mem.1 hk).2
        rcases ((pastL_mem hG hkn).1 hi.2).last with e | ⟨m, hm, hxm⟩
        · exact he e.symm
        · exact h _ ⟨m, commonL_mem.2 ⟨(pastL_mem hG ha).2 (hka.trans hm), (pastL_mem hG hb).2 (hkb.trans hm)⟩, rfl⟩ hxm
  · rintro h l ⟨k, hk, rfl⟩ hxk
    have hkn := pastL_node k (commonL_mem.1 hk).1
    have h1 := par_up hG hxk
    rcases h k hk with e | e
    · subst e; omega
    · have : isR G x k = true := by
        unfold isR
        rw [hkn, Bool.true_and, decide_eq_true_eq]
        exact (pastL_mem hG hkn).2 ((Anc.refl k).par hxk)
      rw [this] at e; cases e

set_option maxHeartbeats 2000000 in
set_option maxRecDepth 100000 in
theorem bases_nil (a b : List UInt8) (ha : a.length = 32) (hb : b.length = 32) (w : World) :
    Calls Try.prog 11 #[.pointer none, .agg (idB a), .agg (idB b)] w fun e w' => e = .returned (.tuple #[.slice none 0 0, .int .i64 1]) ∧ Below w.heap.size w w' := by
  obtain ⟨W, hW⟩ : ∃ W, W = (w.alloc (.cells (idB a) 24)).alloc (.cells (idB b) 24) := ⟨_, rfl⟩
  obtain ⟨b1, hb1⟩ : ∃ b, b = w.heap.size := ⟨_, rfl⟩
  obtain ⟨b2, hb2⟩ : ∃ b, b = w.heap.size + 1 := ⟨_, rfl⟩
  obtain ⟨hq, a1, a2, c1, c2⟩ := two_boxes w a b ha hb W hW b1 hb1 b2 hb2
  have hbW1 := (Below.refl W.heap.size W).alloc (Nat.le_refl _) (.cells (idsC [a, b]).toArray 24)
  have HQ := Lib.hid (hq.trans (hbW1.mono hq.size))
  have hida := idOk_agg a ha
  have hidb := idOk_agg b hb
  clear hq hbW1
  go_enter Try.func11, Try.ntmps11
  go_upto_region 1 with fail
  rw [← hW, ← hb2, ← hb1]
  clear hW hb1 hb2
  go_wp2_with fail
  refine (known_nil _ _).mono ?_
  rintro e w2 ⟨rfl, hb2⟩
  have HB2 := Lib.hid (HQ.out.trans (hb2.mono HQ.out.size))
  clear hb2 a1 a2 c1 c2
  go_wp2
  go_ret2
  exact ⟨rfl, HB2.out⟩
set_option maxHeartbeats 2000000 in
set_option maxRecDepth 100000 in
theorem bases_no (gb mb : Nat) (G : List GN) (a b : List UInt8) (ha : a.length = 32) (hb : b.length = 32) (w : World) (hG : GraphAt w gb mb G) (hn : (isNode G a && isNode G b) = false) :
    Calls Try.prog 11 #[.pointer (some ⟨gb, 0, none⟩), .agg (idB a), .agg (idB b)] w fun e w' => e = .returned (.tuple #[.slice none 0 0, .int .i64 12]) ∧ Below w.heap.size w w' := by
  obtain ⟨W, hW⟩ : ∃ W, W = (w.alloc (.cells (idB a) 24)).alloc (.cells (idB b) 24) := ⟨_, rfl⟩
  obtain ⟨b1, hb1⟩ : ∃ b, b = w.heap.size := ⟨_, rfl⟩
  obtain ⟨b2, hb2⟩ : ∃ b, b = w.heap.size + 1 := ⟨_, rfl⟩
  obtain ⟨hq, a1, a2, c1, c2⟩ := two_boxes w a b ha hb W hW b1 hb1 b2 hb2
  have hbW1 := (Below.refl W.heap.size W).alloc (Nat.le_refl _) (.cells (idsC [a, b]).toArray 24)
  have HKN := Lib.hid (known_any gb mb G (some ⟨W.heap.size, 0, none⟩) 2 [a, b] (W.alloc (.cells (idsC [a, b]).toArray 24)) (by simp) ((hG.below hq).below hbW1) (ids_new W [a, b] (by simp [ha, hb])))
  rw [show knownE G [a, b] = 12 by unfold knownE; rw [if_neg]; simpa using hn] at HKN
  have HQ := Lib.hid (hq.trans (hbW1.mono hq.size))
  have hida := idOk_agg a ha
  have hidb := idOk_agg b hb
  clear hq hbW1 hn hG
  go_enter Try.func11, Try.ntmps11
  go_upto_region 1 with fail
  rw [← hW, ← hb2, ← hb1]
  clear hW hb1 hb2
  go_wp2_with fail
  refine HKN.out.mono ?_
  rintro e w2 ⟨rfl, hb2⟩
  have HB2 := Lib.hid (HQ.out.trans (hb2.mono HQ.out.size))
  clear hb2 a1 a2 c1 c2
  go_wp2
  go_ret2
  exact ⟨rfl, HB2.out⟩

set_option maxHeartbeats 8000000 in
set_option maxRecDepth 100000 in
theorem bases_any (gb mb : Nat) (G : List GN) (a b : List UInt8) (w : World) (hlen : G.length ≤ 400) (hwf : Wf G) (hG : GraphAt w gb mb G) (hna : isNode G a = true) (hnb : isNode G b = true) :
    Calls Try.prog 11 #[.pointer (some ⟨gb, 0, none⟩), .agg (idB a), .agg (idB b)] w fun e w' => ∃ v, e = .returned (.tuple #[v, .int .i64 0]) ∧ rowI w.heap.size (basesL G a b) v w' ∧ Below w.heap.size w w' := by
  have HBL := Lib.hid (basesL_pars hwf hna hnb)
  obtain ⟨BL, hBL⟩ : ∃ BL, BL = basesL G a b := ⟨_, rfl⟩
  rw [← hBL] at HBL ⊢
  clear hBL
  have ha := isNode_len hwf hna
  have hb := isNode_len hwf hnb
  obtain ⟨W, hW⟩ : ∃ W, W = (w.alloc (.cells (idB a) 24)).alloc (.cells (idB b) 24) := ⟨_, rfl⟩
  obtain ⟨b1, hb1⟩ : ∃ b, b = w.heap.size := ⟨_, rfl⟩
  obtain ⟨b2, hb2⟩ : ∃ b, b = w.heap.size + 1 := ⟨_, rfl⟩
  obtain ⟨hq, a1, a2, c1, c2⟩ := two_boxes w a b ha hb W hW b1 hb1 b2 hb2
  have hbW1 := (Below.refl W.heap.size W).alloc (Nat.le_refl _) (.cells (idsC [a, b]).toArray 24)
  have HKN := Lib.hid (known_any gb mb G (some ⟨W.heap.size, 0, none⟩) 2 [a, b] (W.alloc (.cells (idsC [a, b]).toArray 24)) (by simp) ((hG.below hq).below hbW1) (ids_new W [a, b] (by simp [ha, hb])))
  rw [show knownE G [a, b] = 0 by unfold knownE; simp [hna, hnb]] at HKN
  have HQ := Lib.hid hq
  have HW1 := Lib.hid hbW1
  have HAB := Lib.hid (And.intro (And.intro a1 a2) (And.intro c1 c2))
  have HG := Lib.hid hG
  have HWF := Lib.hid hwf
  have HNA := Lib.hid hna
  have HNB := Lib.hid hnb
  have HLEN := Lib.hid hlen
  have hida := idOk_agg a ha
  have hidb := idOk_agg b hb
  clear hq hbW1 hna hnb hG hwf
  go_enter Try.func11, Try.ntmps11
  go_upto_region 1 with fail
  rw [← hW, ← hb2, ← hb1]
  clear hW hb1 hb2
  go_wp2_with fail
  refine HKN.out.mono ?_
  rintro e w2 ⟨rfl, hb2⟩
  have hw2 := HW1.out.trans (hb2.mono HW1.out.size)
  have HW2 := Lib.hid hw2
  have HB2 := Lib.hid (HQ.out.trans (hw2.mono HQ.out.size))
  have HPA := Lib.hid (past_any gb mb G a w2 (by have := HLEN.out; omega) HWF.out (HG.out.below HB2.out) HNA.out)
  clear a1 a2 c1 c2
  have a1 := fits_below hw2 HAB.out.1.1
  have a2 := (agg_below hw2 HAB.out.1.1).trans HAB.out.1.2
  clear hb2 hw2
  go_wp2_with fail
  refine HPA.out.mono ?_
  rintro e w3 ⟨v3, rfl, hr3, hb3⟩
  have hw3 := HW2.out.trans (hb3.mono HW2.out.size)
  have HW3 := Lib.hid hw3
  have HB3 := Lib.hid (HQ.out.trans (hw3.mono HQ.out.size))
  have HPB := Lib.hid (past_any gb mb G b w3 (by have := HLEN.out; omega) HWF.out (HG.out.below HB3.out) HNB.out)
  have HR3 := Lib.hid (SlI_row (pastL_32 HWF.out) hr3)
  have c1 := fits_below hw3 HAB.out.2.1
  have c2 := (agg_below hw3 HAB.out.2.1).trans HAB.out.2.2
  clear hb3 a1 a2 hw3 hr3
  go_wp2_with fail
  refine HPB.out.mono ?_
  rintro e w4 ⟨v4, rfl, hr4, hb4⟩
  have hw4 := HW3.out.trans (hb4.mono HW3.out.size)
  have HB4 := Lib.hid (HQ.out.trans (hw4.mono HQ.out.size))
  have HR4 := Lib.hid (SlI_row (pastL_32 HWF.out) hr4)
  have HR3' := Lib.hid (SlI_below HR3.out hb4)
  obtain ⟨x3, y3, rfl, r1, r2, r3, r4⟩ := HR3'.out
  obtain ⟨x4, y4, rfl, s1, s2, s3, s4⟩ := HR4.out
  have HBO := Lib.hid (both_any x3 x4 y3 y4 (pastL G a) (pastL G b) w4 r1 r2 (by have := pastL_len G a; have := HLEN.out; omega) r3 r4 s1 s2 (by have := pastL_len G b; have := HLEN.out; omega) s3 s4)
  clear hb4 c1 c2 hw4 hr4 r1 r2 r3 r4 s1 s2 s3 s4 HR3 HR3' HR4
  have HCO := Lib.hid (show setL ((pastL G a).filter fun z => decide (z ∈ pastL G b)) = commonL G a b from rfl)
  rw [HCO.out] at HBO
  have HCL := Lib.hid (commonL_len G a b)
  have HC32 := Lib.hid (show ∀ z ∈ commonL G a b, z.length = 32 from fun z hz => pastL_32 HWF.out z (commonL_mem.1 hz).1)
  have HCN := Lib.hid (show ∀ z ∈ commonL G a b, isNode G z = true from fun z hz => pastL_node z (commonL_mem.1 hz).1)
  have hcb : (commonL G a b).length ≤ 1000 := by have := HLEN.out; have := HCL.out; omega
  clear HCO
  generalize commonL G a b = C at *
  generalize pastL G a = PA at *
  generalize pastL G b = PB at *
  go_wp2_with fail
  refine HBO.out.mono ?_
  rintro e w5 ⟨v5, rfl, hr5, hb5⟩
  have HB5 := Lib.hid (HB4.out.trans (hb5.mono HB4.out.size))
  obtain ⟨a5, c5, rfl, q5, q6, hin5, hn5⟩ := SlI_row HC32.out hr5
  have HIN := Lib.hid hin5
  have HQ56 := Lib.hid (And.intro q5 (And.intro q6 hn5))
  clear hb5 hr5 hin5 HBO q5 q6 hn5
  go_wp2_with fail
  go_loopg [14, 42] C.length (fun g v14 v42 wr => ∃ (k : Nat) (O : List (List UInt8)), g + k = C.length ∧ v42 = .int .i64 k ∧ rowI w5.heap.size O v14 wr ∧ O = ((C.take k).map (parsOf G)).flatten ∧ Below w5.heap.size w5 wr)
  case atStart => exact ⟨0, [], by omega, rfl, ⟨by simp [idsC], .inl ⟨rfl, rfl⟩⟩, by simp, Below.refl _ _⟩
  case round =>
    obtain ⟨k, O, hg, rfl, hrow, hO, hb⟩ := hrel
    have HGK := Lib.hid hg
    have HR := Lib.hid hrow
    have HO := Lib.hid hO
    have HBR := Lib.hid hb
    have HB := Lib.hid (HB5.out.trans (hb.mono HB5.out.size))
    have HOL := Lib.hid (show O.length ≤ 2 * k by rw [hO]; exact flat_len (fun y => pars_len HWF.out y) _ (by rw [List.length_take]; omega))
    have H32 := Lib.hid (show ∀ z ∈ O, z.length = 32 from fun z hz => by
      rw [hO] at hz
      obtain ⟨l, hl, hz⟩ := List.mem_flatten.1 hz
      obtain ⟨y, _, rfl⟩ := List.mem_map.1 hl
      exact isNode_len HWF.out (par_up HWF.out hz).2.1)
    clear hg hrow hO hb
    by_cases hk : k < C.length
    · have HK := Lib.hid hk
      rcases (HIN.out.below HBR.out).2 with h | ⟨bm, offm, rfl, hc⟩
      · rw [h] at hk; simp at hk
      obtain ⟨e1, e2⟩ := hc k hk
      have HYM := Lib.hid (getD_mem hk)
      have HTK := Lib.hid (take_snoc [] C k hk)
      obtain ⟨y, hy⟩ : ∃ y, y = C.getD k [] := ⟨_, rfl⟩
      rw [← hy] at e2 HYM HTK
      have hy32 := HC32.out _ HYM.out
      have hidY := idOk_agg y hy32
      have i1 : (k : Int) < C.length := by omega
      clear hc hy
      go_upto_region 11 with fail
      clear e1 e2 hidY
      obtain ⟨wq, hwq⟩ : ∃ wq, wq = wr.alloc (.cells (idB y) 24) := ⟨_, rfl⟩
      obtain ⟨by_, hby⟩ : ∃ b, b = wr.heap.size := ⟨_, rfl⟩
      have hbq : Below wr.heap.size wr wq := by rw [hwq]; exact (Below.refl _ _).alloc (Nat.le_refl _) _
      rw [← hwq, ← hby]
      obtain ⟨v14, hv14⟩ : ∃ v, v = u14 := ⟨_, rfl⟩
      rw [← hv14]
      have HROW := Lib.hid (show rowI w5.heap.size O v14 wq by rw [hv14]; exact rowI_st _ _ _ _ _ HR.out hbq)
      have HVLT := Lib.hid (fun k (hk : v14.ownBlock = some k) => rowI_lt (show rowI w5.heap.size O v14 wr by rw [hv14]; exact HR.out) hk)
      have HFY := Lib.hid (show fits wq ⟨by_, 0, none⟩ 32 ∧ aggAt wq ⟨by_, 0, none⟩ 32 = idB y from by rw [hwq, hby]; exact ⟨fits_new _ _ _ _ (by rw [idB_size, hy32]), aggAt_new _ _ _ _ (by rw [idB_size, hy32])⟩)
      have HNEY := Lib.hid (show some by_ ≠ v14.ownBlock from fun h => by have := (HVLT.out _ h.symm).1; omega)
      have HBQ := Lib.hid (HBR.out.trans (hbq.mono HBR.out.size))
      obtain ⟨a', c', hsl, hlk⟩ := look_node HG.out (HCN.out y HYM.out)
      have hbx : ∀ wx, wq.grownBy wx v14.ownBlock → Below w5.heap.size w5 wx := fun wx hG => HBQ.out.trans ⟨hG.os, hG.tape, hG.output, hG.size, fun i hi => hG.block i (by have := HBQ.out.size; omega) (fun h => by have := (HVLT.out _ h.symm).2.1; omega)⟩
      have HBX := Lib.hid hbx
      have hbw : ∀ wx, wq.grownBy wx v14.ownBlock → Below w.heap.size w wx := fun wx hG => HB5.out.trans ((hbx wx hG).mono HB5.out.size)
      have HGQ := Lib.hid (fun wx (hG : wq.grownBy wx v14.ownBlock) => HG.out.below (hbw wx hG))
      obtain ⟨ps, hps⟩ : ∃ ps, ps = parsOf G y := ⟨_, rfl⟩
      have HPS := Lib.hid hps
      have HPA := Lib.hid (pars_len HWF.out y)
      rw [← hps] at hsl hlk HPA
      have hsl2 := hsl
      obtain ⟨_, _, he, _, _, _, hn'⟩ := hsl2
      have HAPN := Lib.hid (show a' = none → ps = [] ∧ c' = 0 by injection he with h1 _ h3; subst h1 h3; exact hn')
      have HAPP := Lib.hid (fun wx (hG : wq.grownBy wx v14.ownBlock) => (show IdsIn wx a' ps by
        obtain ⟨_, _, he2, _, _, hi2, _⟩ := SlI_below hsl (hbw wx hG)
        injection he2 with h1 _ _; subst h1; exact hi2))
      generalize stampOf G y = st' at *
      have HLK := Lib.hid (fun wx (hG : wq.grownBy wx v14.ownBlock) => (show (Instr.lookup 59 (.map (some mb)) (.agg (idB y)) false).run Try.prog wx = .ok (.agg #[.slice a' ps.length c', .int .i64 st']) wx from hlk wx (hbw wx hG)))
      have HAPC := Lib.hid (show O.length + ps.length ≤ 4000000 by have := HOL.out; have := HPA.out; omega)
      have HAPB := Lib.hid (show w5.heap.size ≤ wq.heap.size from HBQ.out.size)
      clear hwq hby hbq hv14 hsl hlk hbx hbw hps he hn'
      obtain ⟨wd, hwd⟩ : ∃ wd, wd = wq.drew := ⟨_, rfl⟩
      have HWD := Lib.hid hwd
      have HRD := Lib.hid (show rowI w5.heap.size (O) (v14) wd by rw [hwd]; exact HROW.out)
      have HGD := Lib.hid (show wq.grownBy wd (v14).ownBlock by rw [hwd]; exact ⟨rfl, rfl, rfl, Nat.le_refl _, fun _ _ _ => rfl⟩)
      have HSD := Lib.hid (show wd.heap.size = wq.heap.size by rw [hwd]; rfl)
      clear hwd
      refine wp_region_specs2 [[], [], [1], [2], [3], [], [4, 5], [6], [0, 7], [8]] [some 46, some 47, some 48, some 49, some 50, some 51, some 52, some 53, some 54, some 14] [0, 1, 2, 3, 4, 5, 6, 7, 8, 9]
        (fun w_ => wq.grownBy w_ (v14).ownBlock) (fun i w_ => i = 8 → w_ = wd) (fun j w_ w_' => (j ≠ 8 → w_' = w_) ∧ (j = 8 → w_.grownBy w_' (v14).ownBlock))
        (fun ix_ => [eqv (v14), eqv (.pointer (some ⟨gb, 0, none⟩)), eqv (.pointer (some ⟨gb, 0, none⟩)), eqv (.pointer (some ⟨gb, 0, none⟩)), eqv (.map (some mb)), eqv (.agg (idB y)), eqv (.agg #[.slice a' ps.length c', .int .i64 st']), eqv (.slice a' ps.length c'), fun v w_ => rowI w5.heap.size (O ++ ps) v w_ ∧ (v.ownBlock = (v14).ownBlock ∨ v.ownBlock = some wq.heap.size), fun v w_ => rowI w5.heap.size (O ++ ps) v w_ ∧ (v.ownBlock = (v14).ownBlock ∨ v.ownBlock = some wq.heap.size)].getD ix_ anyv) (by kernel_rfl) (by kernel_rfl) ?_ ?_ ?_ ?_ ?_ ?_ ?_
      · rw [← HWD.out]; exact HGD.out
      · intro i _; exact HWD.out.symm
      · intro j w_ w_' hg hr
        by_cases hj : j = 8
        · exact grown_trans hg (hr.2 hj)
        · rw [hr.1 hj]; exact hg
      · intro i j w_ w_' hij hd hp hr hi
        rw [hr.1 (fun h => hij (hi.trans h.symm))]; exact hp hi
      · intro i j v w_ w_' hij hd h hr
        by_cases hj : j = 8
        · subst hj
          match i, hij, hd, h with
          | 0, _, _, h => exact h
          | 1, _, _, h => exact h
          | 2, _, _, h => exact h
          | 3, _, _, h => exact h
          | 4, _, _, h => exact h
          | 5, _, _, h => exact h
          | 6, _, _, h => exact h
          | 7, _, _, h => exact h
          | 8, hij, _, h => exact absurd rfl hij
          | 9, _, hd, h => exact absurd (by decide) hd
          | i + 10, _, _, h => exact trivial
        · rw [hr.1 hj]; exact h
      · refine ⟨?_, ?_, ?_, ?_, ?_, ?_, ?_, ?_, ?_, ?_, trivial⟩
        · intro vs wx hG hP hd
          simp only [putL]
          clear hd hP hG 
          go_wp2
          exact ⟨rfl, rfl, ⟨fun _ => rfl, fun h => by cases h⟩, rfl⟩
        · intro vs wx hG hP hd
          simp only [putL]
          clear hd hP hG 
          go_wp2
          exact ⟨rfl, rfl, ⟨fun _ => rfl, fun h => by cases h⟩, rfl⟩
        · intro vs wx hG hP hd
          have h1 := hd.get 1 rfl
          change vs 1 = _ at h1
          simp only [putL, h1]
          clear hd hP hG h1
          go_wp2
          exact ⟨rfl, rfl, ⟨fun _ => rfl, fun h => by cases h⟩, rfl⟩
        · intro vs wx hG hP hd
          have h2 := hd.get 2 rfl
          change vs 2 = _ at h2
          simp only [putL, h2]
          clear hd hP hG h2
          go_wp2
          exact ⟨rfl, rfl, ⟨fun _ => rfl, fun h => by cases h⟩, rfl⟩
        · intro vs wx hG hP hd
          have h3 := hd.get 3 rfl
          change vs 3 = _ at h3
          have n1 := (HGQ.out wx hG).cell
          simp only [putL, h3]
          clear hd hP hG h3
          go_wp2
          exact ⟨rfl, rfl, ⟨fun _ => rfl, fun h => by cases h⟩, rfl⟩
        · intro vs wx hG hP hd
          have hbl := hG.block by_ HFY.out.1.lt HNEY.out
          have n1 := fits_of_block (a := ⟨by_, 0, none⟩) hbl HFY.out.1
          have n2 := (aggAt_of_block (a := ⟨by_, 0, none⟩) (n := 32) hbl).trans HFY.out.2
          clear hbl
          simp only [putL]
          clear hd hP hG 
          go_wp2
          exact ⟨rfl, rfl, ⟨fun _ => rfl, fun h => by cases h⟩, rfl⟩
        · intro vs wx hG hP hd
          have h4 := hd.get 4 rfl
          change vs 4 = _ at h4
          have h5 := hd.get 5 rfl
          change vs 5 = _ at h5
          have n1 := HLK.out wx hG
          simp only [putL, h4, h5]
          clear hd hP hG h4 h5
          go_wp2
          exact ⟨rfl, rfl, ⟨fun _ => rfl, fun h => by cases h⟩, rfl⟩
        · intro vs wx hG hP hd
          have h6 := hd.get 6 rfl
          change vs 6 = _ at h6
          simp only [putL, h6]
          clear hd hP hG h6
          go_wp2
          exact ⟨rfl, rfl, ⟨fun _ => rfl, fun h => by cases h⟩, rfl⟩
        · intro vs wx hG hP hd
          have h0 := hd.get 0 rfl
          change vs 0 = _ at h0
          have h7 := hd.get 7 rfl
          change vs 7 = _ at h7
          have hwx : wx = wd := hP rfl
          have HGX := Lib.hid hG
          have HIA := Lib.hid (HAPP.out wx hG)
          have HRX := Lib.hid (show rowI w5.heap.size (O) (v14) wx by rw [hwx]; exact HRD.out)
          have HSX := Lib.hid (show wx.heap.size = wq.heap.size by rw [hwx]; exact HSD.out)
          have HBX := Lib.hid (show w5.heap.size ≤ wx.heap.size by rw [HSX.out]; exact HAPB.out)
          simp only [putL, h0, h7]
          clear hd hP hG hwx h0 h7
          go_wp2_with (at_builtin; refine wpList_app_any rfl _ _ rfl (w5.heap.size) _ (O) (ps) rfl HRX.out (a') (c') rfl HIA.out HAPN.out HAPC.out HBX.out ?_)
          rintro v' w' r1 r2 r3
          rw [HSX.out] at r3
          exact ⟨rfl, rfl, ⟨fun h => absurd rfl h, fun _ => r2⟩, r1, r3⟩
        · intro vs wx hG hP hd
          have R8 := Lib.hid (hd.get 8 rfl)
          simp only [putL]
          clear hd hP hG 
          go_wp2
          exact ⟨rfl, rfl, ⟨fun _ => rfl, fun h => by cases h⟩, R8.out⟩
      intro vs wz hG hd
      have h0 := hd.get 0 rfl
      change vs 0 = _ at h0
      have h1 := hd.get 1 rfl
      change vs 1 = _ at h1
      have h2 := hd.get 2 rfl
      change vs 2 = _ at h2
      have h3 := hd.get 3 rfl
      change vs 3 = _ at h3
      have h4 := hd.get 4 rfl
      change vs 4 = _ at h4
      have h5 := hd.get 5 rfl
      change vs 5 = _ at h5
      have h6 := hd.get 6 rfl
      change vs 6 = _ at h6
      have h7 := hd.get 7 rfl
      change vs 7 = _ at h7
      have R8 := Lib.hid (show rowI w5.heap.size (O ++ ps) (vs 8) wz ∧ ((vs 8).ownBlock = (v14).ownBlock ∨ (vs 8).ownBlock = some wq.heap.size) from hd.get 8 rfl)
      have R9 := Lib.hid (show rowI w5.heap.size (O ++ ps) (vs 9) wz ∧ ((vs 9).ownBlock = (v14).ownBlock ∨ (vs 9).ownBlock = some wq.heap.size) from hd.get 9 rfl)
      have HZG := Lib.hid hG
      simp only [putL, List.getD_cons_zero, List.getD_cons_succ, Act.put, List.setIfInBounds_toArray, List.set_cons_zero, List.set_cons_succ, h0, h1, h2, h3, h4, h5, h6, h7]
      clear hd hG HWD HRD HGD HSD h0 h1 h2 h3 h4 h5 h6 h7
      generalize vs 8 = v8_ at *
      generalize vs 9 = v9_ at *
      go_wp2
      go_roundg (gk - 1)
      case measure => have := HGK.out; have := HK.out; omega
      case rel => exact ⟨k + 1, O ++ ps, by have := HGK.out; have := HK.out; omega, by go_num, R9.out.1, by rw [HTK.out, List.map_append, List.flatten_append, ← HO.out, HPS.out]; simp, HBX.out _ HZG.out⟩
    · have HE := Lib.hid (show setL (C.filter fun z => !decide (z ∈ O)) = BL by rw [HO.out, List.take_of_length_le (by omega)]; exact HBL.out)
      obtain ⟨a2, c2, rfl, p1, p2, p3, p4⟩ := SlI_row H32.out HR.out
      have HMI := Lib.hid (minus_any a5 a2 c5 c2 C O wr HQ56.out.1 HQ56.out.2.1 hcb (HIN.out.below HBR.out) HQ56.out.2.2 p1 p2 (by have := HOL.out; have := HLEN.out; have := HCL.out; have := HGK.out; omega) p3 p4)
      clear p1 p2 p3 p4
      go_wp2_with fail
      refine HMI.out.mono ?_
      rintro e w6 ⟨v3, rfl, ho3, hb3⟩
      rw [HE.out] at ho3
      have HR3 := Lib.hid (ownsRow_base ho3 HB.out.size)
      have HB3 := Lib.hid (HB.out.trans (hb3.mono HB.out.size))
      clear ho3 hb3
      go_wp2
      go_ret2
      exact ⟨v3, rfl, HR3.out, HB3.out⟩
end Go.Proofs.Ytmmmimkikakalaa
