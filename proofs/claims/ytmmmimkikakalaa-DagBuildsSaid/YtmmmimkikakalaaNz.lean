/- awake. -/
import Derived.Test.YtmmmimkikakalaaNy
import Derived.Test.YtmmmimkikakalaaNx
namespace Go.Proofs.Ytmmmimkikakalaa
open Go.RowKit Go.Maps
set_option linter.unusedVariables false

@[go_sem ↓] theorem bldk4 (f : Operand → Value) (dst : Option Tmp) (ty' : TypeId) (pos : String) (after : Array Edge) (guard : Option (Nat × Bool)) (w : World) (hc : f (.const (.int .u8 4)) = .int .u8 4) :
    (execOp f ⟨dst, .build 24 #[(0, .const (.int .u8 4))], ty', pos, after, guard⟩).run Try.prog w = .ok (.value (.agg (idB (oneId 4)))) w := run_exec_build f _ dst ty' pos after guard w (by
      have h : Try.prog.built 24 [(0, .int .u8 4)] = some (idB (oneId 4)) := by kernel_rfl
      simpa [hc] using h)

theorem wpList_store_id {w : World} {ops : Array Oper} {rest : List Oper} {o : Oper} {a : Act} {Q : Exit → Act → World → Prop} (hgd : o.guard = none) (x y : Operand) (ho : o.op = .store 24 x y) (b : Nat) (z : List UInt8) (hz : z.length = 32)
    (hx : a.eval x = .pointer (some ⟨b, 0, none⟩)) (hy : a.eval y = .agg (idB z)) (cur : Array Value) (hb : w.heap[b]? = some (.cells cur 24 (0, 0))) (hc : cur.size = 32)
    (h : ∀ w', w'.heap[b]? = some (.cells (idB z) 24 (0, 0)) → (∀ k, k ≠ b → w'.heap[k]? = w.heap[k]?) → w.grownBy w' (some b) → wpList Try.prog ops Q rest (a.put o.dst undef) w') : wpList Try.prog ops Q (o :: rest) a w := by
  have hsz : (idB z).size = 32 := by rw [idB_size, hz]
  have h23 : (Try.prog.info? 24).map (·.size) = some 32 := by kernel_rfl
  have hr := run_storeVar_row (P := Try.prog) w b 24 24 cur (idB z) hb (by rw [h23, hsz]) (by rw [hc, hsz]) (idB_one z)
  refine wpList_plain hgd fun _ hK => ?_
  unfold Oper.wp execOp
  simp only [ho, hx, hy, Instr.storeAt, Instr.sureAddr, Sem.run_bind, Sem.run_pure, Result.andThen_ok, hr]
  exact hK _ _ (h _ (setRow_heap w b cur (idB z) 24 (0, 0) hb) (fun k hk => setRow_other w b k _ hk) ⟨rfl, rfl, rfl, by simp, fun k _ hk => setRow_other w b k _ (fun e => hk (by rw [e]))⟩)
theorem four_new (w : World) (Z : Array Value) (W : World) (hW : (((w.alloc (.cells Z 24)).alloc (.cells Z 24)).alloc (.cells Z 24)).alloc (.cells Z 24) = W) :
    Below w.heap.size w W ∧ W.heap.size = w.heap.size + 4 ∧ ∀ i, i < 4 → W.heap[w.heap.size + i]? = some (.cells Z 24 (0, 0)) := by
  have a1 := Below.heap_alloc ((w.alloc (.cells Z 24)).alloc (.cells Z 24) |>.alloc (.cells Z 24)) (.cells Z 24)
  have a2 := Below.heap_alloc ((w.alloc (.cells Z 24)).alloc (.cells Z 24)) (.cells Z 24)
  have a3 := Below.heap_alloc (w.alloc (.cells Z 24)) (.cells Z 24)
  have n1 := World.alloc_heap_new w (.cells Z 24)
  have n2 := World.alloc_heap_new (w.alloc (.cells Z 24)) (.cells Z 24)
  have n3 := World.alloc_heap_new ((w.alloc (.cells Z 24)).alloc (.cells Z 24)) (.cells Z 24)
  have n4 := World.alloc_heap_new (((w.alloc (.cells Z 24)).alloc (.cells Z 24)).alloc (.cells Z 24)) (.cells Z 24)
  simp only [World.size_alloc] at n2 n3 n4
  refine ⟨?_, by rw [← hW]; simp, fun i hi => ?_⟩
  · rw [← hW]
    exact ((((Below.refl _ w).alloc (Nat.le_refl _) _).alloc (by simp) _).alloc (by simp <;> omega) _).alloc (by simp <;> omega) _
  · rw [← hW]
    match i, hi with
    | 0, _ => exact (a1 _ (by simp <;> omega)).trans ((a2 _ (by simp <;> omega)).trans ((a3 _ (by simp)).trans n1))
    | 1, _ => exact (a1 _ (by simp <;> omega)).trans ((a2 _ (by simp)).trans n2)
    | 2, _ => exact (a1 _ (by simp)).trans n3
    | 3, _ => exact n4

/-- awake's world: the graph and its four boxes. -/
structure Aw (w : World) (gb mb nb : Nat) (G : List GN) (W : World) : Prop where
  bl : Below w.heap.size w W
  ga : GraphAt W gb mb G
  bx : ∀ i k, i < 4 → k = UInt8.ofNat (i + 1) → W.heap[nb + i]? = some (.cells (idB (oneId k)) 24 (0, 0))
theorem Aw.below {w : World} {gb mb nb : Nat} {G : List GN} {W W' : World} (h : Aw w gb mb nb G W) (hb : Below W.heap.size W W') : Aw w gb mb nb G W' :=
  ⟨h.bl.trans (hb.mono h.bl.size), h.ga.below hb, fun i k hi hk => (hb.block _ (Array.getElem?_eq_some_iff.1 (h.bx i k hi hk)).1).trans (h.bx i k hi hk)⟩
theorem Aw.alloc {w : World} {gb mb nb : Nat} {G : List GN} {W : World} (h : Aw w gb mb nb G W) (o : Obj) : Aw w gb mb nb G (W.alloc o) := h.below ((Below.refl _ W).alloc (Nat.le_refl _) o)
theorem ld_heap {W : World} {b : Nat} {k : UInt8} (h : W.heap[b]? = some (.cells (idB (oneId k)) 24 (0, 0))) : fits W ⟨b, 0, none⟩ 32 ∧ aggAt W ⟨b, 0, none⟩ 32 = idB (oneId k) := by
  have hs : (idB (oneId k)).size = 32 := by rw [idB_size, oneId_32]
  refine ⟨⟨rfl, _, _, _, h, by simp [hs]⟩, ?_⟩
  unfold aggAt
  rw [show W.heap[(⟨b, 0, none⟩ : Addr).block]? = some (.cells (idB (oneId k)) 24 (0, 0)) from h]
  show (idB (oneId k)).extract 0 (0 + 32) = _
  rw [show (0 + 32) = (idB (oneId k)).size by rw [hs]]
  simp
theorem Aw.ld {w : World} {gb mb nb : Nat} {G : List GN} {W : World} (h : Aw w gb mb nb G W) (i : Nat) (k : UInt8) (hi : i < 4) (hk : k = UInt8.ofNat (i + 1)) : fits W ⟨nb + i, 0, none⟩ 32 ∧ aggAt W ⟨nb + i, 0, none⟩ 32 = idB (oneId k) := ld_heap (h.bx i k hi hk)
theorem Aw.add {w : World} {gb mb nb : Nat} {G : List GN} {W : World} (h : Aw w gb mb nb G W) (hne : gb ≠ mb) (hwm : w.heap.size ≤ mb) (hmn : mb < nb) (k : UInt8) (p : Option Addr) (n c : Nat) (ps : List (List UInt8)) (st : Int) (G' : List GN) (hn : n = ps.length) (hlG : G.length ≤ 1000) (hlp : ps.length ≤ 1000000)
    (he : addE G (oneId k) ps = 0 ∧ addG G (oneId k) ps st = G') (hps : SlI W (.slice p ps.length c) ps) :
    Calls Try.prog 24 #[.pointer (some ⟨gb, 0, none⟩), .agg (idB (oneId k)), .slice p n c, .int .i64 st] W fun e W' => e = .returned (.int .i64 0) ∧ Aw w gb mb nb G' W' := by
  subst hn
  refine (add_any gb mb hne G (oneId k) (oneId_32 k) p c ps st W hlG hlp h.ga hps).mono ?_
  rintro e W' ⟨rfl, hg, hG⟩
  rw [he.1]
  rw [he.2] at hG
  exact ⟨rfl, h.bl.trans ⟨hg.os, hg.tape, hg.output, hg.size, fun i hi => hg.block i (by have := h.bl.size; omega) (by simp; omega)⟩, hG, fun i k hi hk => (hg.block _ (Array.getElem?_eq_some_iff.1 (h.bx i k hi hk)).1 (by simp; omega)).trans (h.bx i k hi hk)⟩
theorem slI_new (W : World) (ps : List (List UInt8)) (n : Nat) (hn : n = ps.length) (h32 : ∀ x ∈ ps, x.length = 32) (h0 : ps ≠ []) (hl : ps.length ≤ maxLen) : SlI (W.alloc (.cells (idsC ps).toArray 24)) (.slice (some ⟨W.heap.size, 0, none⟩) ps.length n) ps := by
  subst hn
  exact ⟨_, _, rfl, Nat.le_refl _, hl, ids_new W ps h32, fun h => by cases h⟩
@[go_sem ↓] theorem build30_1 (f : Operand → Value) (x : Operand) (dst : Option Tmp) (ty' : TypeId) (pos : String) (after : Array Edge) (guard : Option (Nat × Bool)) (w : World) (h1 : idOk (f x)) :
    (execOp f ⟨dst, .buildSlice 30 1 #[(0, x)], ty', pos, after, guard⟩).run Try.prog w = .ok (.value (.slice (some ⟨w.heap.size, 0, none⟩) 1 1)) (w.alloc (.cells (idsC [idOf (f x)]).toArray 24)) := by
  obtain ⟨e1, l1⟩ := idOk_of h1
  exact run_exec_build30 f 1 _ [idOf (f x)] dst ty' pos after guard w (by simp [l1]) rfl (by decide) (by decide) (by simp [idParts, ← e1])
@[go_sem ↓] theorem build30_4 (f : Operand → Value) (x y z u : Operand) (dst : Option Tmp) (ty' : TypeId) (pos : String) (after : Array Edge) (guard : Option (Nat × Bool)) (w : World) (h1 : idOk (f x)) (h2 : idOk (f y)) (h3 : idOk (f z)) (h4 : idOk (f u)) :
    (execOp f ⟨dst, .buildSlice 30 4 #[(0, x), (1, y), (2, z), (3, u)], ty', pos, after, guard⟩).run Try.prog w = .ok (.value (.slice (some ⟨w.heap.size, 0, none⟩) 4 4)) (w.alloc (.cells (idsC [idOf (f x), idOf (f y), idOf (f z), idOf (f u)]).toArray 24)) := by
  obtain ⟨e1, l1⟩ := idOk_of h1
  obtain ⟨e2, l2⟩ := idOk_of h2
  obtain ⟨e3, l3⟩ := idOk_of h3
  obtain ⟨e4, l4⟩ := idOk_of h4
  exact run_exec_build30 f 4 _ [idOf (f x), idOf (f y), idOf (f z), idOf (f u)] dst ty' pos after guard w (by simp [l1, l2, l3, l4]) rfl (by decide) (by decide) (by simp [idParts, ← e1, ← e2, ← e3, ← e4])

set_option maxHeartbeats 4000000 in
set_option maxRecDepth 100000 in
theorem awake_any (w : World) : Calls Try.prog 16 #[] w fun e w' => e = .returned (.bool true) ∧ Below w.heap.size w w' := by
  go_enter Try.func16, Try.ntmps16
  go_wp2_with fail
  refine (new_any w).mono ?_
  rintro e w1 ⟨gb, mb, rfl, hgb, hmb, hne, hga, hb1⟩
  have HGB := Lib.hid hgb
  have HMB := Lib.hid hmb
  have HNE := Lib.hid hne
  have HGA := Lib.hid hga
  have HB1 := Lib.hid hb1
  clear hgb hmb hne hga hb1
  have o1 := idOk_agg _ (oneId_32 1)
  have o2 := idOk_agg _ (oneId_32 2)
  have o3 := idOk_agg _ (oneId_32 3)
  have o4 := idOk_agg _ (oneId_32 4)
  go_wp2_with (refine wpList_store_id rfl _ _ rfl w1.heap.size (oneId 1) (oneId_32 1) rfl rfl _ ((four_new w1 _ _ rfl).2.2 0 (by decide)) (by rfl) ?_)
  intro w2 s1 s2 s3
  generalize hW4 : World.alloc (World.alloc (World.alloc (World.alloc w1 _) _) _) _ = W4 at s2 s3
  obtain ⟨hb4, hs4, hn4⟩ := four_new _ _ _ hW4
  have HS4 := Lib.hid hs4
  have HB4 := Lib.hid hb4
  obtain ⟨nb, hnb⟩ : ∃ nb, nb = w1.heap.size := ⟨_, rfl⟩
  have h1 := (s2 (w1.heap.size + 1) (by omega)).trans (hn4 1 (by decide))
  have h2 := (s2 (w1.heap.size + 2) (by omega)).trans (hn4 2 (by decide))
  have h3 := (s2 (w1.heap.size + 3) (by omega)).trans (hn4 3 (by decide))
  have hz : (Array.range 32).size = 32 := by simp
  have HT := Lib.hid (And.intro s1 (And.intro s2 s3))
  clear s2 s3 hn4 hs4 hb4
  go_wp2_with (refine wpList_store_id rfl _ _ rfl (w1.heap.size + 1) (oneId 2) (oneId_32 2) rfl rfl _ h1 (by rfl) ?_)
  intro w3 t1 t2 t3
  go_wp2_with (refine wpList_store_id rfl _ _ rfl (w1.heap.size + 1 + 1) (oneId 3) (oneId_32 3) rfl rfl _ ((t2 _ (by omega)).trans h2) (by rfl) ?_)
  intro w4 u1 u2 u3
  go_wp2_with (refine wpList_store_id rfl _ _ rfl (w1.heap.size + 1 + 1 + 1) (oneId 4) (oneId_32 4) rfl rfl _ ((u2 _ (by omega)).trans ((t2 _ (by omega)).trans h3)) (by rfl) ?_)
  intro w5 v1 v2 v3
  have hb5 : Below w.heap.size w w5 := (HB1.out.trans ((HB4.out.trans (Below.mono ⟨(HT.out.2.2).os, (HT.out.2.2).tape, (HT.out.2.2).output, (HT.out.2.2).size, fun i hi => (HT.out.2.2).block i (by have := HS4.out; omega) (by simp; omega)⟩ (Nat.le_refl _))).mono HB1.out.size)).trans
    (Below.trans (b := w3) ⟨t3.os, t3.tape, t3.output, t3.size, fun i hi => t3.block i (by have := HS4.out; have := HT.out.2.2.size; have := HB1.out.size; omega) (by have := HB1.out.size; simp; omega)⟩
      (Below.trans (b := w4) ⟨u3.os, u3.tape, u3.output, u3.size, fun i hi => u3.block i (by have := HS4.out; have := HT.out.2.2.size; have := t3.size; have := HB1.out.size; omega) (by have := HB1.out.size; simp; omega)⟩
        ⟨v3.os, v3.tape, v3.output, v3.size, fun i hi => v3.block i (by have := HS4.out; have := HT.out.2.2.size; have := t3.size; have := u3.size; have := HB1.out.size; omega) (by have := HB1.out.size; simp; omega)⟩))
  have hb15 : Below w1.heap.size w1 w5 := (HB4.out.trans ⟨(HT.out.2.2).os, (HT.out.2.2).tape, (HT.out.2.2).output, (HT.out.2.2).size, fun i hi => (HT.out.2.2).block i (by have := HS4.out; omega) (by simp; omega)⟩).trans
    (Below.trans (b := w3) ⟨t3.os, t3.tape, t3.output, t3.size, fun i hi => t3.block i (by have := HS4.out; have := HT.out.2.2.size; omega) (by simp; omega)⟩
      (Below.trans (b := w4) ⟨u3.os, u3.tape, u3.output, u3.size, fun i hi => u3.block i (by have := HS4.out; have := HT.out.2.2.size; have := t3.size; omega) (by simp; omega)⟩
        ⟨v3.os, v3.tape, v3.output, v3.size, fun i hi => v3.block i (by have := HS4.out; have := HT.out.2.2.size; have := t3.size; have := u3.size; omega) (by simp; omega)⟩))
  have hmb1 : mb < w1.heap.size := by
    obtain ⟨_, D, n, _, ⟨es, clock, hh, _⟩, _⟩ := HGA.out
    exact (Array.getElem?_eq_some_iff.1 hh).1
  have hA0 : Aw w gb mb w1.heap.size [] w5 := ⟨hb5, HGA.out.below hb15, fun i k hi hk => by
    match i, hi, hk with
    | 0, _, hk => exact (v2 _ (by omega)).trans ((u2 _ (by omega)).trans ((t2 _ (by omega)).trans (by rw [hk]; exact HT.out.1)))
    | 1, _, hk => exact (v2 _ (by omega)).trans ((u2 _ (by omega)).trans (by rw [hk]; exact t1))
    | 2, _, hk => exact (v2 _ (by omega)).trans (by rw [hk]; exact u1)
    | 3, _, hk => rw [hk]; exact v1⟩
  have HA5 := Lib.hid hA0
  have HMN := Lib.hid hmb1
  clear hA0 hmb1 hb15 hb5 v1 v2 v3 u1 u2 u3 t1 t2 t3 HT HS4 HB4 HGA HB1 h1 h2 h3 hz hnb
  revert HMN HA5
  generalize w1.heap.size = nb
  intro HA5 HMN
  have lf1 : fits w5 ⟨nb, 0, none⟩ 32 := (HA5.out.ld 0 1 (by decide) (by decide)).1
  have la1 : aggAt w5 ⟨nb, 0, none⟩ 32 = idB (oneId 1) := (HA5.out.ld 0 1 (by decide) (by decide)).2
  have lf2 : fits w5 ⟨nb + 1, 0, none⟩ 32 := (HA5.out.ld 1 2 (by decide) (by decide)).1
  have la2 : aggAt w5 ⟨nb + 1, 0, none⟩ 32 = idB (oneId 2) := (HA5.out.ld 1 2 (by decide) (by decide)).2
  have lf3 : fits w5 ⟨nb + 1 + 1, 0, none⟩ 32 := (HA5.out.ld 2 3 (by decide) (by decide)).1
  have la3 : aggAt w5 ⟨nb + 1 + 1, 0, none⟩ 32 = idB (oneId 3) := (HA5.out.ld 2 3 (by decide) (by decide)).2
  have lf4 : fits w5 ⟨nb + 1 + 1 + 1, 0, none⟩ 32 := (HA5.out.ld 3 4 (by decide) (by decide)).1
  have la4 : aggAt w5 ⟨nb + 1 + 1 + 1, 0, none⟩ 32 = idB (oneId 4) := (HA5.out.ld 3 4 (by decide) (by decide)).2
  go_wp2_with fail
  refine (HA5.out.add HNE.out HMB.out HMN.out 1 none 0 0 [] 1 X1 rfl (by decide) (by decide) x_e1 ⟨none, 0, rfl, Nat.le_refl _, by decide, ⟨by simp, .inl rfl⟩, fun _ => ⟨rfl, rfl⟩⟩).mono ?_
  rintro e w6 ⟨rfl, hA⟩
  have HA6 := Lib.hid hA
  clear hA lf1 lf2 lf3 lf4 la1 la2 la3 la4
  have lf1 : fits w6 ⟨nb, 0, none⟩ 32 := (HA6.out.ld 0 1 (by decide) (by decide)).1
  have la1 : aggAt w6 ⟨nb, 0, none⟩ 32 = idB (oneId 1) := (HA6.out.ld 0 1 (by decide) (by decide)).2
  have lf2 : fits w6 ⟨nb + 1, 0, none⟩ 32 := (HA6.out.ld 1 2 (by decide) (by decide)).1
  have la2 : aggAt w6 ⟨nb + 1, 0, none⟩ 32 = idB (oneId 2) := (HA6.out.ld 1 2 (by decide) (by decide)).2
  have lf3 : fits w6 ⟨nb + 1 + 1, 0, none⟩ 32 := (HA6.out.ld 2 3 (by decide) (by decide)).1
  have la3 : aggAt w6 ⟨nb + 1 + 1, 0, none⟩ 32 = idB (oneId 3) := (HA6.out.ld 2 3 (by decide) (by decide)).2
  have lf4 : fits w6 ⟨nb + 1 + 1 + 1, 0, none⟩ 32 := (HA6.out.ld 3 4 (by decide) (by decide)).1
  have la4 : aggAt w6 ⟨nb + 1 + 1 + 1, 0, none⟩ 32 = idB (oneId 4) := (HA6.out.ld 3 4 (by decide) (by decide)).2
  go_wp2_with fail
  refine ((((HA6.out.alloc (.cells (idsC [oneId 1]).toArray 24)).add HNE.out HMB.out HMN.out 2 (some ⟨w6.heap.size, 0, none⟩) 1 1 [oneId 1] 2 X2 rfl (by decide) (by decide) x_e2 (slI_new w6 [oneId 1] 1 rfl (by simp [oneId_32]) (by simp) (by decide))))).mono ?_
  rintro e w7 ⟨rfl, hA⟩
  have HA7 := Lib.hid hA
  clear hA lf1 lf2 lf3 lf4 la1 la2 la3 la4
  have lf1 : fits w7 ⟨nb, 0, none⟩ 32 := (HA7.out.ld 0 1 (by decide) (by decide)).1
  have la1 : aggAt w7 ⟨nb, 0, none⟩ 32 = idB (oneId 1) := (HA7.out.ld 0 1 (by decide) (by decide)).2
  have lf2 : fits w7 ⟨nb + 1, 0, none⟩ 32 := (HA7.out.ld 1 2 (by decide) (by decide)).1
  have la2 : aggAt w7 ⟨nb + 1, 0, none⟩ 32 = idB (oneId 2) := (HA7.out.ld 1 2 (by decide) (by decide)).2
  have lf3 : fits w7 ⟨nb + 1 + 1, 0, none⟩ 32 := (HA7.out.ld 2 3 (by decide) (by decide)).1
  have la3 : aggAt w7 ⟨nb + 1 + 1, 0, none⟩ 32 = idB (oneId 3) := (HA7.out.ld 2 3 (by decide) (by decide)).2
  have lf4 : fits w7 ⟨nb + 1 + 1 + 1, 0, none⟩ 32 := (HA7.out.ld 3 4 (by decide) (by decide)).1
  have la4 : aggAt w7 ⟨nb + 1 + 1 + 1, 0, none⟩ 32 = idB (oneId 4) := (HA7.out.ld 3 4 (by decide) (by decide)).2
  go_wp2_with fail
  refine ((((HA7.out.alloc (.cells (idsC [oneId 1]).toArray 24)).add HNE.out HMB.out HMN.out 3 (some ⟨w7.heap.size, 0, none⟩) 1 1 [oneId 1] 3 X3 rfl (by decide) (by decide) x_e3 (slI_new w7 [oneId 1] 1 rfl (by simp [oneId_32]) (by simp) (by decide))))).mono ?_
  rintro e w8 ⟨rfl, hA⟩
  have HA8 := Lib.hid hA
  clear hA lf1 lf2 lf3 lf4 la1 la2 la3 la4
  have lf1 : fits w8 ⟨nb, 0, none⟩ 32 := (HA8.out.ld 0 1 (by decide) (by decide)).1
  have la1 : aggAt w8 ⟨nb, 0, none⟩ 32 = idB (oneId 1) := (HA8.out.ld 0 1 (by decide) (by decide)).2
  have lf2 : fits w8 ⟨nb + 1, 0, none⟩ 32 := (HA8.out.ld 1 2 (by decide) (by decide)).1
  have la2 : aggAt w8 ⟨nb + 1, 0, none⟩ 32 = idB (oneId 2) := (HA8.out.ld 1 2 (by decide) (by decide)).2
  have lf3 : fits w8 ⟨nb + 1 + 1, 0, none⟩ 32 := (HA8.out.ld 2 3 (by decide) (by decide)).1
  have la3 : aggAt w8 ⟨nb + 1 + 1, 0, none⟩ 32 = idB (oneId 3) := (HA8.out.ld 2 3 (by decide) (by decide)).2
  have lf4 : fits w8 ⟨nb + 1 + 1 + 1, 0, none⟩ 32 := (HA8.out.ld 3 4 (by decide) (by decide)).1
  have la4 : aggAt w8 ⟨nb + 1 + 1 + 1, 0, none⟩ 32 = idB (oneId 4) := (HA8.out.ld 3 4 (by decide) (by decide)).2
  go_wp2_with fail
  refine ((((HA8.out.alloc (.cells (idsC [oneId 2, oneId 3]).toArray 24)).add HNE.out HMB.out HMN.out 4 (some ⟨w8.heap.size, 0, none⟩) 2 2 [oneId 2, oneId 3] 4 X4 rfl (by decide) (by decide) x_e4 (slI_new w8 [oneId 2, oneId 3] 2 rfl (by simp [oneId_32]) (by simp) (by decide))))).mono ?_
  rintro e w9 ⟨rfl, hA⟩
  have HA9 := Lib.hid hA
  clear hA lf1 lf2 lf3 lf4 la1 la2 la3 la4
  have lf1 : fits w9 ⟨nb, 0, none⟩ 32 := (HA9.out.ld 0 1 (by decide) (by decide)).1
  have la1 : aggAt w9 ⟨nb, 0, none⟩ 32 = idB (oneId 1) := (HA9.out.ld 0 1 (by decide) (by decide)).2
  have lf2 : fits w9 ⟨nb + 1, 0, none⟩ 32 := (HA9.out.ld 1 2 (by decide) (by decide)).1
  have la2 : aggAt w9 ⟨nb + 1, 0, none⟩ 32 = idB (oneId 2) := (HA9.out.ld 1 2 (by decide) (by decide)).2
  have lf3 : fits w9 ⟨nb + 1 + 1, 0, none⟩ 32 := (HA9.out.ld 2 3 (by decide) (by decide)).1
  have la3 : aggAt w9 ⟨nb + 1 + 1, 0, none⟩ 32 = idB (oneId 3) := (HA9.out.ld 2 3 (by decide) (by decide)).2
  have lf4 : fits w9 ⟨nb + 1 + 1 + 1, 0, none⟩ 32 := (HA9.out.ld 3 4 (by decide) (by decide)).1
  have la4 : aggAt w9 ⟨nb + 1 + 1 + 1, 0, none⟩ 32 = idB (oneId 4) := (HA9.out.ld 3 4 (by decide) (by decide)).2
  go_wp2_with fail
  refine (log_any gb mb X4 (oneId 4) w9 (by decide) x_wf HA9.out.ga x_n4).mono ?_
  rintro e w10 ⟨vl, rfl, hrow, hb⟩
  rw [x_log] at hrow
  obtain ⟨al, cl, rfl, _, _, hl, _⟩ := SlI_row (by simp [oneId_32]) hrow
  have HL := Lib.hid hl
  have HA10 := Lib.hid (HA9.out.below hb)
  clear hl hb hrow lf1 lf2 lf3 lf4 la1 la2 la3 la4
  have lf1 : fits w10 ⟨nb, 0, none⟩ 32 := (HA10.out.ld 0 1 (by decide) (by decide)).1
  have la1 : aggAt w10 ⟨nb, 0, none⟩ 32 = idB (oneId 1) := (HA10.out.ld 0 1 (by decide) (by decide)).2
  have lf2 : fits w10 ⟨nb + 1, 0, none⟩ 32 := (HA10.out.ld 1 2 (by decide) (by decide)).1
  have la2 : aggAt w10 ⟨nb + 1, 0, none⟩ 32 = idB (oneId 2) := (HA10.out.ld 1 2 (by decide) (by decide)).2
  have lf3 : fits w10 ⟨nb + 1 + 1, 0, none⟩ 32 := (HA10.out.ld 2 3 (by decide) (by decide)).1
  have la3 : aggAt w10 ⟨nb + 1 + 1, 0, none⟩ 32 = idB (oneId 3) := (HA10.out.ld 2 3 (by decide) (by decide)).2
  have lf4 : fits w10 ⟨nb + 1 + 1 + 1, 0, none⟩ 32 := (HA10.out.ld 3 4 (by decide) (by decide)).1
  have la4 : aggAt w10 ⟨nb + 1 + 1 + 1, 0, none⟩ 32 = idB (oneId 4) := (HA10.out.ld 3 4 (by decide) (by decide)).2
  go_wp2_with fail
  refine (bases_any gb mb X4 (oneId 2) (oneId 3) w10 (by decide) x_wf HA10.out.ga x_n2 x_n3).mono ?_
  rintro e w11 ⟨vm, rfl, hrow, hb⟩
  rw [x_bases] at hrow
  obtain ⟨am, cm, rfl, _, _, hm, _⟩ := SlI_row (by simp [oneId_32]) hrow
  have HM := Lib.hid hm
  have HL11 := Lib.hid (HL.out.below hb)
  have HA11 := Lib.hid (HA10.out.below hb)
  clear hm hb hrow lf1 lf2 lf3 lf4 la1 la2 la3 la4
  have lf1 : fits w11 ⟨nb, 0, none⟩ 32 := (HA11.out.ld 0 1 (by decide) (by decide)).1
  have la1 : aggAt w11 ⟨nb, 0, none⟩ 32 = idB (oneId 1) := (HA11.out.ld 0 1 (by decide) (by decide)).2
  have lf2 : fits w11 ⟨nb + 1, 0, none⟩ 32 := (HA11.out.ld 1 2 (by decide) (by decide)).1
  have la2 : aggAt w11 ⟨nb + 1, 0, none⟩ 32 = idB (oneId 2) := (HA11.out.ld 1 2 (by decide) (by decide)).2
  have lf3 : fits w11 ⟨nb + 1 + 1, 0, none⟩ 32 := (HA11.out.ld 2 3 (by decide) (by decide)).1
  have la3 : aggAt w11 ⟨nb + 1 + 1, 0, none⟩ 32 = idB (oneId 3) := (HA11.out.ld 2 3 (by decide) (by decide)).2
  have lf4 : fits w11 ⟨nb + 1 + 1 + 1, 0, none⟩ 32 := (HA11.out.ld 3 4 (by decide) (by decide)).1
  have la4 : aggAt w11 ⟨nb + 1 + 1 + 1, 0, none⟩ 32 = idB (oneId 4) := (HA11.out.ld 3 4 (by decide) (by decide)).2
  have hq1 := (Below.refl w11.heap.size w11).alloc (Nat.le_refl _) (.cells (idsC [oneId 4, oneId 3, oneId 2, oneId 1]).toArray 24)
  have HQ1 := Lib.hid hq1
  clear hq1
  go_wp2_with fail
  refine (same_any al (some ⟨w11.heap.size, 0, none⟩) cl 4 [oneId 4, oneId 3, oneId 2, oneId 1] [oneId 4, oneId 3, oneId 2, oneId 1] _ (by decide) (by decide) (HL11.out.below HQ1.out) (ids_new w11 [oneId 4, oneId 3, oneId 2, oneId 1] (by simp [oneId_32]))).mono ?_
  rintro e w12 ⟨rfl, hb⟩
  have hq := HQ1.out.trans (hb.mono HQ1.out.size)
  have HM12 := Lib.hid (HM.out.below hq)
  have HA12 := Lib.hid (HA11.out.below hq)
  clear hb hq lf1 lf2 lf3 lf4 la1 la2 la3 la4
  have lf1 : fits w12 ⟨nb, 0, none⟩ 32 := (HA12.out.ld 0 1 (by decide) (by decide)).1
  have la1 : aggAt w12 ⟨nb, 0, none⟩ 32 = idB (oneId 1) := (HA12.out.ld 0 1 (by decide) (by decide)).2
  have lf2 : fits w12 ⟨nb + 1, 0, none⟩ 32 := (HA12.out.ld 1 2 (by decide) (by decide)).1
  have la2 : aggAt w12 ⟨nb + 1, 0, none⟩ 32 = idB (oneId 2) := (HA12.out.ld 1 2 (by decide) (by decide)).2
  have lf3 : fits w12 ⟨nb + 1 + 1, 0, none⟩ 32 := (HA12.out.ld 2 3 (by decide) (by decide)).1
  have la3 : aggAt w12 ⟨nb + 1 + 1, 0, none⟩ 32 = idB (oneId 3) := (HA12.out.ld 2 3 (by decide) (by decide)).2
  have lf4 : fits w12 ⟨nb + 1 + 1 + 1, 0, none⟩ 32 := (HA12.out.ld 3 4 (by decide) (by decide)).1
  have la4 : aggAt w12 ⟨nb + 1 + 1 + 1, 0, none⟩ 32 = idB (oneId 4) := (HA12.out.ld 3 4 (by decide) (by decide)).2
  have hq1 := (Below.refl w12.heap.size w12).alloc (Nat.le_refl _) (.cells (idsC [oneId 1]).toArray 24)
  have HQ2 := Lib.hid hq1
  have hss1 : ([oneId 4, oneId 3, oneId 2, oneId 1] == [oneId 4, oneId 3, oneId 2, oneId 1]) = true := beq_self_eq_true _
  clear hq1
  go_wp2_with fail
  refine (same_any am (some ⟨w12.heap.size, 0, none⟩) cm 1 [oneId 1] [oneId 1] _ (by decide) (by decide) (HM12.out.below HQ2.out) (ids_new w12 [oneId 1] (by simp [oneId_32]))).mono ?_
  rintro e w13 ⟨rfl, hb⟩
  have hq := HQ2.out.trans (hb.mono HQ2.out.size)
  have HA13 := Lib.hid (HA12.out.below hq)
  have hss2 : ([oneId 1] == [oneId 1]) = true := beq_self_eq_true _
  clear hb hq lf1 lf2 lf3 lf4 la1 la2 la3 la4
  have lf1 : fits w13 ⟨nb, 0, none⟩ 32 := (HA13.out.ld 0 1 (by decide) (by decide)).1
  have la1 : aggAt w13 ⟨nb, 0, none⟩ 32 = idB (oneId 1) := (HA13.out.ld 0 1 (by decide) (by decide)).2
  have lf2 : fits w13 ⟨nb + 1, 0, none⟩ 32 := (HA13.out.ld 1 2 (by decide) (by decide)).1
  have la2 : aggAt w13 ⟨nb + 1, 0, none⟩ 32 = idB (oneId 2) := (HA13.out.ld 1 2 (by decide) (by decide)).2
  have lf3 : fits w13 ⟨nb + 1 + 1, 0, none⟩ 32 := (HA13.out.ld 2 3 (by decide) (by decide)).1
  have la3 : aggAt w13 ⟨nb + 1 + 1, 0, none⟩ 32 = idB (oneId 3) := (HA13.out.ld 2 3 (by decide) (by decide)).2
  have lf4 : fits w13 ⟨nb + 1 + 1 + 1, 0, none⟩ 32 := (HA13.out.ld 3 4 (by decide) (by decide)).1
  have la4 : aggAt w13 ⟨nb + 1 + 1 + 1, 0, none⟩ 32 = idB (oneId 4) := (HA13.out.ld 3 4 (by decide) (by decide)).2
  go_wp2_with fail
  refine (is_any gb mb X4 (oneId 1) (oneId 4) (oneId_32 1) (oneId_32 4) w13 (by decide) x_wf HA13.out.ga).mono ?_
  rintro e w14 ⟨rfl, hb⟩
  rw [x_is.1]
  have HA14 := Lib.hid (HA13.out.below hb)
  clear hb lf1 lf2 lf3 lf4 la1 la2 la3 la4
  have lf1 : fits w14 ⟨nb, 0, none⟩ 32 := (HA14.out.ld 0 1 (by decide) (by decide)).1
  have la1 : aggAt w14 ⟨nb, 0, none⟩ 32 = idB (oneId 1) := (HA14.out.ld 0 1 (by decide) (by decide)).2
  have lf2 : fits w14 ⟨nb + 1, 0, none⟩ 32 := (HA14.out.ld 1 2 (by decide) (by decide)).1
  have la2 : aggAt w14 ⟨nb + 1, 0, none⟩ 32 = idB (oneId 2) := (HA14.out.ld 1 2 (by decide) (by decide)).2
  have lf3 : fits w14 ⟨nb + 1 + 1, 0, none⟩ 32 := (HA14.out.ld 2 3 (by decide) (by decide)).1
  have la3 : aggAt w14 ⟨nb + 1 + 1, 0, none⟩ 32 = idB (oneId 3) := (HA14.out.ld 2 3 (by decide) (by decide)).2
  have lf4 : fits w14 ⟨nb + 1 + 1 + 1, 0, none⟩ 32 := (HA14.out.ld 3 4 (by decide) (by decide)).1
  have la4 : aggAt w14 ⟨nb + 1 + 1 + 1, 0, none⟩ 32 = idB (oneId 4) := (HA14.out.ld 3 4 (by decide) (by decide)).2
  go_wp2_with fail
  refine (is_any gb mb X4 (oneId 4) (oneId 1) (oneId_32 4) (oneId_32 1) w14 (by decide) x_wf HA14.out.ga).mono ?_
  rintro e w15 ⟨rfl, hb⟩
  rw [x_is.2]
  have HA15 := Lib.hid (HA14.out.below hb)
  clear hb lf1 lf2 lf3 lf4 la1 la2 la3 la4
  go_wp2_with fail
  go_ret
  exact ⟨rfl, HA15.out.bl⟩
end Go.Proofs.Ytmmmimkikakalaa
