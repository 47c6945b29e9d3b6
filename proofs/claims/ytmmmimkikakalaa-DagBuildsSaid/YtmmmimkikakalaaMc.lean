/- Has. -/
import Derived.Test.YtmmmimkikakalaaMb
import Derived.Laws.CopyOwn
namespace Go.Proofs.Ytmmmimkikakalaa
open Go.RowKit Go.Maps
set_option linter.unusedVariables false

theorem ownsMap_below {w w' : World} {mb n : Nat} {D : DataW Unit} {k : TypeId} {R : Value → Option (DataW Unit × List MemPlace)} (h : w.ownsMap Try.prog k R mb n D) (hb : Below w.heap.size w w') : w'.ownsMap Try.prog k R mb n D := by
  obtain ⟨es, clock, hh, F, hs, hD⟩ := h
  exact ⟨es, clock, (hb.block mb (Array.getElem?_eq_some_iff.1 hh).1).trans hh, F, hs, hD⟩
theorem nodR_one {v v' : Value} {d : DataW Unit} {ps ps' : List MemPlace} (h : nodR v = some (d, ps)) (h' : nodR v' = some (d, ps')) : v = v' := by
  obtain ⟨a, n, c, s, rfl, rfl, _, ha⟩ := nodR_inv h
  obtain ⟨a', n', c', s', rfl, he, _, ha'⟩ := nodR_inv h'
  obtain ⟨rfl, rfl, rfl, rfl⟩ := ndD_inj ha ha' he
  rfl
/-- What a look-up gives, in this world and in every later one. -/
theorem look_at {w : World} {mb n : Nat} {D : DataW Unit} (h : w.ownsMap Try.prog 59 nodR mb n D) : True := trivial
theorem look24 {w : World} {mb n : Nat} {D : DataW Unit} (h : w.ownsMap Try.prog 24 nodR mb n D) (x : List UInt8) (hx : x.length = 32) :
    ∃ V, nodR V = some (D.atKey (kL x) (ndD none 0 0 0), []) ∧ ∀ w', Below w.heap.size w w' →
      (Instr.lookup 59 (.map (some mb)) (.agg (idB x)) true).run Try.prog w' = .ok (.tuple #[V, .bool (Maps.has D (kL x))]) w' ∧ (Instr.lookup 59 (.map (some mb)) (.agg (idB x)) false).run Try.prog w' = .ok V w' := by
  obtain ⟨V, ps, _, hV⟩ := h.look_ok keyed24 Try.underlying59 (zero58 w) (nodR_none 0 0 0) (key24 x hx)
  have hps : ps = [] := by obtain ⟨_, _, _, _, _, _, h, _⟩ := nodR_inv hV; exact h
  subst hps
  refine ⟨V, hV, fun w' hb => ⟨?_, ?_⟩⟩
  · obtain ⟨V', ps', hr, hV'⟩ := (ownsMap_below h hb).look_ok keyed24 Try.underlying59 (zero58 w') (nodR_none 0 0 0) (key24 x hx)
    rw [hr, nodR_one hV' hV]
  · obtain ⟨V', ps', hr, hV'⟩ := (ownsMap_below h hb).lookup keyed24 Try.underlying59 (zero58 w') (nodR_none 0 0 0) (key24 x hx)
    rw [hr, nodR_one hV' hV]
theorem fits_below {w w' : World} {a : Addr} {n : Nat} (hb : Below w.heap.size w w') (h : fits w a n) : fits w' a n := fits_of_block (hb.block a.block h.lt) h
theorem agg_below {w w' : World} {a : Addr} {n : Nat} (hb : Below w.heap.size w w') (h : fits w a n) : aggAt w' a n = aggAt w a n := aggAt_of_block (hb.block a.block h.lt)
/-- What an operation of a region does that lays a node and stores it. -/
def rb58 (base : Nat) (w w' : World) : Prop := Below base w w' ∧ ∀ g c, base ≤ g → w.heap[g]? = some (Obj.cells c 58 (0, 0)) → c.size = 2 → ∃ c', w'.heap[g]? = some (Obj.cells c' 58 (0, 0)) ∧ c'.size = 2
def bx58 (base : Nat) : Value → World → Prop := fun v w => ∃ g, v = .pointer (some ⟨g, 0, none⟩) ∧ base ≤ g ∧ ∃ c, w.heap[g]? = some (Obj.cells c 58 (0, 0)) ∧ c.size = 2
theorem bx58_st {base : Nat} {v : Value} {w w' : World} (h : bx58 base v w) (hr : rb58 base w w') : bx58 base v w' := by
  obtain ⟨g, rfl, hg, c, hc, hs⟩ := h
  obtain ⟨c', h1, h2⟩ := hr.2 g c hg hc hs
  exact ⟨g, rfl, hg, c', h1, h2⟩
theorem rb58_b {base : Nat} {w w' : World} (hs : base ≤ w.heap.size) (h : Below w.heap.size w w') : rb58 base w w' := ⟨h.mono hs, fun g c _ hc h2 => ⟨c, (h.block g (Array.getElem?_eq_some_iff.1 hc).1).trans hc, h2⟩⟩
theorem rb58_r {base : Nat} {W w : World} (hG : Below base W w) : rb58 base w w := ⟨Below.refl _ _, fun g c _ hc h2 => ⟨c, hc, h2⟩⟩
theorem rb58_s {base g : Nat} {w : World} {c cs : Array Value} (hg : base ≤ g) (hh : w.heap[g]? = some (.cells c 58 (0, 0))) (h2 : cs.size = 2) : rb58 base w (w.setRow g cs) := by
  refine ⟨below_setRow (Below.refl _ _) hg cs, fun g' c' hg' hc hs => ?_⟩
  by_cases he : g' = g
  · subst he
    exact ⟨cs, setRow_heap w g' c cs 58 (0, 0) hh, h2⟩
  · exact ⟨c', (setRow_other w g g' cs he).trans hc, hs⟩
def nodOk (v : Value) : Prop := ∃ a n c s, v = nodV a n c s
@[go_sem ↓] theorem store58g (f : Operand → Value) (x y : Operand) (dst : Option Tmp) (ty' : TypeId) (pos : String) (after : Array Edge) (guard : Option (Nat × Bool)) (w : World)
    (hp : isPtr (f x) = true) (hf : (addrOf (f x)).off = 0) (hs : (addrOf (f x)).spot = none) (ho : szAt w (addrOf (f x)).block = some 2) (hy : nodOk (f y)) :
    (execOp f ⟨dst, .store 58 x y, ty', pos, after, guard⟩).run Try.prog w = .ok .skip (w.setRow (addrOf (f x)).block (aggOf (f y))) := by
  obtain ⟨a, n, c0, s0, hz⟩ := hy
  have h58 : (Try.prog.info? 58).map (·.size) = some 2 := by kernel_rfl
  cases hfx : f x with
  | pointer a' =>
    cases a' with
    | none => rw [hfx] at hp; simp [isPtr] at hp
    | some a' =>
      obtain ⟨b, o, sp⟩ := a'
      rw [hfx] at hf hs ho
      simp only [addrOf_ptr] at hf hs ho
      subst hf hs
      unfold szAt at ho
      split at ho
      · rename_i c t fr hh
        split at ho
        case isFalse => cases ho
        rename_i hfr
        subst hfr
        simp only [Option.some.injEq] at ho
        have hr := run_storeVar_row (P := Try.prog) w b t 58 c #[.slice a n c0, .int .i64 s0] hh (by rw [h58]; rfl) (by rw [ho]; rfl) (by simp [Value.oneCell'])
        unfold execOp
        simp only [hfx, hz, nodV, Instr.storeAt, Instr.sureAddr, Sem.run_bind, Sem.run_pure, Result.andThen_ok, hr, aggOf_agg, addrOf_ptr]
      · cases ho
  | _ => rw [hfx] at hp; simp [isPtr] at hp
@[go_sem] theorem nodOk_V {v : Value} (h : nodOk v) : nodOk v ∧ (aggOf v).size = 2 := by
  obtain ⟨a, n, c, s, rfl⟩ := h
  exact ⟨⟨_, _, _, _, rfl⟩, rfl⟩

set_option maxHeartbeats 2000000 in
set_option maxRecDepth 100000 in
theorem has_any (gb mb : Nat) (G : List GN) (x : List UInt8) (hx : x.length = 32) (w : World) (hG : GraphAt w gb mb G) :
    Calls Try.prog 25 #[.pointer (some ⟨gb, 0, none⟩), .agg (idB x)] w fun e w' => e = .returned (.bool (decide (x ∈ G.map (·.1)))) ∧ Below w.heap.size w w' := by
  obtain ⟨W, hW⟩ : ∃ W, W = w.alloc (.cells (idB x) 24) := ⟨_, rfl⟩
  have hb0 := (Below.refl w.heap.size w).alloc (Nat.le_refl _) (.cells (idB x) 24)
  obtain ⟨blk, hblk⟩ : ∃ b, b = w.heap.size := ⟨_, rfl⟩
  have f1 : fits (w.alloc (.cells (idB x) 24)) ⟨w.heap.size, 0, none⟩ 32 := ⟨rfl, idB x, 24, (0, 0), (MapKept.heap_alloc w _).1, by show 0 + 32 ≤ (idB x).size; rw [idB_size, hx]; exact Nat.le_refl _⟩
  have f2 : aggAt (w.alloc (.cells (idB x) 24)) ⟨w.heap.size, 0, none⟩ 32 = idB x := by
    unfold aggAt
    simp only [(MapKept.heap_alloc w _).1]
    apply Array.ext'
    have : (idB x).toList.length ≤ 32 := by rw [Array.length_toList, idB_size, hx]; exact Nat.le_refl _
    simp [List.take_of_length_le this]
  rw [← hW, ← hblk] at f1 f2
  rw [← hW] at hb0
  have hga := hG.below hb0
  have HGA := Lib.hid hga
  obtain ⟨D, n, hn, ho, hd⟩ := hga.map
  obtain ⟨V, hV, hlk⟩ := look24 ho x hx
  have HLK := Lib.hid (fun w' hb => (hlk w' hb).1)
  have HVN := Lib.hid (show nodOk V from by obtain ⟨a, n, c, s, h, _⟩ := nodR_inv hV; exact ⟨a, n, c, s, h⟩)
  rw [hd.has x hx] at HLK
  have HB0 := Lib.hid hb0
  have HF1 := Lib.hid f1
  have HF2 := Lib.hid f2
  clear hG hga ho hd hV hlk hn f1 f2 hb0
  generalize decide (x ∈ G.map (·.1)) = h at *
  go_enter Try.func25, Try.ntmps25
  go_upto_region 1 with fail
  rw [← hW]
  clear hW
  rw [← hblk]
  clear hblk
  go_upto_region 3 with fail
  refine wp_region_specs2 [[], [0], [1], [2], [], [3, 4], [5], [6], [6], [], [7, 9], [8]] [some 10, some 11, some 12, some 13, some 14, some 15, some 9, some 16, some 17, some 5, none, some 6] [0, 1, 2, 3, 4, 5, 6, 7, 8, 9, 10, 11]
    (fun w_ => Below W.heap.size W w_) (fun i w_ => True) (fun _ => rb58 W.heap.size)
    (fun ix_ => [eqv (Value.pointer (some ⟨gb, 0, none⟩)), eqv (Value.pointer (some ⟨gb, 0, none⟩)), eqv (Value.pointer (some ⟨gb, 0, none⟩)), eqv (Value.map (some mb)), eqv (Value.agg (idB x)), eqv (Value.tuple #[V, .bool h]), eqv (Value.tuple #[V, .bool h]), eqv (V), eqv (Value.bool h), bx58 W.heap.size, anyv, eqv (Value.bool h)].getD ix_ anyv) (by kernel_rfl) (by kernel_rfl) (below_drewN (Below.refl _ _) 1) (fun _ => trivial) (fun j w_ w_' hg hr => hg.trans hr.1) ?_ ?_ ?_ ?_
  · exact fun _ _ _ _ _ _ _ _ => trivial
  · intro i j v w_ w_' hij hd h hr
    match i, hij, hd, h with
    | 0, _, _, h => exact h
    | 1, _, _, h => exact h
    | 2, _, _, h => exact h
    | 3, _, _, h => exact h
    | 4, _, _, h => exact h
    | 5, _, _, h => exact h
    | 6, _, _, h => exact h
    | 7, _, _, h => exact h
    | 8, _, _, h => exact h
    | 9, _, _, h => exact bx58_st h hr
    | 10, _, _, h => exact h
    | 11, _, _, h => exact h
    | i + 12, _, _, h => exact trivial
  · refine ⟨?_, ?_, ?_, ?_, ?_, ?_, ?_, ?_, ?_, ?_, ?_, ?_, trivial⟩
    · intro vs wq hG hP hd
      simp only [putL]
      clear hd hP 
      go_wp2
      exact ⟨rfl, rfl, rb58_r hG, rfl⟩
    · intro vs wq hG hP hd
      have h0 := hd.get 0 rfl
      change vs 0 = _ at h0
      simp only [putL, h0]
      clear hd hP h0
      go_wp2
      exact ⟨rfl, rfl, rb58_r hG, rfl⟩
    · intro vs wq hG hP hd
      have h1 := hd.get 1 rfl
      change vs 1 = _ at h1
      simp only [putL, h1]
      clear hd hP h1
      go_wp2
      exact ⟨rfl, rfl, rb58_r hG, rfl⟩
    · intro vs wq hG hP hd
      have h2 := hd.get 2 rfl
      change vs 2 = _ at h2
      have n1 := (HGA.out.below hG).cell
      simp only [putL, h2]
      clear hd hP h2
      go_wp2
      exact ⟨rfl, rfl, rb58_r hG, rfl⟩
    · intro vs wq hG hP hd
      have n1 := fits_below hG HF1.out
      have n2 := (agg_below hG HF1.out).trans HF2.out
      simp only [putL]
      clear hd hP 
      go_wp2
      exact ⟨rfl, rfl, rb58_r hG, rfl⟩
    · intro vs wq hG hP hd
      have h3 := hd.get 3 rfl
      change vs 3 = _ at h3
      have h4 := hd.get 4 rfl
      change vs 4 = _ at h4
      have n1 := HLK.out wq hG
      simp only [putL, h3, h4]
      clear hd hP h3 h4
      go_wp2
      exact ⟨rfl, rfl, rb58_r hG, rfl⟩
    · intro vs wq hG hP hd
      have h5 := hd.get 5 rfl
      change vs 5 = _ at h5
      simp only [putL, h5]
      clear hd hP h5
      go_wp2
      exact ⟨rfl, rfl, rb58_r hG, rfl⟩
    · intro vs wq hG hP hd
      have h6 := hd.get 6 rfl
      change vs 6 = _ at h6
      simp only [putL, h6]
      clear hd hP h6
      go_wp2
      exact ⟨rfl, rfl, rb58_r hG, rfl⟩
    · intro vs wq hG hP hd
      have h6 := hd.get 6 rfl
      change vs 6 = _ at h6
      simp only [putL, h6]
      clear hd hP h6
      go_wp2
      exact ⟨rfl, rfl, rb58_r hG, rfl⟩
    · intro vs wq hG hP hd
      simp only [putL]
      have HGS := Lib.hid hG.size
      clear hd hP hG 
      go_wp2
      exact ⟨rfl, rfl, rb58_b HGS.out ((Below.refl _ _).alloc (Nat.le_refl _) _), wq.heap.size, rfl, HGS.out, _, (MapKept.heap_alloc wq _).1, rfl⟩
    · intro vs wq hG hP hd
      have h7 := hd.get 7 rfl
      change vs 7 = _ at h7
      obtain ⟨g9, h9, h9g, c9, h9h, h9s⟩ := hd.get 9 rfl
      have n1 := HVN.out
      simp only [putL, h7, h9]
      have H9 := Lib.hid (show wq.heap[g9]? = some (.cells c9 58 (0, 0)) from h9h)
      have H9S := Lib.hid h9s
      have H9G := Lib.hid h9g
      have hz9 : szAt wq g9 = some 2 := by unfold szAt; rw [h9h]; simp [h9s]
      clear hd hP hG h9h h9s h9g h7 h9
      go_wp2
      exact ⟨rfl, rfl, rb58_s H9G.out H9.out (nodOk_V HVN.out).2, trivial⟩
    · intro vs wq hG hP hd
      have h8 := hd.get 8 rfl
      change vs 8 = _ at h8
      simp only [putL, h8]
      clear hd hP h8
      go_wp2
      exact ⟨rfl, rfl, rb58_r hG, rfl⟩
  · intro vs wz hG hd
    have h0 := hd.get 0 rfl
    change vs 0 = _ at h0
    have h1 := hd.get 1 rfl
    change vs 1 = _ at h1
    have h2 := hd.get 2 rfl
    change vs 2 = _ at h2
    have h3 := hd.get 3 rfl
    change vs 3 = _ at h3
    have h4 := hd.get 4 rfl
    change vs 4 = _ at h4
    have h5 := hd.get 5 rfl
    change vs 5 = _ at h5
    have h6 := hd.get 6 rfl
    change vs 6 = _ at h6
    have h7 := hd.get 7 rfl
    change vs 7 = _ at h7
    have h8 := hd.get 8 rfl
    change vs 8 = _ at h8
    obtain ⟨g9, h9, _⟩ := hd.get 9 rfl
    have h11 := hd.get 11 rfl
    change vs 11 = _ at h11
    have HZ := Lib.hid hG
    simp only [putL, List.getD_cons_zero, List.getD_cons_succ, Act.put, List.setIfInBounds_toArray, List.set_cons_zero, List.set_cons_succ, h0, h1, h2, h3, h4, h5, h6, h7, h8, h9, h11]
    clear hd hG h0 h1 h2 h3 h4 h5 h6 h7 h8 h9 h11
    go_wp2
    go_ret
    exact ⟨rfl, HB0.out.trans (HZ.out.mono HB0.out.size)⟩
end Go.Proofs.Ytmmmimkikakalaa
