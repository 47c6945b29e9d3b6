/- Stores of whole ids into rows; Copy. -/
import Derived.Test.YteielgdgmmeciaaRa
namespace Go.Proofs.Yteielgdgmmeciaa
open Go.RowKit
set_option linter.unusedVariables false

/-- n cells lie there, and may be written. -/
def fitsZ (w : World) (a : Addr) (n : Nat) : Prop := a.spot = none ∧ ∃ c e, w.heap[a.block]? = some (.cells c e (0, 0)) ∧ a.off + n ≤ c.size
/-- The world with these cells put there. -/
def putAt (w : World) (a : Addr) (c : Array Value) : World :=
  match w.heap[a.block]? with
  | some (.cells cur _ _) => w.setRow a.block (cur.toList.take a.off ++ c.toList ++ cur.toList.drop (a.off + c.size)).toArray
  | _ => w

theorem run_storeCells_at {P : Program} (g : Nat) (t : TypeId) (o : Nat) : ∀ (vs : List Value) (i : Nat) (cur : Array Value) (w : World), w.heap[g]? = some (.cells cur t (0, 0)) → o + i + vs.length ≤ cur.size → (∀ v ∈ vs, v.oneCell' = true) →
    (storeCells ⟨g, o, none⟩ vs i).run P w = .ok () (w.setRow g (cur.toList.take (o + i) ++ vs ++ cur.toList.drop (o + i + vs.length)).toArray)
  | [], i, cur, w, hg, hl, _ => by
    have hlt : g < w.heap.size := (Array.getElem?_eq_some_iff.1 hg).1
    have hv : w.heap[g] = .cells cur t (0, 0) := (Array.getElem?_eq_some_iff.1 hg).2
    simp only [storeCells, List.append_nil, List.length_nil, Nat.add_zero, List.take_append_drop, Array.toArray_toList]
    show Result.ok () w = _
    congr 1
    unfold World.setRow
    cases w with
    | mk heap tape drawn os output =>
      congr 1
      apply Array.ext
      · simp
      · intro k h1 h2
        simp only [Array.getElem_modify]
        split
        · rename_i hk; subst hk; simp at hv; simp [hv]
        · rfl
  | v :: rest, i, cur, w, hg, hl, h1 => by
    simp only [List.length_cons] at hl
    have hi : o + i < cur.size := by omega
    have hadd : (⟨g, o, none⟩ : Addr).add i = ⟨g, o + i, none⟩ := by unfold Addr.add; split <;> simp_all
    have hcell : w.cell? ⟨g, o + i, none⟩ = some cur[o + i] := by simp [World.cell?, hg, hi]
    have hfro : w.frozen? ⟨g, o + i, none⟩ = false := by simp [World.frozen?, hg]
    have hst : (store ((⟨g, o, none⟩ : Addr).add i) v).run P w = .ok () (w.setRow g (cur.setIfInBounds (o + i) v)) := by
      rw [hadd, run_store P w _ v _ (h1 v (by simp)), hcell]
      simp [hfro, setCell_eq_setRow w g (o + i) cur t (0, 0) v hg]
    have ih := run_storeCells_at (P := P) g t o rest (i + 1) (cur.setIfInBounds (o + i) v) (w.setRow g (cur.setIfInBounds (o + i) v)) (setRow_heap w g cur _ t _ hg) (by simp; omega) (fun x hx => h1 x (by simp [hx]))
    simp only [storeCells, Sem.run_bind, hst, Result.andThen_ok, ih, setRow_setRow]
    congr 3
    simp only [Array.toList_setIfInBounds, List.length_cons]
    have e1 : (cur.toList.set (o + i) v).take (o + (i + 1)) = cur.toList.take (o + i) ++ [v] := by
      rw [show o + (i + 1) = o + i + 1 by omega, List.take_succ_eq_append_getElem (by simp; omega)]
      simp [List.take_set_of_le]
    have e2 : (cur.toList.set (o + i) v).drop (o + (i + 1) + rest.length) = cur.toList.drop (o + i + (rest.length + 1)) := by
      rw [List.drop_set, if_pos (by omega)]
      congr 1; omega
    rw [e1, e2]
    simp

theorem run_storeVar_at {P : Program} (w : World) (a : Addr) (ty : TypeId) (c : Array Value) (hf : fitsZ w a c.size) (hi : (P.info? ty).map (·.size) = some c.size) (h1 : c.all (·.oneCell') = true) :
    (storeVar ty a (.agg c)).run P w = .ok () (putAt w a c) := by
  obtain ⟨hs, cur, e, hh, hl⟩ := hf
  obtain ⟨g, o, s⟩ := a
  simp only at hs hh hl
  subst hs
  have := run_storeCells_at (P := P) g e o c.toList 0 cur w hh (by simp; omega) (fun v hv => (Array.all_eq_true_iff_forall_mem.1 h1) v (by simpa using hv))
  cases hq : P.info? ty with
  | none => simp [hq] at hi
  | some i =>
    have hsz : c.size = i.size := by simp [hq] at hi; omega
    simp [storeVar, Value.cells, Sem.run_bind, sizeOf, typeInfo, hq, hsz, this, putAt, hh]

@[go_sem ↓] theorem store23r (f : Operand → Value) (x y : Operand) (dst : Option Tmp) (ty' : TypeId) (pos : String) (after : Array Edge) (guard : Option (Nat × Bool)) (w : World)
    (hp : isPtr (f x) = true) (hf : fitsZ w (addrOf (f x)) 32) (hy : idOk (f y)) :
    (execOp f ⟨dst, .store 23 x y, ty', pos, after, guard⟩).run Try.prog w = .ok .skip (putAt w (addrOf (f x)) (aggOf (f y))) := by
  obtain ⟨z, hz, hl⟩ := hy
  have hsz : (idB z).size = 32 := by rw [idB_size, hl]
  have h23 : (Try.prog.info? 23).map (·.size) = some 32 := by kernel_rfl
  cases hfx : f x with
  | pointer a =>
    cases a with
    | none => rw [hfx] at hp; simp [isPtr] at hp
    | some a =>
      rw [hfx] at hf
      simp only [addrOf_ptr] at hf
      have hr := run_storeVar_at (P := Try.prog) w a 23 (idB z) (by rw [hsz]; exact hf) (by rw [h23, hsz]) (idB_one z)
      unfold execOp
      simp only [hfx, hz, Instr.storeAt, Instr.sureAddr, Sem.run_bind, Sem.run_pure, Result.andThen_ok, hr, aggOf_agg, addrOf_ptr]
  | _ => rw [hfx] at hp; simp [isPtr] at hp

theorem idsC_set : ∀ (O : List (List UInt8)) (k : Nat) (x : List UInt8), (∀ z ∈ O, z.length = 32) → x.length = 32 → k < O.length → idsC (O.set k x) = (idsC O).take (k * 32) ++ Lib.byteCells x ++ (idsC O).drop (k * 32 + 32)
  | [], k, x, _, _, h => by simp at h
  | z :: O, 0, x, h, hx, _ => by
    have hl : (Lib.byteCells z).length = 32 := by rw [Lib.byteCells_length, h z (by simp)]
    rw [List.set_cons_zero, idsC_cons, idsC_cons, Nat.zero_mul, List.take_zero, List.nil_append, Nat.zero_add, List.drop_append, hl, List.drop_of_length_le (by omega)]
    simp
  | z :: O, k + 1, x, h, hx, hk => by
    have hl : (Lib.byteCells z).length = 32 := by rw [Lib.byteCells_length, h z (by simp)]
    rw [List.set_cons_succ, idsC_cons, idsC_cons, idsC_set O k x (fun y hy => h y (by simp [hy])) hx (by simpa using hk), List.take_append, List.drop_append, List.take_of_length_le (show (Lib.byteCells z).length ≤ (k + 1) * 32 by rw [hl]; omega), List.drop_of_length_le (show (Lib.byteCells z).length ≤ (k + 1) * 32 + 32 by rw [hl]; omega), hl,
      show (k + 1) * 32 - 32 = k * 32 by omega, show (k + 1) * 32 + 32 - 32 = k * 32 + 32 by omega]
    simp

/-- An element of a row is written. -/
theorem rowI_put {w : World} {base g : Nat} {len cap : Nat} {O : List (List UInt8)} {x : List UInt8} {k : Nat} (h32 : ∀ z ∈ O, z.length = 32) (hx : x.length = 32) (hk : k < O.length)
    (h : rowI base O (.slice (some ⟨g, 0, none⟩) len cap) w) :
    rowI base (O.set k x) (.slice (some ⟨g, 0, none⟩) len cap) (putAt w ⟨g, k * 32, none⟩ (idB x)) ∧ Below base w (putAt w ⟨g, k * 32, none⟩ (idB x)) := by
  obtain ⟨hl, ⟨he, _⟩ | ⟨g', cap', cur, he, hg, hh, hc, hm, hs, ht⟩⟩ := h
  · cases he
  · cases he
    have hz : (idB x).size = 32 := by rw [idB_size, hx]
    have hsz : O.length * 32 ≤ cur.size := by rw [hs]; omega
    have hk32 : k * 32 + 32 ≤ O.length * 32 := by omega
    have hp : putAt w ⟨g, k * 32, none⟩ (idB x) = w.setRow g (cur.toList.take (k * 32) ++ (idB x).toList ++ cur.toList.drop (k * 32 + 32)).toArray := by
      unfold putAt; simp only [hh, hz]
    rw [hp]
    refine ⟨⟨by rw [idsC_length _ (fun z hz => by rcases List.mem_or_eq_of_mem_set hz with h | h; exact h32 z h; rw [h]; exact hx)], .inr ⟨g, cap, _, by simp, hg, setRow_heap w g cur _ _ _ hh, by simpa using hc, hm, ?_, ?_⟩⟩, ⟨rfl, rfl, rfl, by simp, fun j hj => setRow_other w g j _ (by omega)⟩⟩
    · simp only [List.size_toArray, List.length_append, List.length_take, List.length_drop, Array.length_toList, hz]; omega
    · have hb : (idB x).toList = Lib.byteCells x := by simp [idB]
      rw [idsC_set O k x h32 hx hk, ← ht, hb]
      have lb : (Lib.byteCells x).length = 32 := by rw [Lib.byteCells_length, hx]
      rw [List.length_set, List.take_take, Nat.min_eq_left (by omega), List.drop_take, List.take_append, List.take_of_length_le (by simp [lb]; omega)]
      congr 2
      simp [lb]; omega
theorem rowI_fitsZ {w : World} {base g : Nat} {len cap : Nat} {O : List (List UInt8)} {k : Nat} (hk : k < O.length) (h : rowI base O (.slice (some ⟨g, 0, none⟩) len cap) w) : fitsZ w ⟨g, k * 32, none⟩ 32 := by
  obtain ⟨hl, ⟨he, _⟩ | ⟨g', cap', cur, he, hg, hh, hc, hm, hs, ht⟩⟩ := h
  · cases he
  · cases he
    exact ⟨rfl, cur, 23, hh, by simp only; rw [hs]; omega⟩

theorem row_empty (w : World) : rowI w.heap.size [] (.slice (some ⟨w.heap.size, 0, none⟩) 0 0) (w.alloc (.cells #[] 23)) :=
  ⟨by simp [idsC], .inr ⟨w.heap.size, 0, #[], rfl, Nat.le_refl _, (MapKept.heap_alloc w _).1, by simp, by unfold maxLen; omega, by simp, by simp [idsC]⟩⟩

set_option maxHeartbeats 1000000 in
set_option maxRecDepth 100000 in
theorem copy_any (a : Option Addr) (cap : Nat) (xs : List (List UInt8)) (w : World) (hm : xs.length ≤ 1000000) (hin : IdsIn w a xs) (hn : a = none → xs = [] ∧ cap = 0) :
    Calls Try.prog 18 #[.slice a xs.length cap] w fun e w' => ∃ v, e = .returned v ∧ rowI w.heap.size xs v w' ∧ Below w.heap.size w w' := by
  have hb := (Below.refl w.heap.size w).alloc (Nat.le_refl _) (.cells #[] 23)
  have hr := row_empty w
  have hin1 := hin.below hb
  have HB := Lib.hid hb
  have HR := Lib.hid hr
  have HIN := Lib.hid hin1
  have HN := Lib.hid hn
  have HC := Lib.hid (show ([] : List (List UInt8)).length + xs.length ≤ 4000000 by simp; omega)
  have HO := Lib.hid (show xs = [] ++ xs by simp)
  clear hb hr hin hin1 hn
  go_enter Try.func18, Try.ntmps18
  go_wp2_with (at_builtin; refine wpList_append_to rfl _ _ rfl w.heap.size _ [] xs xs HO.out rfl HR.out a cap rfl HIN.out HN.out HC.out HB.out.size ?_)
  rintro v' w' hown hb
  have HO := Lib.hid hown
  have HB2 := Lib.hid (HB.out.trans hb)
  clear hown hb
  go_wp2
  go_ret
  exact ⟨_, rfl, HO.out, HB2.out⟩

end Go.Proofs.Yteielgdgmmeciaa
