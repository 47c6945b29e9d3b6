/- Stores of whole ids into rows; Copy. -/
import Derived.Test.YtmmmimkikakalaaRa
namespace Go.Proofs.Ytmmmimkikakalaa
open Go.RowKit
set_option linter.unusedVariables false

/-- n cells lie there, and may be written. -/
def fitsZ (w : World) (a : Addr) (n : Nat) : Prop := a.spot = none ∧ ∃ c e, w.heap[a.block]? = some (.cells c e (0, 0)) ∧ a.off + n ≤ c.size
/-- The world with these cells put there. -/
def putAt (w : World) (a : Addr) (c : Array Value) : World :=
  match w.heap[a.block]? with
  | some (.cells cur _ _) => w.setRow a.block (cur.toList.take a.off ++ c.toList ++ cur.toList.drop (a.off + c.size)).toArray
  | _ => w

theorem run_storeCells_at {P : Program} (g : Nat) (t : TypeId) (o : Nat) : ∀ (vs : List Value) (i : Nat) (cur : Array Value) (w : World), w.heap[g]? = some (.cells cur t (0, 0)) → o + i + vs.length ≤ cur.size → (∀ v ∈ vs, v.oneCell' = true) →
    (storeCells ⟨g, o, none⟩ vs i).run P w = .ok () (w.setRow g (cur.toList.take (o + i) ++ vs ++ cur.toList.drop (o + i + vs.length)).toArray)
  | [], i, cur, w, hg, hl, _ => by
    have hlt : g < w.heap.size := (Array.getElem?_eq_some_iff.1 hg).1
    have hv : w.heap[g] = .cells cur t (0, 0) := (Array.getElem?_eq_some_iff.1 hg).2
    simp only [storeCells, List.append_nil, List.length_nil, Nat.add_zero, List.take_append_drop, Array.toArray_toList]
    show Result.ok () w = _
    congr 1
    unfold World.setRow
    cases w with
    | mk heap tape drawn os output =>
      congr 1
      apply Array.ext
      · simp
      · intro k h1 h2
        simp only [Array.getElem_modify]
        split
        · rename_i hk; subst hk; simp at hv; simp [hv]
        · rfl
  | v :: rest, i, cur, w, hg, hl, h1 => by
    simp only [List.length_cons] at hl
    have hi : o + i < cur.size := by omega
    have hadd : (⟨g, o, none⟩ : Addr).add i = ⟨g, o + i, none⟩ := by unfold Addr.add; split <;> simp_all
    have hcell : w.cell? ⟨g, o + i, none⟩ = some cur[o + i] := by simp [World.cell?, hg, hi]
    have hfro : w.frozen? ⟨g, o + i, none⟩ = false := by simp [World.frozen?, hg]
    have hst : (store ((⟨g, o, none⟩ : Addr).add i) v).run P w = .ok () (w.setRow g (cur.setIfInBounds (o + i) v)) := by
      rw [hadd, run_store P w _ v _ (h1 v (by simp)), hcell]
      simp [hfro, setCell_eq_setRow w g (o + i) cur t (0, 0) v hg]
    have ih := run_storeCells_at (P := P) g t o rest (i + 1) (cur.setIfInBounds (o + i) v) (w.setRow g (cur.setIfInBounds (o + i) v)) (setRow_heap w g cur _ t _ hg) (by simp; omega) (fun x hx => h1 x (by simp [hx]))
    simp only [storeCells, Sem.run_bind, hst, Result.andThen_ok, ih, setRow_setRow]
    congr 3
    simp only [Array.toList_setIfInBounds, List.length_cons]
    have e1 : (cur.toList.set (o + i) v).take (o + (i + 1)) = cur.toList.take (o + i) ++ [v] := by
      rw [show o + (i + 1) = o + i + 1 by omega, List.take_succ_eq_append_getElem (by simp; omega)]
      simp [List.take_set_of_le]
    have e2 : (cur.toList.set (o + i) v).drop (o + (i + 1) + rest.length) = cur.toList.drop (o + i + (rest.length + 1)) := by
      rw [List.drop_set, if_pos (by omega)]
      congr 1; omega
    rw [e1, e2]
    simp

theorem run_storeVar_at {P : Program} (w : World) (a : Addr) (ty : TypeId) (c : Array Value) (hf : fitsZ w a c.size) (hi : (P.info? ty).map (·.size) = some c.size) (h1 : c.all (·.oneCell') = true) :
    (storeVar ty a (.agg c)).run P w = .ok () (putAt w a c) := by
  obtain ⟨hs, cur, e, hh, hl⟩ := hf
  obtain ⟨g, o, s⟩ := a
  simp only at hs hh hl
  subst hs
  have := run_storeCells_at (P := P) g e o c.toList 0 cur w hh (by simp; omega) (fun v hv => (Array.all_eq_true_iff_forall_mem.1 h1) v (by simpa using hv))
  cases hq : P.info? ty with
  | none => simp [hq] at hi
  | some i =>
    have hsz : c.size = i.size := by simp [hq] at hi; omega
    simp [storeVar, Value.cells, Sem.run_bind, sizeOf, typeInfo, hq, hsz, this, putAt, hh]

@[go_sem ↓] theorem store23r (f : Operand → Value) (x y : Operand) (dst : Option Tmp) (ty' : TypeId) (pos : String) (after : Array Edge) (guard : Option (Nat × Bool)) (w : World)
    (hp : isPtr (f x) = true) (hf : fitsZ w (addrOf (f x)) 32) (hy : idOk (f y)) :
    (execOp f ⟨dst, .store 24 x y, ty', pos, after, guard⟩).run Try.prog w = .ok .skip (putAt w (addrOf (f x)) (aggOf (f y))) := by
  obtain ⟨z, hz, hl⟩ := hy
  have hsz : (idB z).size = 32 := by rw [idB_size, hl]
  have h23 : (Try.prog.info? 24).map (·.size) = some 32 := by kernel_rfl
  cases hfx : f x with
  | pointer a =>
    cases a with
    | none => rw [hfx] at hp; simp [isPtr] at hp
    | some a =>
      rw [hfx] at hf
      simp only [addrOf_ptr] at hf
      have hr := run_storeVar_at (P := Try.prog) w a 24 (idB z) (by rw [hsz]; exact hf) (by rw [h23, hsz]) (idB_one z)
      unfold execOp
      simp only [hfx, hz, Instr.storeAt, Instr.sureAddr, Sem.run_bind, Sem.run_pure, Result.andThen_ok, hr, aggOf_agg, addrOf_ptr]
  | _ => rw [hfx] at hp; simp [isPtr] at hp

theorem idsC_set : ∀ (O : List (List UInt8)) (k : Nat) (x : List UInt8), (∀ z ∈ O, z.length = 32) → x.length = 32 → k < O.length → idsC (O.set k x) = (idsC O).take (k * 32) ++ Lib.byteCells x ++ (idsC O).drop (k * 32 + 32)
  | [], k, x, _, _, h => by simp at h
  | z :: O, 0, x, h, hx, _ => by
    have hl : (Lib.byteCells z).length = 32 := by rw [Lib.byteCells_length, h z (by simp)]
    rw [List.set_cons_zero, idsC_cons, idsC_cons, Nat.zero_mul, List.take_zero, List.nil_append, Nat.zero_add, List.drop_append, hl, List.drop_of_length_le (by omega)]
    simp
  | z :: O, k + 1, x, h, hx, hk => by
    have hl : (Lib.byteCells z).length = 32 := by rw [Lib.byteCells_length, h z (by simp)]
    rw [List.set_cons_succ, idsC_cons, idsC_cons, idsC_set O k x (fun y hy => h y (by simp [hy])) hx (by simpa using hk), List.take_append, List.drop_append, List.take_of_length_le (show (Lib.byteCells z).length ≤ (k + 1) * 32 by rw [hl]; omega), List.drop_of_length_le (show (Lib.byteCells z).length ≤ (k + 1) * 32 + 32 by rw [hl]; omega), hl,
      show (k + 1) * 32 - 32 = k * 32 by omega, show (k + 1) * 32 + 32 - 32 = k * 32 + 32 by omega]
    simp

/-- An element of a row is written. -/
theorem rowI_put {w : World} {base g : Nat} {len cap : Nat} {O : List (List UInt8)} {x : List UInt8} {k : Nat} (h32 : ∀ z ∈ O, z.length = 32) (hx : x.length = 32) (hk : k < O.length)
    (h : rowI base O (.slice (some ⟨g, 0, none⟩) len cap) w) :
    rowI base (O.set k x) (.slice (some ⟨g, 0, none⟩) len cap) (putAt w ⟨g, k * 32, none⟩ (idB x)) ∧ Below base w (putAt w ⟨g, k * 32, none⟩ (idB x)) := by
  obtain ⟨hl, ⟨he, _⟩ | ⟨g', cap', cur, he, hg, hh, hc, hm, hs, ht⟩⟩ := h
  · cases he
  · cases he
    have hz : (idB x).size = 32 := by rw [idB_size, hx]
    have hsz : O.length * 32 ≤ cur.size := by rw [hs]; omega
    have hk32 : k * 32 + 32 ≤ O.length * 32 := by omega
    have hp : putAt w ⟨g, k * 32, none⟩ (idB x) = w.setRow g (cur.toList.take (k * 32) ++ (idB x).toList ++ cur.toList.drop (k * 32 + 32)).toArray := by
      unfold putAt; simp only [hh, hz]
    rw [hp]
    refine ⟨⟨by rw [idsC_length _ (fun z hz => by rcases List.mem_or_eq_of_mem_set hz with h | h; exact h32 z h; rw [h]; exact hx)], .inr ⟨g, cap, _, by simp, hg, setRow_heap w g cur _ _ _ hh, by simpa using hc, hm, ?_, ?_⟩⟩, ⟨rfl, rfl, rfl, by simp, fun j hj => setRow_other w g j _ (by omega)⟩⟩
    · simp only [List.size_toArray, List.length_append, List.length_take, List.length_drop, Array.length_toList, hz]; omega
    · have hb : (idB x).toList = Lib.byteCells x := by simp [idB]
      rw [idsC_set O k x h32 hx hk, ← ht, hb]
      have lb : (Lib.byteCells x).length = 32 := by rw [Lib.byteCells_length, hx]
      rw [List.length_set, List.take_take, Nat.min_eq_left (by omega), List.drop_take, List.take_append, List.take_of_length_le (by simp [lb]; omega)]
      congr 2
      simp [lb]; omega
theorem rowI_fitsZ {w : World} {base g : Nat} {len cap : Nat} {O : List (List UInt8)} {k : Nat} (hk : k < O.length) (h : rowI base O (.slice (some ⟨g, 0, none⟩) len cap) w) : fitsZ w ⟨g, k * 32, none⟩ 32 := by
  obtain ⟨hl, ⟨he, _⟩ | ⟨g', cap', cur, he, hg, hh, hc, hm, hs, ht⟩⟩ := h
  · cases he
  · cases he
    exact ⟨rfl, cur, 24, hh, by simp only; rw [hs]; omega⟩

theorem row_empty (w : World) : rowI w.heap.size [] (.slice (some ⟨w.heap.size, 0, none⟩) 0 0) (w.alloc (.cells #[] 24)) :=
  ⟨by simp [idsC], .inr ⟨w.heap.size, 0, #[], rfl, Nat.le_refl _, (MapKept.heap_alloc w _).1, by simp, by unfold maxLen; omega, by simp, by simp [idsC]⟩⟩

set_option maxHeartbeats 1000000 in
set_option maxRecDepth 100000 in
theorem copy_any (a : Option Addr) (cap : Nat) (xs : List (List UInt8)) (w : World) (hm : xs.length ≤ 1000000) (hin : IdsIn w a xs) (hn : a = none → xs = [] ∧ cap = 0) :
    Calls Try.prog 32 #[.slice a xs.length cap] w fun e w' => ∃ v, e = .returned v ∧ rowI w.heap.size xs v w' ∧ Below w.heap.size w w' := by
  have hb := (Below.refl w.heap.size w).alloc (Nat.le_refl _) (.cells #[] 24)
  have hr := row_empty w
  have hin1 := hin.below hb
  have HB := Lib.hid hb
  have HR := Lib.hid hr
  have HIN := Lib.hid hin1
  have HN := Lib.hid hn
  have HC := Lib.hid (show ([] : List (List UInt8)).length + xs.length ≤ 4000000 by simp; omega)
  have HO := Lib.hid (show xs = [] ++ xs by simp)
  clear hb hr hin hin1 hn
  go_enter Try.func32, Try.ntmps32
  go_wp2_with (at_builtin; refine wpList_append_to rfl _ _ rfl w.heap.size _ [] xs xs HO.out rfl HR.out a cap rfl HIN.out HN.out HC.out HB.out.size ?_)
  rintro v' w' hown hb
  have HO := Lib.hid hown
  have HB2 := Lib.hid (HB.out.trans hb)
  clear hown hb
  go_wp2
  go_ret
  exact ⟨_, rfl, HO.out, HB2.out⟩

end Go.Proofs.Ytmmmimkikakalaa

namespace Go.Proofs.Ytmmmimkikakalaa
set_option linter.unusedVariables false

/-- Rising, each once. -/
def Strict (l : List (List UInt8)) : Prop := l.Pairwise fun a b => cmpB a b < 0

theorem cmpB_self (x : List UInt8) : cmpB x x = 0 := (cmpB_zero x x).2 rfl

theorem strict_ext : ∀ (l m : List (List UInt8)), Strict l → Strict m → (∀ x, x ∈ l ↔ x ∈ m) → l = m
  | [], [], _, _, _ => rfl
  | [], b :: m, _, _, h => by have := (h b).2 (by simp); simp at this
  | a :: l, [], _, _, h => by have := (h a).1 (by simp); simp at this
  | a :: l, b :: m, hl, hm, h => by
    have hl' := List.pairwise_cons.1 hl
    have hm' := List.pairwise_cons.1 hm
    have hab : a = b := by
      have h1 := (h a).1 (by simp)
      have h2 := (h b).2 (by simp)
      rcases List.mem_cons.1 h1 with e | h1
      · exact e
      rcases List.mem_cons.1 h2 with e | h2
      · exact e.symm
      have c1 := hm'.1 a h1
      have c2 := hl'.1 b h2
      rw [cmpB_anti a b] at c1
      omega
    subst hab
    congr 1
    refine strict_ext l m hl'.2 hm'.2 fun x => ?_
    have hx := h x
    simp only [List.mem_cons] at hx
    constructor
    · intro hxl
      rcases hx.1 (.inr hxl) with e | e
      · subst e; have := hl'.1 x hxl; rw [cmpB_self] at this; omega
      · exact e
    · intro hxm
      rcases hx.2 (.inr hxm) with e | e
      · subst e; have := hm'.1 x hxm; rw [cmpB_self] at this; omega
      · exact e

theorem lt_of_le_ne {a b : List UInt8} (h : leB a b = true) (hn : a ≠ b) : cmpB a b < 0 := by
  simp only [leB, decide_eq_true_eq] at h
  have := (cmpB_zero a b)
  rcases Int.lt_or_eq_of_le h with h | h
  · exact h
  · exact absurd (this.1 h) hn

theorem strict_of_sorted {l : List (List UInt8)} (hs : l.Pairwise fun a b => leB a b = true) (hn : l.Nodup) : Strict l := by
  unfold Strict
  exact (List.Pairwise.and hs hn).imp fun ⟨h1, h2⟩ => lt_of_le_ne h1 h2

theorem dd_strict : ∀ (l acc : List (List UInt8)), l.Pairwise (fun a b => leB a b = true) → Strict acc → (∀ x ∈ acc, ∀ y ∈ l, leB x y = true) →
    Strict (l.foldl ddF acc) ∧ ∀ x, x ∈ l.foldl ddF acc ↔ (x ∈ acc ∨ x ∈ l)
  | [], acc, _, ha, _ => ⟨ha, fun x => by simp⟩
  | y :: l, acc, hl, ha, hle => by
    have hl' := List.pairwise_cons.1 hl
    rw [List.foldl_cons]
    by_cases hc : acc = [] ∨ acc.getLastD [] ≠ y
    · rw [show ddF acc y = acc ++ [y] from if_pos hc]
      have hnew : ∀ x ∈ acc, cmpB x y < 0 := fun x hx => by
        rcases hc with rfl | hc
        · simp at hx
        · have hxy := hle x hx y (by simp)
          -- the last one is below y
          have hne : acc ≠ [] := fun e => by rw [e] at hx; simp at hx
          have hlast : acc.getLastD [] ∈ acc := by
            rw [List.getLastD_eq_getLast?, List.getLast?_eq_some_getLast hne]; simp
          have h1 := lt_of_le_ne (hle _ hlast y (by simp)) hc
          by_cases he : x = acc.getLastD []
          · rw [he]; exact h1
          · -- x stands ahead of the last one
            refine lt_of_le_ne hxy (fun e => ?_)
            subst e
            have hsp : acc = acc.dropLast ++ [acc.getLastD []] := by
              have := (List.dropLast_concat_getLast hne).symm
              rw [List.getLastD_eq_getLast?, List.getLast?_eq_some_getLast hne]
              simpa using this
            have hx2 : x ∈ acc.dropLast := by
              rw [hsp] at hx
              rcases List.mem_append.1 hx with h | h
              · exact h
              · exact absurd (List.mem_singleton.1 h) he
            have hp := ha
            unfold Strict at hp
            rw [hsp] at hp
            have := (List.pairwise_append.1 hp).2.2 x hx2 (acc.getLastD []) (by simp)
            rw [cmpB_anti] at h1
            omega
      have := dd_strict l (acc ++ [y]) hl'.2 (List.pairwise_append.2 ⟨ha, by simp, fun x hx z hz => by rw [List.mem_singleton.1 hz]; exact hnew x hx⟩) (fun x hx z hz => by
        rcases List.mem_append.1 hx with h | h
        · exact hle x h z (by simp [hz])
        · rw [List.mem_singleton.1 h]; exact hl'.1 z hz)
      refine ⟨this.1, fun x => ?_⟩
      rw [this.2]; simp [or_assoc]
    · rw [show ddF acc y = acc from if_neg hc]
      have hne : acc ≠ [] := fun e => hc (.inl e)
      have he : acc.getLastD [] = y := Classical.byContradiction fun e => hc (.inr e)
      have := dd_strict l acc hl'.2 ha (fun x hx z hz => hle x hx z (by simp [hz]))
      refine ⟨this.1, fun x => ?_⟩
      rw [this.2]
      have hy : y ∈ acc := by rw [← he, List.getLastD_eq_getLast?, List.getLast?_eq_some_getLast hne]; simp
      constructor
      · rintro (h | h)
        · exact .inl h
        · exact .inr (by simp [h])
      · rintro (h | h)
        · exact .inl h
        · rcases List.mem_cons.1 h with rfl | h
          · exact .inl hy
          · exact .inr h

theorem setL_strict (xs : List (List UInt8)) : Strict (setL xs) := (dd_strict _ [] (msort_sorted xs) List.Pairwise.nil (by simp)).1
theorem setL_mem (xs : List (List UInt8)) (x : List UInt8) : x ∈ setL xs ↔ x ∈ xs := by
  rw [setL, (dd_strict _ [] (msort_sorted xs) List.Pairwise.nil (by simp)).2]; simp [(msort_perm xs).mem_iff]
theorem setL_eq {l xs : List (List UInt8)} (h : Strict l) (hm : ∀ x, x ∈ l ↔ x ∈ xs) : l = setL xs :=
  strict_ext _ _ h (setL_strict xs) (fun x => by rw [hm, setL_mem])
theorem setL_congr {xs ys : List (List UInt8)} (h : ∀ x, x ∈ xs ↔ x ∈ ys) : setL xs = setL ys := setL_eq (setL_strict xs) (fun x => by rw [setL_mem, h])
theorem setL_self {l : List (List UInt8)} (h : Strict l) : setL l = l := (setL_eq h (fun _ => Iff.rfl)).symm
theorem msort_nodup {O : List (List UInt8)} (h : O.Nodup) : msort O = setL O :=
  setL_eq (strict_of_sorted (msort_sorted O) ((msort_perm O).nodup_iff.2 h)) (fun x => (msort_perm O).mem_iff)
theorem setL_length (xs : List (List UInt8)) : (setL xs).length ≤ xs.length := by
  have h : ∀ (l acc : List (List UInt8)), (l.foldl ddF acc).length ≤ acc.length + l.length := by
    intro l
    induction l with
    | nil => simp
    | cons y l ih =>
      intro acc
      rw [List.foldl_cons]
      refine Nat.le_trans (ih _) ?_
      unfold ddF
      split <;> simp <;> omega
  have := h (msort xs) []
  rw [msort_length] at this
  simpa [setL] using this
theorem setL_32 {xs : List (List UInt8)} (h : ∀ x ∈ xs, x.length = 32) : ∀ x ∈ setL xs, x.length = 32 := fun x hx => h x ((setL_mem xs x).1 hx)

theorem strict_isSet : ∀ l : List (List UInt8), isSetL l = true ↔ Strict l
  | [] => by simp [isSetL, Strict]
  | [a] => by simp [isSetL, Strict]
  | a :: b :: l => by
    have ih := strict_isSet (b :: l)
    simp only [isSetL, Bool.and_eq_true, decide_eq_true_eq, ih]
    constructor
    · rintro ⟨h1, h2⟩
      refine List.pairwise_cons.2 ⟨fun x hx => ?_, h2⟩
      rcases List.mem_cons.1 hx with rfl | hx
      · exact h1
      · exact (cmpB_trans a b x (by unfold cmpB; omega) (by have := (List.pairwise_cons.1 h2).1 x hx; omega)).2 (.inl h1)
    · intro h
      have h' := List.pairwise_cons.1 h
      exact ⟨h'.1 b (by simp), h'.2⟩

theorem isAt_mem {l : List (List UInt8)} (x : List UInt8) (h : isSetL l = true) : isAt x l = decide (x ∈ l) := by
  by_cases hm : x ∈ l
  · obtain ⟨k, hk, e⟩ := List.getElem_of_mem hm
    have := isAt_found x l k h hk (by rw [List.getD_eq_getElem?_getD, List.getElem?_eq_getElem hk, Option.getD_some, e, cmpB_self])
    simp [this.2, hm]
  · simp only [hm, decide_false]
    unfold isAt
    by_cases hp : placeN x l < l.length
    · simp only [hp, decide_true, Bool.true_and]
      exact beq_eq_false_iff_ne.2 fun e => hm (e ▸ getD_mem hp)
    · simp [hp]

/-- One id put in at its place. -/
theorem ins_sorted {O : List (List UInt8)} {x : List UInt8} {k : Nat} (hk : k ≤ O.length) (hs : O.Pairwise fun a b => leB a b = true) (h1 : k = 0 ∨ leB (O.getD (k - 1) []) x = true)
    (h2 : ∀ j, k ≤ j → j < O.length → leB x (O.getD j []) = true) : (O.take k ++ x :: O.drop k).Pairwise fun a b => leB a b = true := by
  have hx : ∀ z ∈ O.drop k, leB x z = true := fun z hz => by
    obtain ⟨j, hj, e⟩ := List.getElem_of_mem hz
    simp only [List.length_drop] at hj
    have := h2 (k + j) (by omega) (by omega)
    rw [List.getD_eq_getElem?_getD, List.getElem?_eq_getElem (by omega), Option.getD_some] at this
    rw [List.getElem_drop] at e
    rwa [e] at this
  have hy : ∀ y ∈ O.take k, leB y x = true := fun y hy => by
    rcases h1 with rfl | h1
    · simp at hy
    · obtain ⟨j, hj, e⟩ := List.getElem_of_mem hy
      simp only [List.length_take] at hj
      rw [List.getElem_take] at e
      by_cases hjk : j = k - 1
      · subst hjk
        rw [List.getD_eq_getElem?_getD, List.getElem?_eq_getElem (by omega), Option.getD_some, e] at h1
        exact h1
      · have h3 := List.pairwise_iff_getElem.1 hs j (k - 1) (by omega) (by omega) (by omega)
        rw [e] at h3
        rw [List.getD_eq_getElem?_getD, List.getElem?_eq_getElem (by omega), Option.getD_some] at h1
        exact leB_trans _ _ _ h3 h1
  refine List.pairwise_append.2 ⟨hs.sublist (List.take_sublist _ _), List.pairwise_cons.2 ⟨hx, hs.sublist (List.drop_sublist _ _)⟩, fun y hyy z hz => ?_⟩
  rcases List.mem_cons.1 hz with rfl | hz
  · exact hy y hyy
  · exact leB_trans _ _ _ (hy y hyy) (hx z hz)
theorem ins_perm (O : List (List UInt8)) (x : List UInt8) (k : Nat) : (O.take k ++ x :: O.drop k).Perm (O ++ [x]) := by
  refine (List.perm_middle).trans ?_
  rw [List.take_append_drop]
  exact (List.perm_append_singleton x O).symm
theorem sort_unique {O xs : List (List UInt8)} (hp : O.Perm xs) (hs : O.Pairwise fun a b => leB a b = true) : O = msort xs :=
  List.Perm.eq_of_pairwise (le := fun a b => leB a b = true) (fun a b _ _ h1 h2 => leB_anti a b h1 h2) hs (msort_sorted xs) (hp.trans (msort_perm xs).symm)

end Go.Proofs.Ytmmmimkikakalaa
