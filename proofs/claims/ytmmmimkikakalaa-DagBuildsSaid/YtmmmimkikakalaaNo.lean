/- Maps from ids to numbers: what stands there, and 'm[k]++' in its three steps. -/
import Derived.Test.YtmmmimkikakalaaNm
import Derived.WideKeyEntry
namespace Go.Proofs.Ytmmmimkikakalaa
open Go.RowKit Go.Maps Go.ChangeMaps
set_option linter.unusedVariables false

theorem law24 : Go.WideMaps.KeyLaw Try.prog 24 := deep_law_gate laidOutM (of_decide_eq_true (by kernel_rfl)) (of_decide_eq_true (by kernel_rfl)) kt24 (by kernel_rfl)
theorem zero3 (w : World) : (zeroValue 3).run Try.prog w = .ok (.int .i64 0) w := by
  have h2 : ((Try.prog.info? 3).map (·.zero)) = some (some (.int .i64 0)) := by kernel_rfl
  cases hi : Try.prog.info? 3 with
  | none => rw [hi] at h2; cases h2
  | some i =>
    rw [hi] at h2
    simp at h2
    simp [zeroValue, typeInfo, hi, h2]
/-- What a map from ids to numbers says. -/
def CntAt (w : World) (mb : Nat) (f : List UInt8 → Int) (n : Nat) : Prop :=
  ∃ D : DataW Unit, w.ownsMap Try.prog 24 (plainElem Try.prog 3) mb n D ∧ ∀ y : List UInt8, y.length = 32 → D.atKey (kL y) (.lit (.int .i64 0)) = .lit (.int .i64 (f y))
def updF (f : List UInt8 → Int) (x : List UInt8) (c : Int) : List UInt8 → Int := fun y => if y = x then c else f y
theorem CntAt.lt {w : World} {mb : Nat} {f : List UInt8 → Int} {n : Nat} (h : CntAt w mb f n) : mb < w.heap.size := by
  obtain ⟨D, ho, _⟩ := h; exact ho.lt
theorem CntAt.same {w w' : World} {mb : Nat} {f : List UInt8 → Int} {n : Nat} (h : CntAt w mb f n) (hh : w'.heap[mb]? = w.heap[mb]?) : CntAt w' mb f n := by
  obtain ⟨D, ⟨es, clock, hb, F, hs, hD⟩, ha⟩ := h
  exact ⟨D, ⟨es, clock, hh.trans hb, F, hs, hD⟩, ha⟩
theorem CntAt.mono {w : World} {mb : Nat} {f : List UInt8 → Int} {n m : Nat} (h : CntAt w mb f n) (hm : n ≤ m) : CntAt w mb f m := by
  obtain ⟨D, ho, ha⟩ := h; exact ⟨D, ho.mono hm, ha⟩
theorem CntAt.congr {w : World} {mb : Nat} {f g : List UInt8 → Int} {n : Nat} (h : CntAt w mb f n) (hg : ∀ y : List UInt8, y.length = 32 → f y = g y) : CntAt w mb g n := by
  obtain ⟨D, ho, ha⟩ := h; exact ⟨D, ho, fun y hy => by rw [ha y hy, hg y hy]⟩
theorem CntAt.made (w : World) : CntAt (w.alloc (.map #[] 0)) w.heap.size (fun _ => 0) 0 := ⟨_, World.ownsMap_made w Try.prog 24 _, fun y _ => rfl⟩
theorem CntAt.look {w : World} {mb : Nat} {f : List UInt8 → Int} {n : Nat} (h : CntAt w mb f n) {x : List UInt8} (hx : x.length = 32) :
    (Instr.lookup 68 (.map (some mb)) (.agg (idB x)) false).run Try.prog w = .ok (.int .i64 (f x)) w := by
  obtain ⟨D, ho, ha⟩ := h
  obtain ⟨c, hrun, hat, _⟩ := ho.lookup_int keyed24 Try.underlying68 Try.underlying3 (zero3 w) (key24 x hx)
  rw [ha x hx] at hat
  have e : f x = c := by injection hat with h; injection h
  rw [hrun, e]
theorem CntAt.wf {w : World} {mb : Nat} {f : List UInt8 → Int} {n : Nat} (h : CntAt w mb f n) {x : List UInt8} (hx : x.length = 32) : (Lit.int .i64 (f x)).wf = true := by
  obtain ⟨D, ho, ha⟩ := h
  obtain ⟨c, hrun, hat, hw⟩ := ho.lookup_int keyed24 Try.underlying68 Try.underlying3 (zero3 w) (key24 x hx)
  rw [ha x hx] at hat
  have e : f x = c := by injection hat with h; injection h
  rw [e]; exact hw
theorem CntAt.update {w : World} {mb : Nat} {f : List UInt8 → Int} {n : Nat} (h : CntAt w mb f n) (hn : n < maxLen) {x : List UInt8} (hx : x.length = 32) {c : Int} (hc : (Lit.int .i64 c).wf = true) :
    ∃ w', (Instr.mapUpdate 68 (.map (some mb)) (.agg (idB x)) (.int .i64 c)).run Try.prog w = .ok () w' ∧ CntAt w' mb (updF f x c) (n + 1) ∧ w.grownBy w' (some mb) := by
  obtain ⟨D, ho, ha⟩ := h
  obtain ⟨w', hrun, ho', hg⟩ := ho.update keyed24 Try.underlying68 hn (key24 x hx) (plainElem_int Try.underlying3 hc)
  refine ⟨w', hrun, ⟨_, ho', fun y hy => ?_⟩, hg⟩
  unfold updF
  by_cases he : y = x
  · subst he
    rw [if_pos rfl, Maps.atKey_put_same (ho.tidy keyed24).isMap (kL_key y)]
  · rw [if_neg he, Maps.atKey_put_other (fun h => he (kL_inj hy hx h)), ha y hy]
theorem setBlock_same {w : World} {b : Nat} {o : Obj} {es : Array MapEntry} {clock : Nat} (hb : w.heap[b]? = some (.map es clock)) : (setBlock w b o).heap[b]? = some o := heap_setBlock_same hb _
/-- 'm[k] op= ..': its entry, and the store behind it. -/
theorem CntAt.entry {w : World} {mb : Nat} {f : List UInt8 → Int} {n : Nat} (h : CntAt w mb f n) (hn : n < maxLen) {x : List UInt8} (hx : x.length = 32) :
    ∃ (v0 : Value) (st : Nat) (o1 : Obj), (Instr.mapEntry 68 (.map (some mb)) (.agg (idB x))).run Try.prog w = .ok (.tuple #[v0, goInt st]) (setBlock w mb o1) ∧
      (∀ w1 : World, w1.heap[mb]? = some o1 → CntAt w1 mb f (n + 1)) ∧
      (∀ (w2 : World) (c : Int), (Lit.int .i64 c).wf = true → w2.heap[mb]? = some o1 → ∃ o2, (Instr.entryStore 68 (.map (some mb)) (goInt st) (.int .i64 c)).run Try.prog w2 = .ok () (setBlock w2 mb o2) ∧ ∀ w3 : World, w3.heap[mb]? = some o2 → CntAt w3 mb (updF f x c) (n + 1)) := by
  have h0 := h
  obtain ⟨D, ⟨es, clock, hb, F, hs, hD⟩, ha⟩ := h
  obtain ⟨v0, st, es1, clock1, hrun, _, hst⟩ := Go.WideElems.entry_then_store law24 Try.underlying68 (fun u => zero3 u) hb F (key24 x hx)
  refine ⟨v0, st, .map es1 clock1, hrun, fun w1 hw1 => ?_, fun w2 c hc hw2 => ?_⟩
  · rcases law24.find w (key24 x hx) es.toList F.keys with ⟨h1, h2⟩ | ⟨j, e0, h1, h2, h3⟩
    · have hme : (Instr.mapEntry 68 (.map (some mb)) (.agg (idB x))).run Try.prog w = .ok (.tuple #[.int .i64 0, goInt clock]) (setBlock w mb (.map (es.push ⟨.agg (idB x), .int .i64 0, clock⟩) (clock + 1))) := by
        simp [Instr.mapEntry, run_underlying Try.underlying68, MapKept.run_getObj_map hb, law24.check w false (key24 x hx), h1, MapKept.run_setObj_map _ hb, Result.andThen, setBlock]
      have hmu : (Instr.mapUpdate 68 (.map (some mb)) (.agg (idB x)) (.int .i64 0)).run Try.prog w = .ok () (setBlock w mb (.map (es.push ⟨.agg (idB x), .int .i64 0, clock⟩) (clock + 1))) := by
        simp [Instr.mapUpdate, run_underlying Try.underlying68, MapKept.run_getObj_map hb, law24.check w false (key24 x hx), h1, MapKept.run_setObj_map _ hb, Result.andThen, setBlock]
      have hbl : (setBlock w mb (.map es1 clock1)).heap[mb]? = (setBlock w mb (.map (es.push ⟨.agg (idB x), .int .i64 0, clock⟩) (clock + 1))).heap[mb]? := by
        have := hrun.symm.trans hme
        injection this with _ hw
        rw [hw]
      rw [setBlock_same hb, setBlock_same hb] at hbl
      obtain ⟨w', hmu', hc', _⟩ := h0.update hn hx (c := 0) (by decide)
      have hw' : w' = setBlock w mb (.map (es.push ⟨.agg (idB x), .int .i64 0, clock⟩) (clock + 1)) := by
        rw [hmu] at hmu'
        injection hmu' with _ hw
        exact hw.symm
      have hf0 : f x = 0 := by
        rcases Maps.fit_look false keyed24 Try.underlying68 (zero3 w) hb F (key24 x hx) with ⟨hrn, _, _⟩ | ⟨e0, y, hm, hk, _, _, _, _⟩
        · have := h0.look hx
          rw [hrn] at this
          injection this with hv _
          injection hv with _ hv
          exact hv.symm
        · exact absurd hk (h2 e0 hm)
      refine (hc'.congr (fun y hy => ?_)).same ?_
      · unfold updF; split
        · next e => subst e; exact hf0.symm
        · rfl
      · rw [hw1, hbl, hw', setBlock_same hb]
    · have hj : es[j]? = some e0 := by simpa using h2
      have hsame : es.modify j (fun e => { e with key := .agg (idB x) }) = es := by
        apply Array.ext'
        rw [Array.toList_modify, modify_eq_set _ _ _ _ h2]
        have : ({ e0 with key := .agg (idB x) } : MapEntry) = e0 := by rw [← h3]
        rw [this]
        exact Go.WideElems.set_self _ _ _ h2
      have hme : (Instr.mapEntry 68 (.map (some mb)) (.agg (idB x))).run Try.prog w = .ok (.tuple #[e0.val, goInt e0.born]) (setBlock w mb (.map es clock)) := by
        simp [Instr.mapEntry, run_underlying Try.underlying68, MapKept.run_getObj_map hb, law24.check w false (key24 x hx), h1, hj, h3, law24.stays w (key24 x hx), hsame, MapKept.run_setObj_map _ hb, Result.andThen, setBlock]
      have hbl : (setBlock w mb (.map es1 clock1)).heap[mb]? = (setBlock w mb (.map es clock)).heap[mb]? := by
        have := hrun.symm.trans hme
        injection this with _ hw
        rw [hw]
      rw [setBlock_same hb, setBlock_same hb] at hbl
      refine (h0.same ?_).mono (Nat.le_succ n)
      rw [hw1, hbl, hb]
  · obtain ⟨es', clock', hes, hmu⟩ := hst w2 (.int .i64 c) hw2
    refine ⟨_, hes, fun w3 hw3 => ?_⟩
    obtain ⟨w', hmu', hc', _⟩ := h0.update hn hx hc
    rw [hmu] at hmu'
    injection hmu' with _ hw
    refine hc'.same ?_
    rw [hw3, ← hw, setBlock_same hb]
end Go.Proofs.Ytmmmimkikakalaa

namespace Go.Proofs.Ytmmmimkikakalaa
open Go.RowKit Go.Maps Go.ChangeMaps
set_option linter.unusedVariables false

theorem setBlock_any {w : World} {mb n : Nat} {f : List UInt8 → Int} {o : Obj} (h : CntAt w mb f n) : (setBlock w mb o).heap[mb]? = some o ∧ w.grownBy (setBlock w mb o) (some mb) := by
  obtain ⟨D, ⟨es, clock, hb, _⟩, _⟩ := h
  exact ⟨setBlock_same hb, ⟨rfl, rfl, rfl, by simp [setBlock], fun i _ hi => heap_setBlock_other hb _ (fun e => hi (by rw [e]))⟩⟩
theorem slice30_to {g l c n : Nat} (hn : n ≤ l) (hl : l ≤ c) (hc : 0 < c) : ∀ wx, (Instr.slice 30 (.slice (some ⟨g, 0, none⟩) l c) none (some (.int .i64 (n : Int))) none).run Try.prog wx = .ok (.slice (some ⟨g, 0, none⟩) n c) wx := by
  intro wx
  rw [run_slice_h wx 30 (some ⟨g, 0, none⟩) l c (by kernel_rfl) .i64 n (by omega) (by omega)]
  have : (sizeOf (Try.prog.elem 30)).run Try.prog wx = .ok 32 wx := by simp [sizeOf, typeInfo, show Try.prog.info? (Try.prog.elem 30) = Try.prog.info? 24 from rfl, Sem.run_bind]; rfl
  rw [this]
  have h0 : ¬ c = 0 := by omega
  simp [sliced, h0, Addr.add]
/-- A row without its last id. -/
theorem rowI_pop {w : World} {base g l c : Nat} {O : List (List UInt8)} {x : List UInt8} (hO : ∀ z ∈ O, z.length = 32) (h : rowI base (O ++ [x]) (.slice (some ⟨g, 0, none⟩) l c) w) : rowI base O (.slice (some ⟨g, 0, none⟩) O.length c) w := by
  obtain ⟨hl, ⟨he, _⟩ | ⟨g', cap, cur, he, hg, hh, hc, hm, hs, ht⟩⟩ := h
  · cases he
  · injection he with h1 h2 h3
    injection h1 with h1
    injection h1 with h1
    subst h1 h3
    have hlO := idsC_length O hO
    refine ⟨hlO, .inr ⟨g, c, cur, rfl, hg, hh, by simp at hc; omega, hm, hs, ?_⟩⟩
    have h2 : (cur.toList.take ((O ++ [x]).length * 32)).take (O.length * 32) = (idsC (O ++ [x])).take (O.length * 32) := by rw [ht]
    rw [List.take_take, Nat.min_eq_left (by simp; omega)] at h2
    rw [h2, idsC_append, List.take_append_of_le_length (by omega), List.take_of_length_le (by omega)]
end Go.Proofs.Ytmmmimkikakalaa
