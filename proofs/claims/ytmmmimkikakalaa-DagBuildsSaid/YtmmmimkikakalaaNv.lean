/- slices.Delete of one id. -/
import Derived.Test.YtmmmimkikakalaaNt
namespace Go.Proofs.Ytmmmimkikakalaa
open Go.RowKit Go.Maps
set_option linter.unusedVariables false

theorem zero24 (w : World) : (zeroValue 24).run Try.prog w = .ok (.agg (Array.replicate 32 (.int .u8 0))) w := by
  have h2 : ((Try.prog.info? 24).map (·.zero)) = some (some (.agg (Array.replicate 32 (.int .u8 0)))) := by kernel_rfl
  cases hi : Try.prog.info? 24 with
  | none => rw [hi] at h2; cases h2
  | some i =>
    rw [hi] at h2
    simp at h2
    simp [zeroValue, typeInfo, hi, h2]
theorem size30 : ∀ wx, (sizeOf (Try.prog.elem 30)).run Try.prog wx = .ok 32 wx := fun wx => by simp [sizeOf, typeInfo, show Try.prog.info? (Try.prog.elem 30) = Try.prog.info? 24 from rfl, Sem.run_bind]; rfl
theorem slice30_from {g n c i : Nat} (hi : i ≤ n) (hn : n ≤ c) : ∃ A : Option Addr, (A = some ⟨g, 0, none⟩ ∧ c = i ∨ A = some ⟨g, i * 32, none⟩) ∧ ∀ wx, (Instr.slice 30 (.slice (some ⟨g, 0, none⟩) n c) (some (.int .i64 (i : Int))) none none).run Try.prog wx = .ok (.slice A (n - i) (c - i)) wx := by
  by_cases h : c = i
  · refine ⟨_, .inl ⟨rfl, h⟩, fun wx => ?_⟩
    rw [run_slice_l wx 30 (some ⟨g, 0, none⟩) n c (by kernel_rfl) .i64 i (by omega) (by omega), size30]
    simp [sliced, h]
  · refine ⟨_, .inr rfl, fun wx => ?_⟩
    rw [run_slice_l wx 30 (some ⟨g, 0, none⟩) n c (by kernel_rfl) .i64 i (by omega) (by omega), size30]
    simp [sliced, h, Addr.add]
    exact fun h => h.symm
theorem slice30_bt {g n c l h : Nat} (hl : l ≤ h) (hh : h ≤ c) (hc : l < c) : ∀ wx, (Instr.slice 30 (.slice (some ⟨g, 0, none⟩) n c) (some (.int .i64 (l : Int))) (some (.int .i64 (h : Int))) none).run Try.prog wx = .ok (.slice (some ⟨g, l * 32, none⟩) (h - l) (c - l)) wx := by
  intro wx
  rw [run_slice_lh wx 30 (some ⟨g, 0, none⟩) n c (by kernel_rfl) .i64 .i64 l h (by omega) (by omega) (by omega), size30]
  have : ¬ c = l := by omega
  simp [sliced, this, Addr.add]
  exact fun h => h.symm
theorem slice30_lhm {g n c l h m : Nat} (hl : l ≤ h) (hh : h ≤ m) (hm : m ≤ c) : ∃ A : Option Addr, ∀ wx, (Instr.slice 30 (.slice (some ⟨g, 0, none⟩) n c) (some (.int .i64 (l : Int))) (some (.int .i64 (h : Int))) (some (.int .i64 (m : Int)))).run Try.prog wx = .ok (.slice A (h - l) (m - l)) wx := by
  refine ⟨if m = l then some ⟨g, 0, none⟩ else (some (⟨g, 0, none⟩ : Addr)).map (·.add (l * 32)), fun wx => ?_⟩
  · rw [run_slice_lhm wx 30 (some ⟨g, 0, none⟩) n c (by kernel_rfl) .i64 .i64 .i64 l h m (by omega) (by omega) (by omega) (by omega), size30]
    simp only [sliced, Result.andThen_ok, Int.toNat_natCast]

theorem zeros24 : (Builtin.zeroCells (Value.agg (Array.replicate 32 (.int .u8 0))).cells 1).toList = List.replicate 32 (Value.int .u8 0) := by
  show ((Array.range (1 * (Array.replicate 32 (Value.int .u8 0)).size)).map fun i => (Array.replicate 32 (Value.int .u8 0))[i % (Array.replicate 32 (Value.int .u8 0)).size]!).toList = _
  simp only [Array.size_replicate, Nat.one_mul]
  apply List.ext_getElem
  · simp
  · intro i h1 h2
    have hi : i < 32 := by simpa using h2
    simp only [Array.getElem_toList, Array.getElem_map, Array.getElem_range, List.getElem_replicate]
    rw [getElem!_pos _ _ (by simp; omega)]
    simp
theorem clear_one {z : Value} {zs : List Value} {a : Addr} {c : Nat} {W1 W2 : World} {ty : TypeId} (hz : ∀ w, (zeroValue 24).run Try.prog w = .ok z w) (hzc : (Builtin.zeroCells z.cells 1).toList = zs) (hst : (storeCells a zs 0).run Try.prog W1 = .ok () W2) :
    (Builtin.clear_ #[30] ty #[.slice (some a) 1 c]).run Try.prog W1 = .ok (.tuple #[]) W2 := by
  simp [Builtin.clear_, run_underlying Try.underlying30, hz, hzc, hst, Result.andThen]
/-- The two steps of Delete on a row's block. -/
theorem delete_steps {w : World} {base g n c i q : Nat} {O : List (List UInt8)} (h32 : ∀ z ∈ O, z.length = 32) (hn : O.length = n) (hi : i < n) (hq : n = q + 1) (hrow : rowI base O (.slice (some ⟨g, 0, none⟩) n c) w) (A : Option Addr) (hA : A = some ⟨g, 0, none⟩ ∧ c = i + 1 ∨ A = some ⟨g, (i + 1) * 32, none⟩) :
    ∃ W1 W2, (∀ ty, (Builtin.append_ #[30, 30] ty #[.slice (some ⟨g, 0, none⟩) i c, .slice A (n - (i + 1)) (c - (i + 1))]).run Try.prog w = .ok (.slice (some ⟨g, 0, none⟩) q c) W1) ∧
      (∀ ty, (Builtin.clear_ #[30] ty #[.slice (some ⟨g, q * 32, none⟩) (n - q) (c - q)]).run Try.prog W1 = .ok (.tuple #[]) W2) ∧
      rowI base (O.eraseIdx i) (.slice (some ⟨g, 0, none⟩) q c) W2 ∧ w.grownBy W2 (some g) ∧ i + 1 ≤ c ∧ n ≤ c := by
  obtain ⟨hl, ⟨he, _⟩ | ⟨g', cap, cur, he, hg, hh, hc, hm, hs, ht⟩⟩ := hrow
  · cases he
  injection he with e1 e2 e3
  injection e1 with e1
  injection e1 with e1
  subst e1 e3
  have hinfo := info23
  cases hqi : Try.prog.info? 24 with
  | none => rw [hqi] at hinfo; cases hinfo
  | some ii =>
    rw [hqi] at hinfo
    simp only [Option.map_some, Option.some.injEq, Prod.mk.injEq] at hinfo
    obtain ⟨hz0, hz1, hz2⟩ := hinfo
    have hnc : n ≤ c := by omega
    have hd32 : ∀ z ∈ O.drop (i + 1), z.length = 32 := fun z hz => h32 z (List.mem_of_mem_drop hz)
    have ht32 : ∀ z ∈ O.take i, z.length = 32 := fun z hz => h32 z (List.mem_of_mem_take hz)
    have hnl : (idsC (O.drop (i + 1))).length = (n - (i + 1)) * 32 := by rw [idsC_length _ hd32, List.length_drop, hn]
    have hOl : (idsC O).length = n * 32 := by rw [idsC_length _ h32, hn]
    have hsplit : idsC O = idsC (O.take (i + 1)) ++ idsC (O.drop (i + 1)) := by rw [← idsC_append, List.take_append_drop]
    have hsplit2 : idsC O = idsC (O.take i) ++ idsC (O.drop i) := by rw [← idsC_append, List.take_append_drop]
    have htl : (idsC (O.take (i + 1))).length = (i + 1) * 32 := by rw [idsC_length _ (fun z hz => h32 z (List.mem_of_mem_take hz)), List.length_take, hn, Nat.min_eq_left (by omega)]
    have htl2 : (idsC (O.take i)).length = i * 32 := by rw [idsC_length _ ht32, List.length_take, hn, Nat.min_eq_left (by omega)]
    have hcell : ∀ j u, (idsC (O.drop (i + 1)))[j]? = some u → w.cell? ⟨g, (i + 1) * 32 + j, none⟩ = some u := by
      intro j u hj
      rw [Lib.cell_of_heap hh]
      have hjl := (List.getElem?_eq_some_iff.1 hj).1
      have h1 : (idsC O)[(i + 1) * 32 + j]? = some u := by
        rw [hsplit, List.getElem?_append_right (by omega), htl, show (i + 1) * 32 + j - (i + 1) * 32 = j by omega]; exact hj
      rw [← ht, List.getElem?_take_of_lt (by rw [hn]; omega)] at h1
      rw [← Array.getElem?_toList]; exact h1
    have hca : ∃ a : Addr, A = some a ∧ ∀ j u, (idsC (O.drop (i + 1)))[j]? = some u → w.cell? (a.add j) = some u := by
      rcases hA with ⟨rfl, hci⟩ | rfl
      · refine ⟨_, rfl, fun j u hj => ?_⟩
        have h0 : (idsC (O.drop (i + 1))).length = 0 := by
          have h9 : n - (i + 1) = 0 := by omega
          rw [hnl, h9]
        rw [List.length_eq_zero_iff.1 h0] at hj; simp at hj
      · refine ⟨_, rfl, fun j u hj => ?_⟩
        have := hcell j u hj
        rw [Addr.add_lit]; exact this
    obtain ⟨a, rfl, hca⟩ := hca
    have hrun := fun ty => run_append_room (P := Try.prog) w 30 ty 24 ii Try.underlying30 hqi g i c cur hh a (n - (i + 1)) (c - (i + 1)) (idsC (O.drop (i + 1))) (by rw [hnl, hz1]) hca (idsC_one _) (by omega) (by rw [hnl, hz1, hs]; omega)
    rw [hz1, hnl] at hrun
    rw [show i + (n - (i + 1)) = q by omega] at hrun
    obtain ⟨cur1, hcur1⟩ : ∃ c1, c1 = (cur.toList.take (i * 32) ++ idsC (O.drop (i + 1)) ++ cur.toList.drop (i * 32 + (n - (i + 1)) * 32)).toArray := ⟨_, rfl⟩
    rw [← hcur1] at hrun
    have hh1 := setRow_heap w g cur cur1 24 (0, 0) hh
    have hcl : cur.toList.length = c * 32 := by rw [Array.length_toList, hs]
    have hs1 : cur1.size = c * 32 := by
      rw [hcur1, List.size_toArray, List.length_append, List.length_append, List.length_take, List.length_drop, hnl, hcl]; omega
    have htk1 : cur1.toList.take (q * 32) = idsC (O.eraseIdx i) := by
      have hti : cur.toList.take (i * 32) = idsC (O.take i) := by
        have : (cur.toList.take (n * 32)).take (i * 32) = (idsC O).take (i * 32) := by rw [← hn, ht]
        rw [List.take_take, Nat.min_eq_left (by omega)] at this
        rw [this, hsplit2, List.take_append_of_le_length (by omega), List.take_of_length_le (by omega)]
      rw [hcur1, hti, List.eraseIdx_eq_take_drop_succ, idsC_append]
      show (idsC (O.take i) ++ idsC (O.drop (i + 1)) ++ cur.toList.drop _).take (q * 32) = _
      rw [List.take_append_of_le_length (by rw [List.length_append, htl2, hnl]; omega), List.take_of_length_le (by rw [List.length_append, htl2, hnl]; omega)]
    have hzc : (Builtin.zeroCells (Value.agg (Array.replicate 32 (.int .u8 0))).cells (n - q)).toList = List.replicate 32 (Value.int .u8 0) := by
      rw [show n - q = 1 by omega]; exact zeros24
    have hst := run_storeCells_at (P := Try.prog) g 24 (q * 32) (List.replicate 32 (Value.int .u8 0)) 0 cur1 (w.setRow g cur1) hh1 (by rw [List.length_replicate, hs1]; omega) (fun v hv => by rw [List.eq_of_mem_replicate hv]; rfl)
    rw [Nat.add_zero] at hst
    have hpos : n - q = 1 := by omega
    obtain ⟨cur2, hcur2⟩ : ∃ c2, c2 = (cur1.toList.take (q * 32) ++ List.replicate 32 (Value.int .u8 0) ++ cur1.toList.drop (q * 32 + (List.replicate 32 (Value.int .u8 0)).length)).toArray := ⟨_, rfl⟩
    rw [← hcur2] at hst
    refine ⟨w.setRow g cur1, (w.setRow g cur1).setRow g cur2, hrun, fun ty => ?_, ?_, ?_, by omega, hnc⟩
    · rw [hpos] at hzc ⊢
      exact clear_one zero24 hzc hst
    · have hh2 := setRow_heap (w.setRow g cur1) g cur1 cur2 24 (0, 0) hh1
      have hel : (O.eraseIdx i).length = q := by rw [List.length_eraseIdx_of_lt (by omega)]; omega
      have he32 : ∀ z ∈ O.eraseIdx i, z.length = 32 := fun z hz => h32 z (List.mem_of_mem_eraseIdx hz)
      have hcl1 : cur1.toList.length = c * 32 := by rw [Array.length_toList, hs1]
      refine ⟨by rw [idsC_length _ he32], .inr ⟨g, c, _, by rw [hel], hg, hh2, by rw [hel]; omega, hm, ?_, ?_⟩⟩
      · rw [hcur2, List.size_toArray, List.length_append, List.length_append, List.length_take, List.length_drop, List.length_replicate, hcl1]; omega
      · rw [hel, hcur2]
        show (cur1.toList.take (q * 32) ++ List.replicate 32 (Value.int .u8 0) ++ _).take (q * 32) = _
        rw [List.append_assoc, List.take_append_of_le_length (by rw [List.length_take, hcl1]; omega), List.take_take, Nat.min_self, htk1]
    · exact ⟨rfl, rfl, rfl, by simp, fun k hk hn => by
        have hkg : k ≠ g := fun h => hn (by rw [h])
        exact (setRow_other _ g k _ hkg).trans (setRow_other _ g k _ hkg)⟩
end Go.Proofs.Ytmmmimkikakalaa

namespace Go.Proofs.Ytmmmimkikakalaa
open Go.RowKit Go.Maps
set_option linter.unusedVariables false

theorem wpList_append_run {w : World} {ops : Array Oper} {rest : List Oper} {o : Oper} {a : Act} {Q : Exit → Act → World → Prop} (hgd : o.guard = none) (s x : Operand)
    (ho : o.op = .call { callee := .builtin .append, args := #[s, x], argTypes := #[30, 30] }) (vs vx v' : Value) (w' : World) (hs : a.eval s = vs) (hx : a.eval x = vx)
    (hr : ∀ ty, (Builtin.append_ #[30, 30] ty #[vs, vx]).run Try.prog w = .ok v' w') (h : wpList Try.prog ops Q rest (a.put o.dst v') w') : wpList Try.prog ops Q (o :: rest) a w := by
  refine wpList_plain hgd fun _ hK => ?_
  unfold Oper.wp execOp
  simp only [ho, resolve, invoke, builtin, Sem.run_bind, Sem.run_pure, Result.andThen_ok, List.map_toArray, List.map_cons, List.map_nil, hs, hx, hr]
  exact hK _ _ h

set_option maxHeartbeats 4000000 in
set_option maxRecDepth 100000 in
theorem delete_any (w : World) (base g n c i m q : Nat) (O : List (List UInt8)) (h32 : ∀ z ∈ O, z.length = 32) (hn : O.length = n) (hn1 : n ≤ 1000000) (hi : i < n) (hm : m = i + 1) (hq : n = q + 1) (hrow : rowI base O (.slice (some ⟨g, 0, none⟩) n c) w) :
    Calls Try.prog 45 #[.slice (some ⟨g, 0, none⟩) n c, .int .i64 i, .int .i64 m] w fun e w' => e = .returned (.slice (some ⟨g, 0, none⟩) q c) ∧ rowI base (O.eraseIdx i) (.slice (some ⟨g, 0, none⟩) q c) w' ∧ w.grownBy w' (some g) := by
  have hnc : n ≤ c := by
    obtain ⟨_, _, he, h1, _⟩ := SlI_row h32 hrow
    injection he with _ _ h3
    subst h3
    omega
  obtain ⟨A0, hs1⟩ := slice30_lhm (g := g) (n := n) (c := c) (l := i) (h := m) (m := n) (by omega) (by omega) hnc
  have hs2 := slice30_to (g := g) (l := n) (c := c) (n := i) (by omega) hnc (by omega)
  obtain ⟨A, hA, hs3⟩ := slice30_from (g := g) (n := n) (c := c) (i := m) (by omega) hnc
  have hs4 := slice30_bt (g := g) (n := q) (c := c) (l := q) (h := n) (by omega) hnc (by omega)
  obtain ⟨wd, hwd⟩ : ∃ wd, wd = w.drew := ⟨_, rfl⟩
  have hrd : rowI base O (.slice (some ⟨g, 0, none⟩) n c) wd := by rw [hwd]; exact hrow
  obtain ⟨W1, W2, hap, hcl, hr2, hg2, _, _⟩ := delete_steps h32 hn hi hq hrd A (by rw [hm] at hA; exact hA)
  have HAP := Lib.hid hap
  have HCL := Lib.hid hcl
  have HR2 := Lib.hid hr2
  have HG2 := Lib.hid (show w.grownBy W2 (some g) by rw [hwd] at hg2; exact ⟨hg2.os, hg2.tape, hg2.output, hg2.size, hg2.block⟩)
  have HS1 := Lib.hid hs1
  have HS2 := Lib.hid hs2
  have HS3 := Lib.hid hs3
  have HS4 := Lib.hid hs4
  have HWD := Lib.hid hwd
  have HM := Lib.hid hm
  rw [← hm] at HAP
  have hne : ¬ (i : Int) = (m : Int) := by omega
  have hne2 : ((i : Int) == (m : Int)) = false := beq_eq_false_iff_ne.2 hne
  have hni : ¬ i = m := by omega
  have hq8 : q ≤ 1000000 := by omega
  clear hap hcl hr2 hg2 hs2 hs3 hs4 hwd hrd hA hrow hm hq
  go_enter Try.func45, Try.ntmps45
  go_upto_region 5 with fail
  clear hs1
  refine wp_region_specs2 [[], [], [0, 1], [], [], [3, 4], [2, 5], [6]] [some 20, some 21, some 22, some 23, some 24, some 25, some 26, some 0] [0, 1, 2, 3, 4, 5, 6, 7]
    (fun w_ => True) (fun i w_ => i = 6 → w_ = wd) (fun j w_ w_' => (j ≠ 6 → w_' = w_) ∧ (j = 6 → w_' = W1))
    (fun ix_ => [eqv (.slice (some ⟨g, 0, none⟩) n c), eqv (.int .i64 i), eqv (.slice (some ⟨g, 0, none⟩) i c), eqv (.slice (some ⟨g, 0, none⟩) n c), eqv (.int .i64 m), eqv (.slice A (n - m) (c - m)), fun v w_ => v = .slice (some ⟨g, 0, none⟩) q c ∧ w_ = W1, fun v w_ => v = .slice (some ⟨g, 0, none⟩) q c ∧ w_ = W1].getD ix_ anyv) (by kernel_rfl) (by kernel_rfl) trivial (fun i _ => HWD.out.symm) (fun _ _ _ _ _ => trivial) ?_ ?_ ?_ ?_
  · intro i j w_ w_' hij hd hp hr hi
    rw [hr.1 (fun h => hij (hi.trans h.symm))]; exact hp hi
  · intro i j v w_ w_' hij hd h hr
    by_cases hj : j = 6
    · subst hj
      match i, hij, hd, h with
      | 0, _, _, h => exact h
      | 1, _, _, h => exact h
      | 2, _, _, h => exact h
      | 3, _, _, h => exact h
      | 4, _, _, h => exact h
      | 5, _, _, h => exact h
      | 6, hij, _, h => exact absurd rfl hij
      | 7, _, hd, h => exact absurd (by decide) hd
      | i + 8, _, _, h => exact trivial
    · rw [hr.1 hj]; exact h
  · refine ⟨?_, ?_, ?_, ?_, ?_, ?_, ?_, ?_, trivial⟩
    · intro vs wx hG hP hd
      simp only [putL]
      clear hd hP hG
      go_wp2
      exact ⟨rfl, rfl, ⟨fun _ => rfl, fun h => by cases h⟩, rfl⟩
    · intro vs wx hG hP hd
      simp only [putL]
      clear hd hP hG
      go_wp2
      exact ⟨rfl, rfl, ⟨fun _ => rfl, fun h => by cases h⟩, rfl⟩
    · intro vs wx hG hP hd
      have h0 := hd.get 0 rfl
      change vs 0 = _ at h0
      have h1 := hd.get 1 rfl
      change vs 1 = _ at h1
      have n1 := HS2.out
      simp only [putL, h0, h1]
      clear hd hP hG h0 h1
      go_wp2
      exact ⟨rfl, rfl, ⟨fun _ => rfl, fun h => by cases h⟩, rfl⟩
    · intro vs wx hG hP hd
      simp only [putL]
      clear hd hP hG
      go_wp2
      exact ⟨rfl, rfl, ⟨fun _ => rfl, fun h => by cases h⟩, rfl⟩
    · intro vs wx hG hP hd
      simp only [putL]
      clear hd hP hG
      go_wp2
      exact ⟨rfl, rfl, ⟨fun _ => rfl, fun h => by cases h⟩, rfl⟩
    · intro vs wx hG hP hd
      have h3 := hd.get 3 rfl
      change vs 3 = _ at h3
      have h4 := hd.get 4 rfl
      change vs 4 = _ at h4
      have n1 := HS3.out
      simp only [putL, h3, h4]
      clear hd hP hG h3 h4
      go_wp2
      exact ⟨rfl, rfl, ⟨fun _ => rfl, fun h => by cases h⟩, rfl⟩
    · intro vs wx hG hP hd
      have hwx : wx = wd := hP rfl
      subst hwx
      have h2 := hd.get 2 rfl
      change vs 2 = _ at h2
      have h5 := hd.get 5 rfl
      change vs 5 = _ at h5
      simp only [putL, h2, h5]
      clear hd hP hG h2 h5
      go_wp2_with (at_builtin; refine wpList_append_run rfl _ _ rfl _ _ _ _ rfl rfl HAP.out ?_)
      exact ⟨rfl, rfl, ⟨fun h => absurd rfl h, fun _ => rfl⟩, rfl, rfl⟩
    · intro vs wx hG hP hd
      obtain ⟨h6, h6w⟩ := hd.get 6 rfl
      change vs 6 = _ at h6
      have H6 := Lib.hid h6w
      simp only [putL, h6]
      clear hd hP hG h6 h6w
      go_wp2
      exact ⟨rfl, rfl, ⟨fun _ => rfl, fun h => by cases h⟩, rfl, H6.out⟩
  intro vs wz hG hd
  have h0 := hd.get 0 rfl
  change vs 0 = _ at h0
  have h1 := hd.get 1 rfl
  change vs 1 = _ at h1
  have h2 := hd.get 2 rfl
  change vs 2 = _ at h2
  have h3 := hd.get 3 rfl
  change vs 3 = _ at h3
  have h4 := hd.get 4 rfl
  change vs 4 = _ at h4
  have h5 := hd.get 5 rfl
  change vs 5 = _ at h5
  obtain ⟨h6, _⟩ := hd.get 6 rfl
  change vs 6 = _ at h6
  obtain ⟨h7, hwz⟩ := hd.get 7 rfl
  change vs 7 = _ at h7
  subst hwz
  simp only [putL, List.getD_cons_zero, List.getD_cons_succ, Act.put, List.setIfInBounds_toArray, List.set_cons_zero, List.set_cons_succ, h0, h1, h2, h3, h4, h5, h6, h7]
  clear hd hG h0 h1 h2 h3 h4 h5 h6 h7
  have n1 := HS4.out
  have n2 := HCL.out
  go_wp2
  go_ret
  exact ⟨rfl, HR2.out, HG2.out⟩
end Go.Proofs.Ytmmmimkikakalaa
