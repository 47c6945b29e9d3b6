/- strings.Builder, with the blocks that it turns. -/
import Derived.Test.YtcgioboiebanpaaNx
namespace Go.Proofs.Ytcgioboiebanpaa
open Go.RowKit Go.Maps
set_option linter.unusedVariables false

theorem string_where {P : Program} (w : World) (base : Nat) (t u ty e : TypeId) (i : TypeInfo) (ht : P.underlying t = some (.slice e)) (hu : P.underlying u = some .string) (hi : P.info? e = some i) (hz : i.zero = some (.int .u8 0))
    (hsize : i.size = 1) (hby : i.bytes = 1) (v : Value) (n : Nat) (xs : List Value) (hown : w.ownsRow base e 1 v n xs) (s : ByteArray) (h63 : n + s.size ≤ maxLen) (hbytes : n + s.size ≤ 140737488355328) {v' : Value} {w' : World}
    (hrun : (Builtin.append_ #[t, u] ty #[v, .string s]).run P w = .ok v' w') : v'.ownBlock = v.ownBlock ∨ v'.ownBlock = some w.heap.size := by
  have hsmall : n + s.size ≤ 9223372036854775807 := by simp only [maxLen] at h63; omega
  have hxl : xs.length = n := by simpa using hown.1
  rcases hown.2 with ⟨rfl, rfl⟩ | ⟨g, cap, cur, rfl, hbg, hg, hnc, hcm, hcs, htake⟩
  · by_cases hm : s.size = 0
    · have hf := Lib.run_firstCells_string (P := P) w 1 s
      rw [hm] at hf
      have hr : (Builtin.append_ #[t, u] ty #[.slice none 0 0, .string s]).run P w = .ok (.slice none 0 0) w := by
        simp [Builtin.append_, run_underlying ht, run_underlying hu, sizeOf, typeInfo, hi, hsize, Builtin.lenOf, hm, hf]
      rw [hr] at hrun
      cases hrun
      exact .inl rfl
    · have hr := run_append_nil_string (P := P) w t u ty e i (.int .u8 0) ht hu hi hz s (by omega) (by omega) (by rw [hby]; omega)
      rw [hr] at hrun
      cases hrun
      exact .inr rfl
  · by_cases hroom : n + s.size ≤ cap
    · have hcs' : cur.size = cap := by simpa using hcs
      have hr := Lib.run_append_room_string (P := P) w t u ty e i ht hu hi hsize g n cap cur hg s hroom (by omega)
      rw [hr] at hrun
      cases hrun
      exact .inl rfl
    · have holds : ∀ j u, xs[j]? = some u → w.cell? ((⟨g, 0, none⟩ : Addr).add j) = some u := hown.cells (g := g) rfl
      have hr := Lib.run_append_grow_string (P := P) w t u ty e i (.int .u8 0) ht hu hi hz ⟨g, 0, none⟩ n cap xs (by rw [hsize]; simpa using hxl) holds s (by omega) (by omega) (by rw [hby]; exact growslice_fits (by omega) (by omega))
      rw [hr] at hrun
      cases hrun
      exact .inr rfl
theorem wpList_stringF {P : Program} {w : World} {ops : Array Oper} {rest : List Oper} {o : Oper} {a : Act} {Q : Exit → Act → World → Prop} (hgd : o.guard = none) (sl x : Operand) (t u : TypeId)
    (ho : o.op = .call { callee := .builtin .append, args := #[sl, x], argTypes := #[t, u] })
    (base : Nat) (e : TypeId) (i : TypeInfo) (ht : P.underlying t = some (.slice e)) (hu : P.underlying u = some .string) (hi : P.info? e = some i) (hz : i.zero = some (.int .u8 0))
    (hsize : i.size = 1) (hby : i.bytes = 1)
    (v : Value) (n : Nat) (xs : List Value) (hs : a.eval sl = v) (hown : w.ownsRow base e 1 v n xs) (s : ByteArray) (hx : a.eval x = .string s)
    (h63 : n + s.size ≤ maxLen) (hbytes : n + s.size ≤ 140737488355328) (hbase : base ≤ w.heap.size)
    (h : ∀ v' w', w'.ownsRow base e 1 v' (n + s.size) (xs ++ Lib.strCells s) → w.grownBy w' v.ownBlock → (v'.ownBlock = v.ownBlock ∨ v'.ownBlock = some w.heap.size) → wpList P ops Q rest (a.put o.dst v') w') : wpList P ops Q (o :: rest) a w := by
  refine wpList_plain hgd fun K hK => ?_
  obtain ⟨v', w', hr, h2, h3, h4⟩ := Lib.run_append_own_string (P := P) w base t u o.type e i ht hu hi hz hsize hby v n xs hown s h63 hbytes hbase
  have h5 := string_where w base t u o.type e i ht hu hi hz hsize hby v n xs hown s h63 hbytes hr
  unfold Oper.wp execOp
  simp only [ho, resolve, invoke, builtin, Sem.run_bind, Sem.run_pure, Result.andThen_ok, List.map_toArray, List.map_cons, List.map_nil, hs, hx, hr]
  exact hK _ _ (h v' w' h2 h3 h5)
/-- A builder in block b whose bytes lie in v. -/
def BV (base b : Nat) (bs : List Value) (v : Value) (w : World) : Prop :=
  (∃ p, (p = .pointer none ∨ p = .pointer (some ⟨b, 0, none⟩)) ∧ w.heap[b]? = some (.cells #[p, v] 76 (0, 0))) ∧ w.ownsRow base 5 1 v bs.length bs ∧ v.ownBlock ≠ some b
theorem bv_is {base b : Nat} {bs : List Value} {v : Value} {w : World} (hb : base ≤ b) (h : BV base b bs v w) : Lib.IsBuilder 76 5 base b bs w := by
  obtain ⟨⟨p, hp, hh⟩, h2, h3⟩ := h
  rcases hp with rfl | rfl
  · exact .inl ⟨hb, v, hh, h2, h3⟩
  · exact .inr ⟨hb, v, hh, h2, h3⟩
theorem ownsRow_at {w : World} {base : Nat} {e : TypeId} {v : Value} {n : Nat} {xs : List Value} (h : w.ownsRow base e 1 v n xs) {g : Nat} (hg : v.ownBlock = some g) : base ≤ g ∧ ∃ cur, w.heap[g]? = some (.cells cur e (0, 0)) := by
  obtain ⟨hl, ⟨rfl, _⟩ | ⟨g', cap, cur, rfl, hb, hh, hr⟩⟩ := h
  · cases hg
  · cases hg; exact ⟨hb, cur, hh⟩
theorem ownsRow_keep {w w' : World} {base : Nat} {e : TypeId} {size : Nat} {v : Value} {n : Nat} {xs : List Value} (h : w.ownsRow base e size v n xs) (hk : ∀ g, v.ownBlock = some g → w'.heap[g]? = w.heap[g]?) : w'.ownsRow base e size v n xs := by
  obtain ⟨hl, h0 | ⟨g, cap, cur, rfl, hg, hb, hr⟩⟩ := h
  · exact ⟨hl, .inl h0⟩
  · exact ⟨hl, .inr ⟨g, cap, cur, rfl, hg, (hk g rfl).trans hb, hr⟩⟩
/-- The blocks of a builder. -/
def UB (b : Nat) (v : Value) (k : Nat) : Prop := k = b ∨ v.ownBlock = some k
theorem BV.keep {base b : Nat} {bs : List Value} {v : Value} {w w' : World} (h : BV base b bs v w) (hk : ∀ k, UB b v k → w'.heap[k]? = w.heap[k]?) : BV base b bs v w' := by
  obtain ⟨⟨p, hp, hh⟩, h2, h3⟩ := h
  exact ⟨⟨p, hp, (hk b (.inl rfl)).trans hh⟩, ownsRow_keep h2 (fun g hg => hk g (.inr hg)), h3⟩
theorem BV.lt {base b : Nat} {bs : List Value} {v : Value} {w : World} (h : BV base b bs v w) (k : Nat) (hk : UB b v k) : k < w.heap.size := by
  obtain ⟨⟨p, hp, hh⟩, h2, h3⟩ := h
  rcases hk with rfl | hk
  · exact (Array.getElem?_eq_some_iff.1 hh).1
  · obtain ⟨_, cur, hc⟩ := ownsRow_at h2 hk; exact (Array.getElem?_eq_some_iff.1 hc).1
theorem copyCheck_bv (base b : Nat) (bs : List Value) (v : Value) (w : World) (h : BV base b bs v w) :
    Calls Try.prog 51 #[.pointer (some ⟨b, 0, none⟩)] w fun e w' => e = .returned (.tuple #[]) ∧ w'.heap[b]? = some (.cells #[.pointer (some ⟨b, 0, none⟩), v] 76 (0, 0)) ∧ Turns (fun k => k = b) w w' := by
  obtain ⟨⟨p, hp, hh⟩, h2, h3⟩ := h
  rcases hp with rfl | rfl
  · refine (copyCheck_fresh b w (by rw [Lib.cell_of_heap hh]; rfl) (by simp [World.shape?, hh]) (Lib.frozen_of_heap hh 0)).mono ?_
    rintro e w' ⟨rfl, rfl⟩
    exact ⟨rfl, heap_setCell_at hh _, ⟨rfl, rfl, rfl, by simp, fun k _ hk => heap_setCell_ne w b 0 k _ hk⟩⟩
  · refine (copyCheck_used b w (by rw [Lib.cell_of_heap hh]; rfl)).mono ?_
    rintro e w' ⟨rfl, rfl⟩
    exact ⟨rfl, hh, .refl _ _⟩
set_option maxHeartbeats 2000000 in
set_option maxRecDepth 100000 in
theorem writeString_bv (base b : Nat) (bs : List Value) (v : Value) (s : ByteArray) (w : World) (h : BV base b bs v w) (hlen : bs.length + s.size ≤ 140737488355328) (hBw : base ≤ w.heap.size) :
    Calls Try.prog 31 #[.pointer (some ⟨b, 0, none⟩), .string s] w fun e w' => e = .returned (.tuple #[.int .i64 s.size, .nilIface]) ∧ ∃ v', BV base b (bs ++ Lib.strCells s) v' w' ∧ Turns (UB b v) w w' ∧ ∀ k, UB b v' k → UB b v k ∨ w.heap.size ≤ k := by
  obtain ⟨i0, hi, hz0, hz1, hz2⟩ := info_parts info5
  have hown := h.2.1
  have hne := h.2.2
  have HC := Lib.hid (copyCheck_bv base b bs v w h)
  have hlt0 := h.lt b (.inl rfl)
  go_enter Try.func31, Try.ntmps31
  go_wp2_with fail
  refine HC.out.mono ?_
  rintro e w1 ⟨rfl, hbk, ht1⟩
  have hown1 := ownsRow_keep (w' := w1) hown (fun g hg => ht1.block g (by obtain ⟨_, cur, hc⟩ := ownsRow_at hown hg; exact (Array.getElem?_eq_some_iff.1 hc).1) (fun e => hne (e ▸ hg)))
  have c0 : w1.cell? ⟨b, 0, none⟩ = some (.pointer (some ⟨b, 0, none⟩)) := by rw [Lib.cell_of_heap hbk]; rfl
  have c1 : w1.cell? ⟨b, 1, none⟩ = some v := by rw [Lib.cell_of_heap hbk]; rfl
  have hs1 := ht1.size
  have HT1 := Lib.hid ht1
  clear hown ht1
  go_wp2_with (at_builtin; refine wpList_stringF rfl _ _ 74 9 rfl base 5 i0 Try.underlying74 Try.underlying9 hi hz0 hz1 hz2 _ _ _ rfl hown1 s rfl ?c3 ?c4 ?c5 ?_)
  case c3 => unfold maxLen; omega
  case c4 => omega
  case c5 => omega
  intro v' w2 hown' hgrow hwh
  have hlt : b < w1.heap.size := (Array.getElem?_eq_some_iff.1 hbk).1
  have hb2 : w2.heap[b]? = some (.cells #[.pointer (some ⟨b, 0, none⟩), v] 76 (0, 0)) := by
    rw [hgrow.block b hlt (fun e => hne e.symm)]
    exact hbk
  have d0 : w2.cell? ⟨b, 0, none⟩ = some (.pointer (some ⟨b, 0, none⟩)) := by rw [Lib.cell_of_heap hb2]; rfl
  have d1 : w2.cell? ⟨b, 1, none⟩ = some v := by rw [Lib.cell_of_heap hb2]; rfl
  have f1 : w2.frozen? ⟨b, 1, none⟩ = false := Lib.frozen_of_heap hb2 1
  obtain ⟨ao, n', cap, rfl⟩ : ∃ ao n' cap, v' = .slice ao n' cap := by
    rcases hown'.2 with ⟨hv, _⟩ | ⟨g, cap, cur, hv, _⟩
    · exact ⟨_, _, _, hv⟩
    · exact ⟨_, _, _, hv⟩
  have HWH := Lib.hid hwh
  have HGR := Lib.hid hgrow
  have HB2 := Lib.hid hb2
  have HOWN := Lib.hid hown'
  have HBK := Lib.hid hbk
  have HNE := Lib.hid hne
  have HS1 := Lib.hid (show w.heap.size ≤ w1.heap.size ∧ b < w.heap.size from ⟨hs1, hlt0⟩)
  clear hwh hgrow hb2 hown' hbk c0 c1 hlen hBw h hne hs1 hlt0 hown1 hlt
  go_wp2
  go_ret2
  have hw1 : ∀ k, UB b (.slice ao n' cap) k → UB b v k ∨ w.heap.size ≤ k := fun k hk => by
    rcases hk with h | h
    · exact .inl (.inl h)
    · rcases HWH.out with e | e
      · exact .inl (.inr (e ▸ h))
      · rw [e] at h; cases h; exact .inr HS1.out.1
  have hnb : (Value.slice ao n' cap).ownBlock ≠ some b := fun e => by
    rcases HWH.out with h | h
    · exact HNE.out (h ▸ e)
    · rw [h] at e; cases e; have := HS1.out; omega
  refine ⟨rfl, .slice ao n' cap, ⟨⟨_, .inr rfl, heap_setCell_at HB2.out _⟩, ?_, hnb⟩, ?_, hw1⟩
  · have h1 := ownsRow_keep (w' := w2.setCell ⟨b, 1, none⟩ (.slice ao n' cap)) HOWN.out (fun g hg => heap_setCell_ne w2 b 1 g _ (fun e => hnb (e ▸ hg)))
    rwa [List.length_append, Lib.strCells_length]
  · refine (HT1.out.mono (fun k h _ => .inl h)).trans (U' := fun k => UB b v k) ⟨HGR.out.os, HGR.out.tape, HGR.out.output, by have := HGR.out.size; simpa using this, fun k hk hn => ?_⟩ (fun k h _ => h)
    rw [heap_setCell_ne w2 b 1 k _ (fun e => hn (.inl e))]
    exact HGR.out.block k hk (fun e => hn (.inr e.symm))
end Go.Proofs.Ytcgioboiebanpaa
