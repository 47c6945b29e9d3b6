/- Parents. -/
import Derived.Test.YtmmmimkikakalaaMg
namespace Go.Proofs.Ytmmmimkikakalaa
open Go.RowKit Go.Maps
set_option linter.unusedVariables false

/-- A node's parents, its stamp. -/
def nodeOf (G : List GN) (x : List UInt8) : GN := (G.find? fun g => g.1 == x).getD (x, [], 0)
def parsOf (G : List GN) (x : List UInt8) : List (List UInt8) := (nodeOf G x).2.1
def stampOf (G : List GN) (x : List UInt8) : Int := (nodeOf G x).2.2
theorem nodeOf_mem {G : List GN} {x : List UInt8} (h : isNode G x = true) : nodeOf G x ∈ G ∧ (nodeOf G x).1 = x := by
  have hm := of_decide_eq_true h
  obtain ⟨g, hg, he⟩ := List.mem_map.1 hm
  unfold nodeOf
  cases hf : G.find? fun g => g.1 == x with
  | none =>
    have := List.find?_eq_none.1 hf g hg
    simp [he] at this
  | some g' =>
    exact ⟨List.mem_of_find?_eq_some hf, by simpa using List.find?_some hf⟩
def isNd (v : Value) : Prop := ∃ a n c s, v = .agg #[.slice a n c, .int .i64 s]
@[go_sem] theorem isNd_mk (a : Option Addr) (n c : Nat) (s : Int) : isNd (.agg #[.slice a n c, .int .i64 s]) := ⟨_, _, _, _, rfl⟩
@[go_sem ↓] theorem fld58_0 (f : Operand → Value) (x : Operand) (dst : Option Tmp) (ty' : TypeId) (pos : String) (after : Array Edge) (guard : Option (Nat × Bool)) (w : World) (hx : isNd (f x)) :
    (execOp f ⟨dst, .field 58 x 0, ty', pos, after, guard⟩).run Try.prog w = .ok (.value ((aggOf (f x)).getD 0 undef)) w := by
  obtain ⟨a, n, c, s, hx⟩ := hx
  unfold execOp
  simp only [hx, aggOf_agg]
  kernel_rfl
@[go_sem ↓] theorem fld58_1 (f : Operand → Value) (x : Operand) (dst : Option Tmp) (ty' : TypeId) (pos : String) (after : Array Edge) (guard : Option (Nat × Bool)) (w : World) (hx : isNd (f x)) :
    (execOp f ⟨dst, .field 58 x 1, ty', pos, after, guard⟩).run Try.prog w = .ok (.value ((aggOf (f x)).getD 1 undef)) w := by
  obtain ⟨a, n, c, s, hx⟩ := hx
  unfold execOp
  simp only [hx, aggOf_agg]
  kernel_rfl
/-- What a look-up of a node gives. -/
theorem look_node {w : World} {gb mb : Nat} {G : List GN} (hG : GraphAt w gb mb G) {x : List UInt8} (h : isNode G x = true) :
    ∃ a c, SlI w (.slice a (parsOf G x).length c) (parsOf G x) ∧ (∀ w', Below w.heap.size w w' → (Instr.lookup 59 (.map (some mb)) (.agg (idB x)) false).run Try.prog w' = .ok (nodV a (parsOf G x).length c (stampOf G x)) w') := by
  obtain ⟨D, n, hn, ho, hd⟩ := hG.map
  obtain ⟨hm, he⟩ := nodeOf_mem h
  obtain ⟨h32, a, c, hs, hat, ha⟩ := hd.node _ hm
  rw [he] at h32 hat
  obtain ⟨V, hV, hlk⟩ := look24 ho x h32
  rw [hat] at hV
  obtain ⟨a', n', c', s', hv, hdd, _, ha'⟩ := nodR_inv hV
  obtain ⟨rfl, rfl, rfl, rfl⟩ := ndD_inj ha ha' hdd
  refine ⟨a, c, hs, fun w' hb => ?_⟩
  rw [(hlk w' hb).2, hv]; rfl

set_option maxHeartbeats 2000000 in
set_option maxRecDepth 100000 in
theorem parents_no (gb mb : Nat) (G : List GN) (x : List UInt8) (hx : x.length = 32) (w : World) (hG : GraphAt w gb mb G) (hn : isNode G x = false) :
    Calls Try.prog 21 #[.pointer (some ⟨gb, 0, none⟩), .agg (idB x)] w fun e w' => e = .returned (.tuple #[.slice none 0 0, .int .i64 12]) ∧ Below w.heap.size w w' := by
  obtain ⟨W, hW⟩ : ∃ W, W = w.alloc (.cells (idB x) 24) := ⟨_, rfl⟩
  have hb0 := (Below.refl w.heap.size w).alloc (Nat.le_refl _) (.cells (idB x) 24)
  obtain ⟨blk, hblk⟩ : ∃ b, b = w.heap.size := ⟨_, rfl⟩
  have f1 := fits_new w (idB x) 24 32 (by rw [idB_size, hx])
  have f2 := aggAt_new w (idB x) 24 32 (by rw [idB_size, hx])
  rw [← hW, ← hblk] at f1 f2
  rw [← hW] at hb0
  have HGA0 := Lib.hid (hG.below hb0)
  have HB00 := Lib.hid hb0
  have HF10 := Lib.hid f1
  have HF20 := Lib.hid f2
  have hbq := (Below.refl W.heap.size W).alloc (Nat.le_refl _) (.cells (idB x) 24)
  have hin : IdsIn (W.alloc (.cells (idB x) 24)) (some ⟨W.heap.size, 0, none⟩) [x] := by
    have := ids_new W [x] (by simp [hx])
    have e1 : (idsC [x]).toArray = idB x := by simp [idsC, idB]
    rw [e1] at this; exact this
  have HBQ := Lib.hid (hb0.trans (hbq.mono hb0.size))
  have HBQ2 := Lib.hid hbq
  have HKN := Lib.hid (known_any gb mb G (some ⟨W.heap.size, 0, none⟩) 1 [x] (W.alloc (.cells (idB x) 24)) (by simp) ((hG.below hb0).below hbq) hin)
  have hx32 : x.length = 32 := hx
  have HXX := Lib.hid hx
  clear hb0 hbq hin hG
  go_enter Try.func21, Try.ntmps21
  go_upto_region 1 with fail
  rw [← hW]
  clear hW
  rw [← hblk]
  clear hblk
  have hk : knownE G [x] = 12 := by unfold knownE; simp [hn]
  rw [hk] at HKN
  clear hk hn
  go_wp2_with fail
  refine HKN.out.mono ?_
  rintro e w2 ⟨rfl, hb2⟩
  have HB2 := Lib.hid (HBQ.out.trans (hb2.mono HBQ.out.size))
  clear hb2 f1 f2
  go_wp2
  go_ret2
  exact ⟨rfl, HB2.out⟩
set_option maxHeartbeats 2000000 in
set_option maxRecDepth 100000 in
theorem parents_any (gb mb : Nat) (G : List GN) (x : List UInt8) (hx : x.length = 32) (w : World) (hG : GraphAt w gb mb G) (hn : isNode G x = true) (hlp : (parsOf G x).length ≤ 1000000) :
    Calls Try.prog 21 #[.pointer (some ⟨gb, 0, none⟩), .agg (idB x)] w fun e w' => ∃ v, e = .returned (.tuple #[v, .int .i64 0]) ∧ rowI w.heap.size (parsOf G x) v w' ∧ Below w.heap.size w w' := by
  obtain ⟨W, hW⟩ : ∃ W, W = w.alloc (.cells (idB x) 24) := ⟨_, rfl⟩
  have hb0 := (Below.refl w.heap.size w).alloc (Nat.le_refl _) (.cells (idB x) 24)
  obtain ⟨blk, hblk⟩ : ∃ b, b = w.heap.size := ⟨_, rfl⟩
  have f1 := fits_new w (idB x) 24 32 (by rw [idB_size, hx])
  have f2 := aggAt_new w (idB x) 24 32 (by rw [idB_size, hx])
  rw [← hW, ← hblk] at f1 f2
  rw [← hW] at hb0
  have HGA0 := Lib.hid (hG.below hb0)
  have HB00 := Lib.hid hb0
  have HF10 := Lib.hid f1
  have HF20 := Lib.hid f2
  have hbq := (Below.refl W.heap.size W).alloc (Nat.le_refl _) (.cells (idB x) 24)
  have hin : IdsIn (W.alloc (.cells (idB x) 24)) (some ⟨W.heap.size, 0, none⟩) [x] := by
    have := ids_new W [x] (by simp [hx])
    have e1 : (idsC [x]).toArray = idB x := by simp [idsC, idB]
    rw [e1] at this; exact this
  have HBQ := Lib.hid (hb0.trans (hbq.mono hb0.size))
  have HBQ2 := Lib.hid hbq
  have HKN := Lib.hid (known_any gb mb G (some ⟨W.heap.size, 0, none⟩) 1 [x] (W.alloc (.cells (idB x) 24)) (by simp) ((hG.below hb0).below hbq) hin)
  have hx32 : x.length = 32 := hx
  have HXX := Lib.hid hx
  have HPL := Lib.hid hlp
  clear hb0 hbq hin hG
  go_enter Try.func21, Try.ntmps21
  go_upto_region 1 with fail
  rw [← hW]
  clear hW
  rw [← hblk]
  clear hblk
  have hk : knownE G [x] = 0 := by unfold knownE; simp [hn]
  rw [hk] at HKN
  have HNN := Lib.hid hn
  clear hk hn
  go_wp2_with fail
  refine HKN.out.mono ?_
  rintro e w2 ⟨rfl, hb2⟩
  have HB0 := Lib.hid (HBQ.out.trans (hb2.mono HBQ.out.size))
  have hw2 := HBQ2.out.trans (hb2.mono HBQ2.out.size)
  have HGA := Lib.hid (HGA0.out.below hw2)
  have HF1 := Lib.hid (fits_below hw2 HF10.out)
  have HF2 := Lib.hid ((agg_below hw2 HF10.out).trans HF20.out)
  obtain ⟨a', c', hsl, hlk⟩ := look_node HGA.out HNN.out
  have HSL := Lib.hid hsl
  have HLK := Lib.hid hlk
  clear hb2 hw2 hsl hlk f1 f2 HKN
  generalize stampOf G x = st' at *
  obtain ⟨ps, hps⟩ : ∃ ps, ps = parsOf G x := ⟨_, rfl⟩
  rw [← hps] at HSL HLK HPL
  have HPSE := Lib.hid hps
  clear hps
  obtain ⟨V2, hV2⟩ : ∃ V2, V2 = w2 := ⟨_, rfl⟩
  go_upto_region 4 with fail
  clear hV2
  refine wp_region_specs2 [[], [0], [1], [2], [], [3, 4], [5], [6], [7], []] [some 14, some 15, some 16, some 17, some 18, some 19, some 20, some 21, some 4, some 5] [0, 1, 2, 3, 4, 5, 6, 7, 8, 9]
    (fun w_ => Below w2.heap.size w2 w_) (fun i w_ => True) (fun _ w_ w_' => Below w_.heap.size w_ w_')
    (fun ix_ => [eqv (Value.pointer (some ⟨gb, 0, none⟩)), eqv (Value.pointer (some ⟨gb, 0, none⟩)), eqv (Value.pointer (some ⟨gb, 0, none⟩)), eqv (Value.map (some mb)), eqv (Value.agg (idB x)), eqv (nodV a' ps.length c' st'), eqv (Value.slice a' ps.length c'), rowI w2.heap.size ps, rowI w2.heap.size ps, eqv (Value.int .i64 0)].getD ix_ anyv) (by kernel_rfl) (by kernel_rfl) (below_drewN (Below.refl _ _) 1) (fun _ => trivial) (fun j w_ w_' hg hr => hg.trans (hr.mono hg.size)) ?_ ?_ ?_ ?_
  · exact fun _ _ _ _ _ _ _ _ => trivial
  · intro i j v w_ w_' hij hd h hr
    match i, hij, hd, h with
    | 0, _, _, h => exact h
    | 1, _, _, h => exact h
    | 2, _, _, h => exact h
    | 3, _, _, h => exact h
    | 4, _, _, h => exact h
    | 5, _, _, h => exact h
    | 6, _, _, h => exact h
    | 7, _, _, h => exact ownsRow_below h hr
    | 8, _, _, h => exact ownsRow_below h hr
    | 9, _, _, h => exact h
    | i + 10, _, _, h => exact trivial
  · refine ⟨?_, ?_, ?_, ?_, ?_, ?_, ?_, ?_, ?_, ?_, trivial⟩
    · intro vs wq hG hP hd
      have HGQ := Lib.hid hG
      simp only [putL]
      clear hd hP hG 
      go_wp2
      exact ⟨rfl, rfl, Below.refl _ _, rfl⟩
    · intro vs wq hG hP hd
      have h0 := hd.get 0 rfl
      change vs 0 = _ at h0
      have HGQ := Lib.hid hG
      simp only [putL, h0]
      clear hd hP hG h0
      go_wp2
      exact ⟨rfl, rfl, Below.refl _ _, rfl⟩
    · intro vs wq hG hP hd
      have h1 := hd.get 1 rfl
      change vs 1 = _ at h1
      have HGQ := Lib.hid hG
      simp only [putL, h1]
      clear hd hP hG h1
      go_wp2
      exact ⟨rfl, rfl, Below.refl _ _, rfl⟩
    · intro vs wq hG hP hd
      have h2 := hd.get 2 rfl
      change vs 2 = _ at h2
      have n1 := (HGA.out.below hG).cell
      have HGQ := Lib.hid hG
      simp only [putL, h2]
      clear hd hP hG h2
      go_wp2
      exact ⟨rfl, rfl, Below.refl _ _, rfl⟩
    · intro vs wq hG hP hd
      have n1 := fits_below hG HF1.out
      have n2 := (agg_below hG HF1.out).trans HF2.out
      have HGQ := Lib.hid hG
      simp only [putL]
      clear hd hP hG 
      go_wp2
      exact ⟨rfl, rfl, Below.refl _ _, rfl⟩
    · intro vs wq hG hP hd
      have h3 := hd.get 3 rfl
      change vs 3 = _ at h3
      have h4 := hd.get 4 rfl
      change vs 4 = _ at h4
      have n1 := HLK.out wq hG
      have HGQ := Lib.hid hG
      simp only [putL, h3, h4]
      clear hd hP hG h3 h4
      go_wp2
      exact ⟨rfl, rfl, Below.refl _ _, rfl⟩
    · intro vs wq hG hP hd
      have h5 := hd.get 5 rfl
      change vs 5 = _ at h5
      change vs 5 = Value.agg #[.slice a' ps.length c', .int .i64 st'] at h5
      have HGQ := Lib.hid hG
      simp only [putL, h5]
      clear hd hP hG h5
      go_wp2
      exact ⟨rfl, rfl, Below.refl _ _, rfl⟩
    · intro vs wq hG hP hd
      have h6 := hd.get 6 rfl
      change vs 6 = _ at h6
      have HGQ := Lib.hid hG
      simp only [putL, h6]
      clear hd hP hG h6
      go_wp2_with fail
      obtain ⟨a2, c2, he2, _, _, hi2, hn2⟩ := (HSL.out.below HGQ.out)
      obtain ⟨rfl, _, rfl⟩ := Value.slice.inj he2
      refine (clone_any a' c' ps wq HPL.out hi2 hn2).mono ?_
      rintro e w1 ⟨v, rfl, hr1, hb1⟩
      have HR1 := Lib.hid (ownsRow_base hr1 HGQ.out.size)
      have HB1 := Lib.hid hb1
      clear hr1 hb1 hi2 hn2 he2
      go_wp2
      exact ⟨rfl, rfl, HB1.out, HR1.out⟩
    · intro vs wq hG hP hd
      have HD7 := Lib.hid (hd.get 7 rfl)
      have HGQ := Lib.hid hG
      simp only [putL]
      clear hd hP hG 
      have H7 := Lib.hid (show rowI w2.heap.size ps (vs 7) wq from HD7.out)
      go_wp2
      exact ⟨rfl, rfl, Below.refl _ _, H7.out⟩
    · intro vs wq hG hP hd
      have HGQ := Lib.hid hG
      simp only [putL]
      clear hd hP hG 
      go_wp2
      exact ⟨rfl, rfl, Below.refl _ _, rfl⟩
  · intro vs wz hG hd
    have h0 := hd.get 0 rfl
    change vs 0 = _ at h0
    have h1 := hd.get 1 rfl
    change vs 1 = _ at h1
    have h2 := hd.get 2 rfl
    change vs 2 = _ at h2
    have h3 := hd.get 3 rfl
    change vs 3 = _ at h3
    have h4 := hd.get 4 rfl
    change vs 4 = _ at h4
    have h5 := hd.get 5 rfl
    change vs 5 = _ at h5
    have h6 := hd.get 6 rfl
    change vs 6 = _ at h6
    have H8 := Lib.hid (show rowI w2.heap.size ps (vs 8) wz from (hd.get 8 rfl))
    have h9 := hd.get 9 rfl
    change vs 9 = _ at h9
    have HZ := Lib.hid hG
    simp only [putL, List.getD_cons_zero, List.getD_cons_succ, Act.put, List.setIfInBounds_toArray, List.set_cons_zero, List.set_cons_succ, h0, h1, h2, h3, h4, h5, h6, h9]
    clear hd hG h0 h1 h2 h3 h4 h5 h6 h9
    generalize vs 7 = zz7 at *
    generalize vs 8 = zz8 at *
    go_wp2
    go_ret2
    exact ⟨zz8, rfl, by rw [← HPSE.out]; exact ownsRow_base H8.out HB0.out.size, HB0.out.trans (HZ.out.mono HB0.out.size)⟩
end Go.Proofs.Ytmmmimkikakalaa
