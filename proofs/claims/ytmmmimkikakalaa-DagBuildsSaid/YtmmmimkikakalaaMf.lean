/- known; what a graph that is not there says. -/
import Derived.Test.YtmmmimkikakalaaMc
namespace Go.Proofs.Ytmmmimkikakalaa
open Go.RowKit Go.Maps
set_option linter.unusedVariables false

/-- Is an id a node? -/
def isNode (G : List GN) (x : List UInt8) : Bool := decide (x ∈ G.map (·.1))
/-- What known says. -/
def knownE (G : List GN) (l : List (List UInt8)) : Int := if l.all (isNode G) then 0 else 12

set_option maxHeartbeats 2000000 in
set_option maxRecDepth 100000 in
theorem known_any (gb mb : Nat) (G : List GN) (p : Option Addr) (c : Nat) (l : List (List UInt8)) (w : World) (hlen : l.length ≤ 1000000) (hG : GraphAt w gb mb G) (hin : IdsIn w p l) :
    Calls Try.prog 34 #[.pointer (some ⟨gb, 0, none⟩), .slice p l.length c] w fun e w' => e = .returned (.int .i64 (knownE G l)) ∧ Below w.heap.size w w' := by
  have HX := Lib.hid hin
  have HGA := Lib.hid hG
  clear hin hG
  go_enter Try.func34, Try.ntmps34
  go_wp2_with fail
  go_loopg [11] l.length (fun g v wr => ∃ k : Nat, g + k = l.length ∧ v = .int .i64 k ∧ (∀ j, j < k → isNode G (l.getD j []) = true) ∧ Below w.heap.size w wr)
  case atStart => exact ⟨0, by omega, rfl, fun j hj => by omega, Below.refl _ _⟩
  case round =>
    obtain ⟨k, hg, rfl, hall, hbw⟩ := hrel
    have HG := Lib.hid hg
    have HA := Lib.hid hall
    have HB := Lib.hid hbw
    clear hg hall hbw
    by_cases hk : k < l.length
    · have HK := Lib.hid hk
      rcases (HX.out.below HB.out).2 with h | ⟨b, off, rfl, hc⟩
      · subst h; simp at hk
      obtain ⟨e1, e2⟩ := hc k hk
      have hy := HX.out.1 _ (getD_mem hk)
      have HM := Lib.hid (getD_mem hk)
      have HYD := Lib.hid (show isNode G (l.getD k []) = isNode G (l.getD k []) from rfl)
      obtain ⟨y, hyy⟩ : ∃ y, y = l.getD k [] := ⟨_, rfl⟩
      have HYE := Lib.hid hyy
      rw [← hyy] at e2 hy HM
      have i1 : (k : Int) < l.length := by omega
      have f1 := fits_new wr (idB y) 24 32 (by rw [idB_size, hy])
      have f2 := aggAt_new wr (idB y) 24 32 (by rw [idB_size, hy])
      have hb1 := (Below.refl wr.heap.size wr).alloc (Nat.le_refl _) (.cells (idB y) 24)
      have HB1 := Lib.hid (HB.out.trans (hb1.mono HB.out.size))
      have HHA := Lib.hid (has_any gb mb G y hy _ (HGA.out.below HB1.out))
      clear hc hyy hb1 HYD
      cases hn : isNode G y with
      | true =>
        have hd : decide (y ∈ G.map (·.1)) = true := hn
        rw [hd] at HHA
        have HN := Lib.hid hn
        clear hd hn
        go_wp2_with fail
        refine HHA.out.mono ?_
        rintro e w2 ⟨rfl, hb2⟩
        have HB2 := Lib.hid (HB1.out.trans (hb2.mono HB1.out.size))
        clear hb2 HHA e1 e2 f1 f2
        go_wp2
        go_roundg (gk - 1)
        case measure => have := HG.out; have := HK.out; omega
        case rel => exact ⟨k + 1, by have := HG.out; have := HK.out; omega, by go_num, fun j hj => by rcases Nat.lt_succ_iff_lt_or_eq.1 hj with h | rfl; exact HA.out j h; rw [← HYE.out]; exact HN.out, HB2.out⟩
      | false =>
        have hd : decide (y ∈ G.map (·.1)) = false := hn
        rw [hd] at HHA
        have HE := Lib.hid (show knownE G l = 12 from by
          unfold knownE
          rw [if_neg]
          intro h
          have := List.all_eq_true.1 h y HM.out
          rw [hn] at this; cases this)
        clear hd hn
        go_wp2_with fail
        refine HHA.out.mono ?_
        rintro e w2 ⟨rfl, hb2⟩
        have HB2 := Lib.hid (HB1.out.trans (hb2.mono HB1.out.size))
        clear hb2 HHA e1 e2 f1 f2
        go_wp2
        go_ret
        exact ⟨ret_i HE.out.symm, HB2.out⟩
    · have HE := Lib.hid (show knownE G l = 0 from by
        unfold knownE
        rw [if_pos]
        rw [List.all_eq_true]
        intro x hx
        obtain ⟨j, hj, rfl⟩ := List.getElem_of_mem hx
        have := HA.out j (by have := HG.out; omega)
        simpa [List.getD_eq_getElem?_getD, hj] using this)
      go_wp2
      go_ret
      exact ⟨ret_i HE.out.symm, HB.out⟩

/-! ### A graph that is not there -/
set_option maxHeartbeats 1000000 in
set_option maxRecDepth 100000 in
theorem has_nil (x : List UInt8) (w : World) : Calls Try.prog 25 #[.pointer none, .agg (idB x)] w fun e w' => e = .returned (.bool false) ∧ Below w.heap.size w w' := by
  have hb := Lib.hid ((Below.refl w.heap.size w).alloc (Nat.le_refl _) (.cells (idB x) 24))
  go_enter Try.func25, Try.ntmps25
  go_wp2
  go_ret
  exact ⟨rfl, hb.out⟩
set_option maxHeartbeats 1000000 in
set_option maxRecDepth 100000 in
theorem known_nil (s : Value) (w : World) : Calls Try.prog 34 #[.pointer none, s] w fun e w' => e = .returned (.int .i64 1) ∧ Below w.heap.size w w' := by
  go_enter Try.func34, Try.ntmps34
  go_wp2
  go_ret
  exact ⟨rfl, Below.refl _ _⟩
set_option maxHeartbeats 1000000 in
set_option maxRecDepth 100000 in
theorem ids_nil (w : World) : Calls Try.prog 17 #[.pointer none] w fun e w' => e = .returned (.slice none 0 0) ∧ Below w.heap.size w w' := by
  go_enter Try.func17, Try.ntmps17
  go_wp2
  go_ret
  exact ⟨rfl, Below.refl _ _⟩
set_option maxHeartbeats 1000000 in
set_option maxRecDepth 100000 in
theorem heads_nil (w : World) : Calls Try.prog 26 #[.pointer none] w fun e w' => e = .returned (.slice none 0 0) ∧ Below w.heap.size w w' := by
  go_enter Try.func26, Try.ntmps26
  go_wp2
  go_ret
  exact ⟨rfl, Below.refl _ _⟩
end Go.Proofs.Ytmmmimkikakalaa

namespace Go.Proofs.Ytmmmimkikakalaa
open Go.RowKit Go.Maps
set_option linter.unusedVariables false

@[go_sem ↓] theorem eql30n (n c : Nat) (w : World) : (binOp .eql 30 (.slice none n c) (.slice none 0 0)).run Try.prog w = .ok (.bool true) w := Lib.run_eql_slice_nil w _ _ none n c 0 0 Try.underlying30
@[go_sem ↓] theorem eql30s (a : Addr) (n c : Nat) (w : World) : (binOp .eql 30 (.slice (some a) n c) (.slice none 0 0)).run Try.prog w = .ok (.bool false) w := Lib.run_eql_slice_nil w _ _ (some a) n c 0 0 Try.underlying30

set_option maxHeartbeats 1000000 in
set_option maxRecDepth 100000 in
theorem clone_any (a : Option Addr) (cap : Nat) (xs : List (List UInt8)) (w : World) (hm : xs.length ≤ 1000000) (hin : IdsIn w a xs) (hn : a = none → xs = [] ∧ cap = 0) :
    Calls Try.prog 47 #[.slice a xs.length cap] w fun e w' => ∃ v, e = .returned v ∧ rowI w.heap.size xs v w' ∧ Below w.heap.size w w' := by
  cases a with
  | none =>
    obtain ⟨rfl, rfl⟩ := hn rfl
    have HO := Lib.hid (show rowI w.heap.size [] (.slice none 0 0) w from ⟨by simp [idsC], .inl ⟨rfl, rfl⟩⟩)
    go_enter Try.func47, Try.ntmps47
    go_wp2
    go_ret
    exact ⟨_, rfl, HO.out, Below.refl _ _⟩
  | some a =>
    have hb := (Below.refl w.heap.size w).alloc (Nat.le_refl _) (.cells #[] 24)
    have hr := row_empty w
    have hin1 := hin.below hb
    have HB := Lib.hid hb
    have HR := Lib.hid hr
    have HIN := Lib.hid hin1
    have HC := Lib.hid (show ([] : List (List UInt8)).length + xs.length ≤ 4000000 by simp; omega)
    have HO := Lib.hid (show xs = [] ++ xs by simp)
    clear hb hr hin hin1 hn
    go_enter Try.func47, Try.ntmps47
    go_wp2_with (at_builtin; refine wpList_append_to rfl _ _ rfl w.heap.size _ [] xs xs HO.out rfl HR.out (some a) cap rfl HIN.out (fun h => by cases h) HC.out HB.out.size ?_)
    rintro v' w' hown hb
    have HO := Lib.hid hown
    have HB2 := Lib.hid (HB.out.trans hb)
    clear hown hb
    go_wp2
    go_ret
    exact ⟨_, rfl, HO.out, HB2.out⟩
end Go.Proofs.Ytmmmimkikakalaa

namespace Go.Proofs.Ytmmmimkikakalaa
open Go.RowKit Go.Maps
set_option linter.unusedVariables false

@[go_sem ↓] theorem bld0 (f : Operand → Value) (dst : Option Tmp) (ty' : TypeId) (pos : String) (after : Array Edge) (guard : Option (Nat × Bool)) (w : World) :
    (execOp f ⟨dst, .build 24 #[], ty', pos, after, guard⟩).run Try.prog w = .ok (.value (.agg (idB zeroId))) w := run_exec_build f #[] dst ty' pos after guard w (by
      have h : Try.prog.built 24 [] = some (idB zeroId) := by kernel_rfl
      simpa using h)
theorem built58 (a : Option Addr) (n c : Nat) (s : Int) : Try.prog.built 58 [(0, .slice a n c), (1, .int .i64 s)] = some #[.slice a n c, .int .i64 s] := by kernel_rfl
def isSl (v : Value) : Prop := ∃ a n c, v = .slice a n c
def isI64 (v : Value) : Prop := ∃ s, v = .int .i64 s
@[go_sem] theorem isSl_mk (a : Option Addr) (n c : Nat) : isSl (.slice a n c) := ⟨_, _, _, rfl⟩
@[go_sem] theorem isI64_mk (s : Int) : isI64 (.int .i64 s) := ⟨_, rfl⟩
@[go_sem ↓] theorem bld58 (f : Operand → Value) (x y : Operand) (dst : Option Tmp) (ty' : TypeId) (pos : String) (after : Array Edge) (guard : Option (Nat × Bool)) (w : World) (hx : isSl (f x)) (hy : isI64 (f y)) :
    (execOp f ⟨dst, .build 58 #[(0, x), (1, y)], ty', pos, after, guard⟩).run Try.prog w = .ok (.value (.agg #[f x, f y])) w := by
  obtain ⟨a, n, c, hx⟩ := hx
  obtain ⟨s, hy⟩ := hy
  exact run_exec_build f #[(0, x), (1, y)] dst ty' pos after guard w (by simp [hx, hy, built58])

/-- What Add says. -/
def addE (G : List GN) (x : List UInt8) (ps : List (List UInt8)) : Int :=
  if x = zeroId ∨ 2 < ps.length ∨ isSetL ps = false then 1 else if isNode G x = true then 11 else if ps.all (isNode G) = true then 0 else 12
/-- The graph behind it. -/
def addG (G : List GN) (x : List UInt8) (ps : List (List UInt8)) (st : Int) : List GN := if addE G x ps = 0 then G ++ [(x, ps, st)] else G
theorem grown_of_below {w w' : World} {row : Option Nat} (h : Below w.heap.size w w') : w.grownBy w' row := ⟨h.os, h.tape, h.output, h.size, fun k hk _ => h.block k hk⟩

/-- A node more. -/
theorem graph_put {w w' : World} {gb mb n : Nat} {G : List GN} {D : DataW Unit} {x : List UInt8} {ps : List (List UInt8)} {st : Int} {a : Option Addr} {c : Nat} (hne : gb ≠ mb) (hx : x.length = 32) (hnot : isNode G x = false)
    (hp : w.heap[gb]? = some (.cells #[.map (some mb)] 61 (0, 0))) (hn : n ≤ G.length) (hd : GraphD w G D) (ho : w'.ownsMap Try.prog 24 nodR mb (n + 1) (D.put (kL x) (ndD a ps.length c st))) (hg : w.grownBy w' (some mb))
    (hkeep : ∀ v A, SlI w v A → SlI w' v A) (hs : SlI w' (.slice a ps.length c) ps) (hsp : spotless a) : GraphAt w' gb mb (G ++ [(x, ps, st)]) := by
  have hh : Maps.has D (kL x) = false := by rw [hd.has x hx]; exact hnot
  have hbl : w'.heap[gb]? = w.heap[gb]? := hg.block gb (Array.getElem?_eq_some_iff.1 hp).1 (fun h => hne (Option.some.inj h))
  refine ⟨hbl.trans hp, _, n + 1, by simp; omega, ho, hd.tidy.put (kL_key x) _, fun y hy => ?_, ?_, fun g hgm => ?_⟩
  · by_cases he : y = x
    · subst he
      rw [Maps.has_put_same hd.tidy.isMap (kL_key y)]
      exact (decide_eq_true (by simp)).symm
    · rw [Maps.has_put_other (fun h => he (kL_inj hy hx h)), hd.has y hy]
      congr 1
      apply propext
      simp [he]
  · rw [Maps.size_put hd.tidy, hh]
    simp [hd.size]
  · rcases List.mem_append.1 hgm with hgm | hgm
    · obtain ⟨h32, a', c', h1, h2, h3⟩ := hd.node g hgm
      have hgx : g.1 ≠ x := fun h => by
        have : isNode G x = true := decide_eq_true (by rw [← h]; exact List.mem_map_of_mem hgm)
        rw [hnot] at this; cases this
      refine ⟨h32, a', c', hkeep _ _ h1, ?_⟩
      rw [Maps.atKey_put_other (fun h => hgx (kL_inj h32 hx h))]
      exact ⟨h2, h3⟩
    · rw [List.mem_singleton] at hgm
      subst hgm
      exact ⟨hx, a, c, hs, Maps.atKey_put_same hd.tidy.isMap (kL_key x) _ _, hsp⟩
/-- A map's block is not a slice's. -/
theorem slI_map {w w' : World} {mb n : Nat} {D : DataW Unit} {v : Value} {A : List (List UInt8)} (ho : w.ownsMap Try.prog 24 nodR mb n D) (hg : w.grownBy w' (some mb)) (h : SlI w v A) : SlI w' v A := by
  obtain ⟨a, c, rfl, h1, h2, h3, h4⟩ := h
  refine ⟨a, c, rfl, h1, h2, ⟨h3.1, ?_⟩, h4⟩
  rcases h3.2 with h | ⟨b, off, he, hc⟩
  · exact .inl h
  · refine .inr ⟨b, off, he, fun i hi => ?_⟩
    obtain ⟨f1, f2⟩ := hc i hi
    have hne : some b ≠ some mb := fun hh => by
      cases hh
      obtain ⟨es, clock, hb, _⟩ := ho
      obtain ⟨_, cc, e, fr, hcc, _⟩ := f1
      rw [hb] at hcc
      cases hcc
    have e := hg.block b f1.lt hne
    exact ⟨fits_of_block (a := ⟨b, off + i * 32, none⟩) e f1, (aggAt_of_block (a := ⟨b, off + i * 32, none⟩) e).trans f2⟩
end Go.Proofs.Ytmmmimkikakalaa
