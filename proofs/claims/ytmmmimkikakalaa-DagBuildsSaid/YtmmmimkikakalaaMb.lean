/- Maps keyed by ids: the key; what a node is in the map. -/
import Derived.Test.YtmmmimkikakalaaRg
import Derived.Maps.OwnSet
import Derived.Maps.Views
import Derived.Maps.RangeWalk
import Derived.DeepKeys5
namespace Go.Proofs.Ytmmmimkikakalaa
open Go.RowKit Go.Maps
set_option linter.unusedVariables false

theorem mapM_some {α β : Type} (f : α → Option β) (g : α → β) : ∀ l : List α, (∀ a ∈ l, f a = some (g a)) → l.mapM f = some (l.map g)
  | [], _ => rfl
  | a :: l, h => by
    rw [List.mapM_cons, h a (List.mem_cons_self ..), mapM_some f g l (fun b hb => h b (List.mem_cons_of_mem _ hb))]
    rfl
/-- An id as a key. -/
def kL (x : List UInt8) : Lit := .string (keyBytes (x.map fun c => Lit.int .u8 (c.toNat : Int)))
theorem kt24 : Try.prog.keyType 24 = true := by kernel_rfl
theorem cells24 : Try.prog.cellsOf 24 = 32 := by kernel_rfl
theorem cells5 : Try.prog.cellsOf 5 = 1 := by kernel_rfl
theorem size_two : ∃ n, Try.prog.types.size = n + 1 := by
  have h : 0 < Try.prog.types.size := of_decide_eq_true (by kernel_rfl)
  exact ⟨Try.prog.types.size - 1, by omega⟩
theorem flat_one {α β : Type} (g : α → β) : ∀ l : List α, (l.map fun i => [g i]).flatten = l.map g
  | [] => rfl
  | a :: l => by simp [flat_one g l]
theorem laidOutM : laidOutB Try.prog = true := by kernel_rfl
theorem u8_wf (c : UInt8) : (Lit.int .u8 (c.toNat : Int)).wf = true := by
  have h := c.toNat_lt
  have e1 : IntKind.u8.min = 0 := by decide
  have e2 : IntKind.u8.max = 255 := by decide
  show (decide (IntKind.u8.min ≤ (c.toNat : Int)) && decide ((c.toNat : Int) ≤ IntKind.u8.max)) = true
  rw [e1, e2, Bool.and_eq_true]
  exact ⟨decide_eq_true (by omega), decide_eq_true (by omega)⟩
theorem lits5 (n : Nat) (c : UInt8) : Try.prog.keyLits (n + 1) 5 [.int .u8 (c.toNat : Int)] = some [.int .u8 (c.toNat : Int)] := by
  unfold Program.keyLits
  rw [Try.underlying5]
  simp [u8_wf]
theorem lits24 (x : List UInt8) (h : x.length = 32) : Try.prog.keyLits (Try.prog.types.size + 1) 24 (idB x).toList = some (x.map fun c => Lit.int .u8 (c.toNat : Int)) := by
  obtain ⟨n, hn⟩ := size_two
  rw [hn]
  have hl : (idB x).toList = x.map fun c => Value.int .u8 (c.toNat : Int) := by simp [idB, Lib.byteCells]
  unfold Program.keyLits
  rw [Try.underlying24, hl]
  simp only [cells24, cells5, List.length_map, h, if_true]
  rw [mapM_some _ (fun i => [Lit.int .u8 ((x.getD i 0).toNat : Int)])]
  · simp only [Option.map_some, Option.some.injEq]
    rw [flat_one]
    apply List.ext_getElem
    · simp [h]
    · intro i h1 h2
      simp at h2
      simp [List.getD_eq_getElem?_getD, h2]
  · intro i hi
    rw [List.mem_range] at hi
    have : ((x.map fun c => Value.int .u8 (c.toNat : Int)).drop (i * 1)).take 1 = [.int .u8 ((x.getD i 0).toNat : Int)] := by
      rw [Nat.mul_one, List.drop_eq_getElem_cons (by simp; omega)]
      simp [List.getD_eq_getElem?_getD, show i < x.length by omega]
    rw [this]
    exact lits5 n _
theorem key24 (x : List UInt8) (h : x.length = 32) : keyOf Try.prog 24 (.agg (idB x)) = some (kL x) := by
  unfold keyOf
  rw [Try.underlying24]
  have hf : (Value.agg (idB x)).formed Try.prog 24 = true := by
    unfold Value.formed
    simp only [Try.underlying24, cells24]
    simp [idB_size, h]
  simp only [kt24, hf, Bool.and_self, if_true]
  have := lits24 x h
  simp only [Value.cells]
  rw [this]; rfl
theorem keyed24 : Keyed Try.prog 24 := Keyed.of_law (deep_law_gate laidOutM (of_decide_eq_true (by kernel_rfl)) (of_decide_eq_true (by kernel_rfl)) kt24 (by kernel_rfl))
theorem kL_inj {x y : List UInt8} (hx : x.length = 32) (hy : y.length = 32) (h : kL x = kL y) : x = y := by
  have := keyed24.inj (key24 x hx) (by rw [h]; exact key24 y hy)
  rw [← idOf_idB x, ← idOf_idB y, this]
theorem kL_key (x : List UInt8) : WideAt.IsKeyLit (kL x) := by unfold kL; trivial
end Go.Proofs.Ytmmmimkikakalaa

namespace Go.Proofs.Ytmmmimkikakalaa
open Go.RowKit Go.Maps
set_option linter.unusedVariables false

/-- A node: its id, its parents, its stamp. -/
abbrev GN := List UInt8 × List (List UInt8) × Int
def litN (n : Nat) : DataW Unit := .lit (.int .i64 (n : Int))
/-- A node's value in the map, as a datum. -/
def ndD : Option Addr → Nat → Nat → Int → DataW Unit
  | none, n, c, s => .agg [litN 0, litN 0, litN 0, litN n, litN c, .lit (.int .i64 s)]
  | some a, n, c, s => .agg [litN 1, litN a.block, litN a.off, litN n, litN c, .lit (.int .i64 s)]
def nodV (a : Option Addr) (n c : Nat) (s : Int) : Value := .agg #[.slice a n c, .int .i64 s]
def nodR : Value → Option (DataW Unit × List MemPlace)
  | .agg ⟨[.slice none n c, .int .i64 s]⟩ => some (ndD none n c s, [])
  | .agg ⟨[.slice (some ⟨g, o, none⟩) n c, .int .i64 s]⟩ => some (ndD (some ⟨g, o, none⟩) n c s, [])
  | _ => none
theorem litN_inj {m n : Nat} (h : litN m = litN n) : m = n := by
  unfold litN at h
  injection h with h
  injection h with _ h
  exact Int.ofNat.inj h
theorem nodR_none (n c : Nat) (s : Int) : nodR (nodV none n c s) = some (ndD none n c s, []) := rfl
theorem nodR_some (g o n c : Nat) (s : Int) : nodR (nodV (some ⟨g, o, none⟩) n c s) = some (ndD (some ⟨g, o, none⟩) n c s, []) := rfl
theorem nodR_inv {v : Value} {ps : List MemPlace} {d : DataW Unit} (h : nodR v = some (d, ps)) : ∃ a n c s, v = nodV a n c s ∧ d = ndD a n c s ∧ ps = [] ∧ (a = none ∨ ∃ g o, a = some ⟨g, o, none⟩) := by
  unfold nodR at h
  split at h
  · next n c s => cases h; exact ⟨none, n, c, s, rfl, rfl, rfl, .inl rfl⟩
  · next g o n c s => cases h; exact ⟨some ⟨g, o, none⟩, n, c, s, rfl, rfl, rfl, .inr ⟨g, o, rfl⟩⟩
  · cases h
theorem ndD_inj {a a' : Option Addr} {n n' c c' : Nat} {s s' : Int} (ha : a = none ∨ ∃ g o, a = some ⟨g, o, none⟩) (ha' : a' = none ∨ ∃ g o, a' = some ⟨g, o, none⟩) (h : ndD a n c s = ndD a' n' c' s') : a = a' ∧ n = n' ∧ c = c' ∧ s = s' := by
  rcases ha with rfl | ⟨g, o, rfl⟩ <;> rcases ha' with rfl | ⟨g', o', rfl⟩ <;> simp only [ndD] at h <;> injection h with h <;> injection h with h1 h <;> injection h with h2 h <;> injection h with h3 h <;> injection h with h4 h <;> injection h with h5 h <;> injection h with h6 h
  · injection h6 with h6; injection h6 with _ h6
    exact ⟨rfl, litN_inj h4, litN_inj h5, h6⟩
  · exact absurd (litN_inj h1) (by decide)
  · exact absurd (litN_inj h1) (by decide)
  · injection h6 with h6; injection h6 with _ h6
    refine ⟨?_, litN_inj h4, litN_inj h5, h6⟩
    rw [litN_inj h2, litN_inj h3]
theorem zero58 (w : World) : (zeroValue 58).run Try.prog w = .ok (nodV none 0 0 0) w := by
  have h2 : ((Try.prog.info? 58).map (·.zero)) = some (some (nodV none 0 0 0)) := by kernel_rfl
  cases hi : Try.prog.info? 58 with
  | none => rw [hi] at h2; cases h2
  | some i =>
    rw [hi] at h2
    simp at h2
    simp [zeroValue, typeInfo, hi, h2]

def spotless (a : Option Addr) : Prop := a = none ∨ ∃ g o, a = some ⟨g, o, none⟩
/-- The graph's nodes as the program's map holds them. -/
structure GraphD (w : World) (G : List GN) (D : DataW Unit) : Prop where
  tidy : Tidy D
  has : ∀ x : List UInt8, x.length = 32 → Maps.has D (kL x) = decide (x ∈ G.map (·.1))
  size : Maps.size D = G.length
  node : ∀ g ∈ G, g.1.length = 32 ∧ ∃ a c, SlI w (.slice a g.2.1.length c) g.2.1 ∧ D.atKey (kL g.1) (ndD none 0 0 0) = ndD a g.2.1.length c g.2.2 ∧ spotless a
/-- A graph in memory. -/
structure GraphAt (w : World) (gb mb : Nat) (G : List GN) : Prop where
  ptr : w.heap[gb]? = some (.cells #[.map (some mb)] 61 (0, 0))
  map : ∃ D n, n ≤ G.length ∧ w.ownsMap Try.prog 24 nodR mb n D ∧ GraphD w G D
theorem SlI.below {w w' : World} {v : Value} {A : List (List UInt8)} (h : SlI w v A) (hb : Below w.heap.size w w') : SlI w' v A := slI_st A v w w' h hb
theorem GraphAt.below {w w' : World} {gb mb : Nat} {G : List GN} (h : GraphAt w gb mb G) (hb : Below w.heap.size w w') : GraphAt w' gb mb G := by
  obtain ⟨h1, D, n, hn, ho, hd⟩ := h
  refine ⟨(hb.block gb (Array.getElem?_eq_some_iff.1 h1).1).trans h1, D, n, hn, ?_, hd.tidy, hd.has, hd.size, fun g hg => ?_⟩
  · obtain ⟨es, clock, hh, F, hs, hD⟩ := ho
    exact ⟨es, clock, (hb.block mb (Array.getElem?_eq_some_iff.1 hh).1).trans hh, F, hs, hD⟩
  · obtain ⟨h32, a, c, hs, he⟩ := hd.node g hg
    exact ⟨h32, a, c, hs.below hb, he⟩
theorem GraphAt.lt {w : World} {gb mb : Nat} {G : List GN} (h : GraphAt w gb mb G) : gb < w.heap.size := (Array.getElem?_eq_some_iff.1 h.ptr).1
theorem GraphAt.cell {w : World} {gb mb : Nat} {G : List GN} (h : GraphAt w gb mb G) : w.cell? ⟨gb, 0, none⟩ = some (.map (some mb)) := by rw [Lib.cell_of_heap h.ptr]; rfl

set_option maxHeartbeats 1000000 in
set_option maxRecDepth 100000 in
theorem new_any (w : World) : Calls Try.prog 31 #[] w fun e w' => ∃ gb mb, e = .returned (.pointer (some ⟨gb, 0, none⟩)) ∧ w.heap.size ≤ gb ∧ w.heap.size ≤ mb ∧ gb ≠ mb ∧ GraphAt w' gb mb [] ∧ Below w.heap.size w w' := by
  have hmm := @run_makeMap Try.prog
  have H1 := Lib.hid (World.ownsMap_made w Try.prog 24 nodR)
  go_enter Try.func31, Try.ntmps31
  go_wp2
  go_ret
  have b1 := (Below.refl w.heap.size w).alloc (Nat.le_refl _) (.map #[] 0)
  have b2 := (Below.refl (w.alloc (.map #[] 0)).heap.size (w.alloc (.map #[] 0))).alloc (Nat.le_refl _) (.cells #[.map (some w.heap.size)] 61)
  have hs : (w.alloc (.map #[] 0)).heap.size = w.heap.size + 1 := by simp
  refine ⟨w.heap.size + 1, w.heap.size, rfl, by omega, Nat.le_refl _, by omega, ⟨by rw [← hs]; exact (MapKept.heap_alloc _ _).1, .map [], 0, Nat.le_refl _, ?_, tidy_empty, fun x _ => rfl, rfl, fun g hg => by cases hg⟩, b1.trans (b2.mono b1.size)⟩
  obtain ⟨es, clock, hh, F, hsz, hD⟩ := H1.out
  exact ⟨es, clock, (b2.block w.heap.size (by omega)).trans hh, F, hsz, hD⟩
end Go.Proofs.Ytmmmimkikakalaa
