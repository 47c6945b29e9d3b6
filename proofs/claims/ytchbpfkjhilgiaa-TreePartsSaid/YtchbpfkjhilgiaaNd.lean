/- Elements: their cells, what is read of them; a copy of one. -/
import Derived.Test.YtchbpfkjhilgiaaMd
import Derived.Test.YtchbpfkjhilgiaaPb
import Derived.Test.YtchbpfkjhilgiaaU
namespace Go.Proofs.Ytchbpfkjhilgiaa
open Go.RowKit
set_option linter.unusedVariables false

/-- Elements. -/
abbrev Nd := Key × Int × Int × Bool
def ndB (x : Nd) : Array Value := keyB x.1.1 x.1.2.1 x.1.2.2 ++ #[.int .i64 x.2.1, .int .i32 x.2.2.1, .bool x.2.2.2]
theorem ndB_size (x : Nd) (h : x.1.2.1.length = 32) : (ndB x).size = 37 := by simp [ndB, keyB_size, h]
theorem ndB_list (x : Nd) : (ndB x).toList = (keyB x.1.1 x.1.2.1 x.1.2.2).toList ++ [.int .i64 x.2.1, .int .i32 x.2.2.1, .bool x.2.2.2] := by simp [ndB]
theorem keyB_one (t : Int) (c : List UInt8) (i : Int) : ∀ u ∈ (keyB t c i).toList, u.oneCell' = true := by
  intro u hu
  rw [keyB_list] at hu
  simp only [List.mem_append, List.mem_singleton] at hu
  rcases hu with (rfl | hu) | rfl
  · rfl
  · obtain ⟨c, _, rfl⟩ := List.mem_map.1 hu; rfl
  · rfl
def nodeR : Rec Nd where
  enc x := (ndB x).toList
  sz := 37
  ok x := x.1.2.1.length = 32
  pos := by decide
  len x h := by rw [Array.length_toList, ndB_size x h]
  one x h u hu := by
    rw [ndB_list] at hu
    rcases List.mem_append.1 hu with hu | hu
    · exact keyB_one _ _ _ u hu
    · simp at hu; rcases hu with rfl | rfl | rfl <;> rfl
theorem node22 : nodeR.Ty Try.prog 22 40 64 := ⟨Try.underlying22, by kernel_rfl, by kernel_rfl, by decide⟩
theorem node25 : nodeR.Ty Try.prog 25 41 64 := ⟨Try.underlying25, by kernel_rfl, by kernel_rfl, by decide⟩
theorem int27 : intR.Ty Try.prog 27 3 8 := int40

/-- What stands at an element's cells. -/
structure NdAt (w : World) (b o : Nat) (x : Nd) : Prop where
  f : fits w ⟨b, o, none⟩ 37
  a : aggAt w ⟨b, o, none⟩ 37 = ndB x
  kf : fits w ⟨b, o, none⟩ 34
  ka : aggAt w ⟨b, o, none⟩ 34 = keyB x.1.1 x.1.2.1 x.1.2.2
  p : w.cell? ⟨b, o + 34, none⟩ = some (.int .i64 x.2.1)
  r : w.cell? ⟨b, o + 35, none⟩ = some (.int .i32 x.2.2.1)
  d : w.cell? ⟨b, o + 36, none⟩ = some (.bool x.2.2.2)
theorem fits_part {w : World} {b o n m : Nat} (h : fits w ⟨b, o, none⟩ n) (hm : m ≤ n) : fits w ⟨b, o, none⟩ m := by
  obtain ⟨h1, c, e, f, h2, h3⟩ := h
  exact ⟨h1, c, e, f, h2, by simp only at h3 ⊢; omega⟩
theorem agg_part {w : World} {b o n m : Nat} (h : fits w ⟨b, o, none⟩ n) (hm : m ≤ n) : aggAt w ⟨b, o, none⟩ m = (aggAt w ⟨b, o, none⟩ n).extract 0 m := by
  obtain ⟨h1, c, e, f, h2, h3⟩ := h
  unfold aggAt
  simp only at h2 h3
  simp only [h2]
  apply Array.ext'
  simp only [Array.toList_extract, List.extract_eq_take_drop, Nat.sub_zero, List.drop_zero, List.take_take]
  rw [show o + m - o = m by omega, show o + n - o = n by omega, Nat.min_eq_left hm]
theorem NdAt.of {w : World} {b o : Nat} {x : Nd} (h32 : x.1.2.1.length = 32) (h : nodeR.At w ⟨b, o, none⟩ x) : NdAt w b o x := by
  obtain ⟨h1, h2⟩ := h
  have h2 : aggAt w ⟨b, o, none⟩ 37 = ndB x := by have := h2; simpa [nodeR] using this
  have h1 : fits w ⟨b, o, none⟩ 37 := h1
  have hs : (keyB x.1.1 x.1.2.1 x.1.2.2).size = 34 := by rw [keyB_size, h32]
  refine ⟨h1, h2, fits_part h1 (by decide), ?_, ?_, ?_, ?_⟩
  · rw [agg_part h1 (by decide), h2]
    apply Array.ext'
    rw [Array.toList_extract, ndB_list]
    simp [List.extract_eq_take_drop, hs]
  · have := aggAt_get (j := 34) h1 (by decide)
    rw [h2] at this
    rw [this]; simp [ndB, hs]
  · have := aggAt_get (j := 35) h1 (by decide)
    rw [h2] at this
    rw [this]; simp [ndB, hs]
  · have := aggAt_get (j := 36) h1 (by decide)
    rw [h2] at this
    rw [this]; simp [ndB, hs]
def nd0 : Nd := (zKey, 0, 0, false)
/-- An element of a slice. -/
theorem node_at {w : World} {p : Option Addr} {l : List Nd} (h : nodeR.In w p l) {k : Nat} (hk : k < l.length) : ∃ b off, p = some ⟨b, off, none⟩ ∧ b < w.heap.size ∧ (l.getD k nd0).1.2.1.length = 32 ∧ NdAt w b (off + k * 37) (l.getD k nd0) := by
  rcases h.2 with h0 | ⟨b, off, rfl, hlt, hc⟩
  · subst h0; simp at hk
  have hx : l[k]? = some (l.getD k nd0) := by simp [List.getD_eq_getElem?_getD, hk]
  have h32 := h.1 _ (List.mem_of_getElem? hx)
  exact ⟨b, off, rfl, hlt, h32, NdAt.of h32 (hc k _ hx)⟩
theorem NdAt.below {w w' : World} {b o : Nat} {x : Nd} (h : NdAt w b o x) (hb : Below w.heap.size w w') : NdAt w' b o x := by
  have hl : b < w.heap.size := h.f.lt
  have e := hb.block b hl
  exact ⟨fits_of_block (a := ⟨b, o, none⟩) e h.f, (aggAt_of_block (a := ⟨b, o, none⟩) e).trans h.a, fits_of_block (a := ⟨b, o, none⟩) e h.kf, (aggAt_of_block (a := ⟨b, o, none⟩) e).trans h.ka,
    (hb.cell (p := ⟨b, o + 34, none⟩) hl).trans h.p, (hb.cell (p := ⟨b, o + 35, none⟩) hl).trans h.r, (hb.cell (p := ⟨b, o + 36, none⟩) hl).trans h.d⟩
/-- A copy of an element in a block of its own. -/
theorem NdAt.new (w : World) (x : Nd) (t : TypeId) (h32 : x.1.2.1.length = 32) : NdAt (w.alloc (.cells (ndB x) t)) w.heap.size 0 x := by
  have := Rec.At.new (R := nodeR) w t x h32
  simp only [nodeR, Array.toArray_toList] at this
  exact NdAt.of h32 this

@[go_sem ↓] theorem load41 (f : Operand → Value) (x : Operand) (dst : Option Tmp) (ty' : TypeId) (pos : String) (after : Array Edge) (guard : Option (Nat × Bool)) (w : World)
    (hp : isPtr (f x) = true) (hf : fits w (addrOf (f x)) 37) :
    (execOp f ⟨dst, .load 41 x, ty', pos, after, guard⟩).run Try.prog w = .ok (.value (.agg (aggAt w (addrOf (f x)) 37))) w :=
  run_exec_load Try.underlying41 rfl (by kernel_rfl) f x dst ty' pos after guard w hp hf
@[go_sem ↓] theorem load40 (f : Operand → Value) (x : Operand) (dst : Option Tmp) (ty' : TypeId) (pos : String) (after : Array Edge) (guard : Option (Nat × Bool)) (w : World)
    (hp : isPtr (f x) = true) (hf : fits w (addrOf (f x)) 37) :
    (execOp f ⟨dst, .load 40 x, ty', pos, after, guard⟩).run Try.prog w = .ok (.value (.agg (aggAt w (addrOf (f x)) 37))) w :=
  run_exec_load Try.underlying40 rfl (by kernel_rfl) f x dst ty' pos after guard w hp hf

/-- How many cells a block has. -/
def szAt (w : World) (b : Nat) : Option Nat := match w.heap[b]? with | some (.cells c _ fr) => if fr = (0, 0) then some c.size else none | _ => none
@[go_sem] theorem szAt_alloc (w : World) (c : Array Value) (t : TypeId) (b : Nat) : szAt (w.alloc (.cells c t)) b = if b = w.heap.size then some c.size else szAt w b := by
  split
  · next h => subst h; unfold szAt; rw [(MapKept.heap_alloc w _).1]; rfl
  · next h =>
    unfold szAt
    by_cases hb : b < w.heap.size
    · rw [Below.heap_alloc w _ b hb]
    · rw [Array.getElem?_eq_none (by simp; omega), Array.getElem?_eq_none (by omega)]
theorem setRow_alloc (w : World) (old cells : Array Value) (t : TypeId) : (w.alloc (.cells old t)).setRow w.heap.size cells = w.alloc (.cells cells t) := by
  unfold World.setRow World.alloc
  congr 1
  apply Array.ext_getElem?
  intro i
  simp only [Array.getElem?_modify, Array.getElem?_push]
  by_cases h : w.heap.size = i
  · subst h; simp
  · have h' : ¬ i = w.heap.size := fun e => h e.symm
    simp [h, h']
@[go_sem] theorem setRow_here (w : World) (old c : Array Value) (t : TypeId) (b : Nat) (h : b = w.heap.size) : (w.alloc (.cells old t)).setRow b c = w.alloc (.cells c t) := by
  subst h; exact setRow_alloc w old c t
def aggC : Value → Array Value | .agg c => c | _ => #[]
def ndOk : Value → Prop := fun v => ∃ x : Nd, v = .agg (ndB x) ∧ x.1.2.1.length = 32
@[go_sem] theorem aggC_agg (c : Array Value) : aggC (.agg c) = c := rfl
@[go_sem] theorem ndOk_agg (x : Nd) (h : x.1.2.1.length = 32) : ndOk (.agg (ndB x)) := ⟨x, rfl, h⟩
@[go_sem ↓] theorem store41g (f : Operand → Value) (x y : Operand) (dst : Option Tmp) (ty' : TypeId) (pos : String) (after : Array Edge) (guard : Option (Nat × Bool)) (w : World)
    (hp : isPtr (f x) = true) (hf : (addrOf (f x)).off = 0) (hs : (addrOf (f x)).spot = none) (ho : szAt w (addrOf (f x)).block = some 37) (hy : ndOk (f y)) :
    (execOp f ⟨dst, .store 41 x y, ty', pos, after, guard⟩).run Try.prog w = .ok .skip (w.setRow (addrOf (f x)).block (aggC (f y))) := by
  obtain ⟨z, hz, hl⟩ := hy
  have hsz : (ndB z).size = 37 := ndB_size z hl
  have h41 : (Try.prog.info? 41).map (·.size) = some 37 := by kernel_rfl
  cases hfx : f x with
  | pointer a =>
    cases a with
    | none => rw [hfx] at hp; simp [isPtr] at hp
    | some a =>
      obtain ⟨b, o, s⟩ := a
      rw [hfx] at hf hs ho
      simp only [addrOf_ptr] at hf hs ho
      subst hf hs
      unfold szAt at ho
      split at ho
      · rename_i c t fr hh
        split at ho
        case isFalse => cases ho
        rename_i hfr
        subst hfr
        simp only [Option.some.injEq] at ho
        have hr := run_storeVar_row (P := Try.prog) w b t 41 c (ndB z) hh (by rw [h41, hsz]) (by rw [ho, hsz]) (by
          rw [Array.all_eq_true_iff_forall_mem]; intro u hu; exact nodeR.one z hl u (by simpa [nodeR] using hu))
        unfold execOp
        simp only [hfx, hz, Instr.storeAt, Instr.sureAddr, Sem.run_bind, Sem.run_pure, Result.andThen_ok, hr, aggC_agg, addrOf_ptr]
      · cases ho
  | _ => rw [hfx] at hp; simp [isPtr] at hp

/-! ### What elements are -/
def keyN (l : List Nd) (i : Nat) : Key := (l.getD i nd0).1
def parN (l : List Nd) (i : Nat) : Int := (l.getD i nd0).2.1
def runeN (l : List Nd) (i : Nat) : Int := (l.getD i nd0).2.2.1
def deadN (l : List Nd) (i : Nat) : Bool := (l.getD i nd0).2.2.2
/-- One element that may be. -/
def okN (l : List Nd) (i : Nat) : Prop := may (runeN l i) = true ∧ -1 ≤ parN l i ∧ parN l i < l.length ∧ (0 ≤ parN l i → kCmp (keyN l (parN l i).toNat) (keyN l i) < 0)
/-- Elements that may be. -/
def RightL (l : List Nd) : Prop := (∀ i, i < l.length → okN l i) ∧ (∀ i j, i < j → j < l.length → keyN l i ≠ keyN l j)
instance (l : List Nd) (i : Nat) : Decidable (okN l i) := by unfold okN; infer_instance
noncomputable instance (l : List Nd) : Decidable (RightL l) := Classical.propDecidable _
/-- As a forest. -/
def forest (l : List Nd) : Forest := ⟨l.length, fun i => if parN l i < 0 then none else some (parN l i).toNat, fun i j => kCmp (keyN l i) (keyN l j)⟩
theorem kCmp_self (a : Key) : kCmp a a = 0 := by have := keys_anti a.1 a.2.1 a.2.2 a.1 a.2.1 a.2.2; unfold kCmp; omega
theorem kCmp_anti (a b : Key) : kCmp b a = - kCmp a b := keys_anti _ _ _ _ _ _
theorem kCmp_lt (a b c : Key) (h1 : kCmp a b < 0) (h2 : kCmp b c < 0) : kCmp a c < 0 := (keys_trans _ _ _ _ _ _ _ _ _ (Int.le_of_lt h1) (Int.le_of_lt h2)).2.1 (.inl h1)
theorem kCmp_le (a b c : Key) (h1 : kCmp a b ≤ 0) (h2 : kCmp b c ≤ 0) : kCmp a c ≤ 0 := (keys_trans _ _ _ _ _ _ _ _ _ h1 h2).1
theorem kCmp_zero (a b : Key) : kCmp a b = 0 ↔ a = b := by
  obtain ⟨t, c, i⟩ := a
  obtain ⟨t', c', i'⟩ := b
  have h := keys_zero t c i t' c' i'
  unfold kCmp
  simp only
  constructor
  · intro h0
    rw [h0] at h
    simp only [decide_true] at h
    obtain ⟨h1, h2, h3⟩ := (keys_zero0 _ _ _ _ _ _).1 h
    rw [h1, (cmpB_zero c c').1 h2, h3]
  · intro he
    injection he with h1 h2
    injection h2 with h2 h3
    subst h1 h2 h3
    have := keys_anti t c i t c i
    omega
theorem kCmp_three (a b : Key) : kCmp a b = -1 ∨ kCmp a b = 0 ∨ kCmp a b = 1 := keys_three _ _ _ _ _ _
theorem RightL.ok {l : List Nd} (h : RightL l) : (forest l).Ok where
  par := by
    intro i hi p hp
    obtain ⟨h1, h2, h3, h4⟩ := h.1 i hi
    simp only [forest] at hp ⊢
    split at hp
    · cases hp
    · simp only [Option.some.injEq] at hp
      subst hp
      exact ⟨by omega, h4 (by omega)⟩
  anti := fun i j => kCmp_anti _ _
  trans := fun i j k h1 h2 => kCmp_lt _ _ _ h1 h2
  eq := by
    intro i j hi hj hc
    have he := (kCmp_zero _ _).1 hc
    rcases Nat.lt_trichotomy i j with hl | hl | hl
    · exact absurd he (h.2 i j hl hj)
    · exact hl
    · exact absurd he.symm (h.2 j i hl hi)
/-- The one order of elements, where they may be. -/
noncomputable def ordN (l : List Nd) : List Nat := if RightL l then (forest l).ord else []
noncomputable def ordI (l : List Nd) : List Int := (ordN l).map fun (k : Nat) => (k : Int)
/-- The runes of the live ones, in the one order. -/
noncomputable def liveN (l : List Nd) : List Int := ((ordN l).filter fun i => !deadN l i).map (runeN l)
theorem ordN_lt {l : List Nd} {i : Nat} (h : i ∈ ordN l) : i < l.length := by
  unfold ordN at h
  split at h
  · exact Forest.ord_mem.1 h
  · cases h
end Go.Proofs.Ytchbpfkjhilgiaa
