/- Chapter 12's reference: elements, next, Order, Text. -/
import Derived.Test.YtcgioboiebanpaaPk
import Derived.Test.YtcgioboiebanpaaRb
import Derived.Test.YtcgioboiebanpaaOj
namespace Go.Proofs.Ytcgioboiebanpaa
open Go.RowKit
set_option linter.unusedVariables false

/-- Numbers. -/
def intR : Rec Int where
  enc n := [.int .i64 n]
  sz := 1
  ok _ := True
  pos := Nat.one_pos
  len _ _ := rfl
  one x _ u hu := by simp at hu; subst hu; rfl
theorem int40 : intR.Ty Try.prog 115 3 8 := ⟨Try.underlying115, by kernel_rfl, by kernel_rfl, by decide⟩
theorem int_cell {w : World} {b o k : Nat} {x : Int} (h : intR.At w ⟨b, o + k * intR.sz, none⟩ x) : w.cell? ⟨b, o + k, none⟩ = some (.int .i64 x) := by
  have h1 : intR.At w ⟨b, o + k, none⟩ x := by have := h; simpa [intR] using this
  have := aggAt_get (j := 0) h1.1 Nat.one_pos
  rw [h1.2] at this
  simpa [intR] using this
theorem int_cell0 {w : World} {b o : Nat} {x : Int} (h : intR.At w ⟨b, o, none⟩ x) : w.cell? ⟨b, o, none⟩ = some (.int .i64 x) := by
  have := aggAt_get (j := 0) h.1 Nat.one_pos
  rw [h.2] at this
  simpa [intR] using this

/-- Elements. -/
abbrev Nd := KV × Int × Int × Bool
def ndB (x : Nd) : Array Value := keyB x.1.1 x.1.2.1 x.1.2.2 ++ #[.int .i64 x.2.1, .int .i32 x.2.2.1, .bool x.2.2.2]
theorem ndB_size (x : Nd) (h : x.1.2.1.length = 32) : (ndB x).size = 37 := by simp [ndB, keyB_size, h]
theorem ndB_list (x : Nd) : (ndB x).toList = (keyB x.1.1 x.1.2.1 x.1.2.2).toList ++ [.int .i64 x.2.1, .int .i32 x.2.2.1, .bool x.2.2.2] := by simp [ndB]
theorem keyB_one (t : Int) (c : List UInt8) (i : Int) : ∀ u ∈ (keyB t c i).toList, u.oneCell' = true := by
  intro u hu
  rw [keyB_list] at hu
  simp only [List.mem_append, List.mem_singleton] at hu
  rcases hu with (rfl | hu) | rfl
  · rfl
  · obtain ⟨c, _, rfl⟩ := List.mem_map.1 hu; rfl
  · rfl
def nodeR : Rec Nd where
  enc x := (ndB x).toList
  sz := 37
  ok x := x.1.2.1.length = 32
  pos := by decide
  len x h := by rw [Array.length_toList, ndB_size x h]
  one x h u hu := by
    rw [ndB_list] at hu
    rcases List.mem_append.1 hu with hu | hu
    · exact keyB_one _ _ _ u hu
    · simp at hu; rcases hu with rfl | rfl | rfl <;> rfl
theorem node22 : nodeR.Ty Try.prog 44 114 64 := ⟨Try.underlying44, by kernel_rfl, by kernel_rfl, by decide⟩
theorem int27 : intR.Ty Try.prog 115 3 8 := int40

/-- What stands at an element's cells. -/
structure NdAt (w : World) (b o : Nat) (x : Nd) : Prop where
  f : fits w ⟨b, o, none⟩ 37
  a : aggAt w ⟨b, o, none⟩ 37 = ndB x
  kf : fits w ⟨b, o, none⟩ 34
  ka : aggAt w ⟨b, o, none⟩ 34 = keyB x.1.1 x.1.2.1 x.1.2.2
  p : w.cell? ⟨b, o + 34, none⟩ = some (.int .i64 x.2.1)
  r : w.cell? ⟨b, o + 35, none⟩ = some (.int .i32 x.2.2.1)
  d : w.cell? ⟨b, o + 36, none⟩ = some (.bool x.2.2.2)
theorem fits_part {w : World} {b o n m : Nat} (h : fits w ⟨b, o, none⟩ n) (hm : m ≤ n) : fits w ⟨b, o, none⟩ m := by
  obtain ⟨h1, c, e, f, h2, h3⟩ := h
  exact ⟨h1, c, e, f, h2, by simp only at h3 ⊢; omega⟩
theorem agg_part {w : World} {b o n m : Nat} (h : fits w ⟨b, o, none⟩ n) (hm : m ≤ n) : aggAt w ⟨b, o, none⟩ m = (aggAt w ⟨b, o, none⟩ n).extract 0 m := by
  obtain ⟨h1, c, e, f, h2, h3⟩ := h
  unfold aggAt
  simp only at h2 h3
  simp only [h2]
  apply Array.ext'
  simp only [Array.toList_extract, List.extract_eq_take_drop, Nat.sub_zero, List.drop_zero, List.take_take]
  rw [show o + m - o = m by omega, show o + n - o = n by omega, Nat.min_eq_left hm]
theorem NdAt.of {w : World} {b o : Nat} {x : Nd} (h32 : x.1.2.1.length = 32) (h : nodeR.At w ⟨b, o, none⟩ x) : NdAt w b o x := by
  obtain ⟨h1, h2⟩ := h
  have h2 : aggAt w ⟨b, o, none⟩ 37 = ndB x := by have := h2; simpa [nodeR] using this
  have h1 : fits w ⟨b, o, none⟩ 37 := h1
  have hs : (keyB x.1.1 x.1.2.1 x.1.2.2).size = 34 := by rw [keyB_size, h32]
  refine ⟨h1, h2, fits_part h1 (by decide), ?_, ?_, ?_, ?_⟩
  · rw [agg_part h1 (by decide), h2]
    apply Array.ext'
    rw [Array.toList_extract, ndB_list]
    simp [List.extract_eq_take_drop, hs]
  · have := aggAt_get (j := 34) h1 (by decide)
    rw [h2] at this
    rw [this]; simp [ndB, hs]
  · have := aggAt_get (j := 35) h1 (by decide)
    rw [h2] at this
    rw [this]; simp [ndB, hs]
  · have := aggAt_get (j := 36) h1 (by decide)
    rw [h2] at this
    rw [this]; simp [ndB, hs]
def nd0 : Nd := (kNil, 0, 0, false)
/-- An element of a slice. -/
theorem node_at {w : World} {p : Option Addr} {l : List Nd} (h : nodeR.In w p l) {k : Nat} (hk : k < l.length) : ∃ b off, p = some ⟨b, off, none⟩ ∧ b < w.heap.size ∧ (l.getD k nd0).1.2.1.length = 32 ∧ NdAt w b (off + k * 37) (l.getD k nd0) := by
  rcases h.2 with h0 | ⟨b, off, rfl, hlt, hc⟩
  · subst h0; simp at hk
  have hx : l[k]? = some (l.getD k nd0) := by simp [List.getD_eq_getElem?_getD, hk]
  have h32 := h.1 _ (List.mem_of_getElem? hx)
  exact ⟨b, off, rfl, hlt, h32, NdAt.of h32 (hc k _ hx)⟩
theorem NdAt.below {w w' : World} {b o : Nat} {x : Nd} (h : NdAt w b o x) (hb : Below w.heap.size w w') : NdAt w' b o x := by
  have hl : b < w.heap.size := h.f.lt
  have e := hb.block b hl
  exact ⟨fits_of_block (a := ⟨b, o, none⟩) e h.f, (aggAt_of_block (a := ⟨b, o, none⟩) e).trans h.a, fits_of_block (a := ⟨b, o, none⟩) e h.kf, (aggAt_of_block (a := ⟨b, o, none⟩) e).trans h.ka,
    (hb.cell (p := ⟨b, o + 34, none⟩) hl).trans h.p, (hb.cell (p := ⟨b, o + 35, none⟩) hl).trans h.r, (hb.cell (p := ⟨b, o + 36, none⟩) hl).trans h.d⟩
/-- A copy of an element in a block of its own. -/
theorem NdAt.new (w : World) (x : Nd) (t : TypeId) (h32 : x.1.2.1.length = 32) : NdAt (w.alloc (.cells (ndB x) t)) w.heap.size 0 x := by
  have := Rec.At.new (R := nodeR) w t x h32
  simp only [nodeR, Array.toArray_toList] at this
  exact NdAt.of h32 this

@[go_sem ↓] theorem load40 (f : Operand → Value) (x : Operand) (dst : Option Tmp) (ty' : TypeId) (pos : String) (after : Array Edge) (guard : Option (Nat × Bool)) (w : World)
    (hp : isPtr (f x) = true) (hf : fits w (addrOf (f x)) 37) :
    (execOp f ⟨dst, .load 114 x, ty', pos, after, guard⟩).run Try.prog w = .ok (.value (.agg (aggAt w (addrOf (f x)) 37))) w :=
  run_exec_load Try.underlying114 rfl (by kernel_rfl) f x dst ty' pos after guard w hp hf

def aggC : Value → Array Value | .agg c => c | _ => #[]
def ndOk : Value → Prop := fun v => ∃ x : Nd, v = .agg (ndB x) ∧ x.1.2.1.length = 32
@[go_sem] theorem aggC_agg (c : Array Value) : aggC (.agg c) = c := rfl
@[go_sem] theorem ndOk_agg (x : Nd) (h : x.1.2.1.length = 32) : ndOk (.agg (ndB x)) := ⟨x, rfl, h⟩
@[go_sem ↓] theorem store114g (f : Operand → Value) (x y : Operand) (dst : Option Tmp) (ty' : TypeId) (pos : String) (after : Array Edge) (guard : Option (Nat × Bool)) (w : World)
    (hp : isPtr (f x) = true) (hf : (addrOf (f x)).off = 0) (hs : (addrOf (f x)).spot = none) (ho : szAt w (addrOf (f x)).block = some 37) (hy : ndOk (f y)) :
    (execOp f ⟨dst, .store 114 x y, ty', pos, after, guard⟩).run Try.prog w = .ok .skip (w.setRow (addrOf (f x)).block (aggC (f y))) := by
  obtain ⟨z, hz, hl⟩ := hy
  have hsz : (ndB z).size = 37 := ndB_size z hl
  have h41 : (Try.prog.info? 114).map (·.size) = some 37 := by kernel_rfl
  cases hfx : f x with
  | pointer a =>
    cases a with
    | none => rw [hfx] at hp; simp [isPtr] at hp
    | some a =>
      obtain ⟨b, o, s⟩ := a
      rw [hfx] at hf hs ho
      simp only [addrOf_ptr] at hf hs ho
      subst hf hs
      unfold szAt at ho
      split at ho
      · rename_i c t fr hh
        split at ho
        case isFalse => cases ho
        rename_i hfr
        subst hfr
        simp only [Option.some.injEq] at ho
        have hr := run_storeVar_row (P := Try.prog) w b t 114 c (ndB z) hh (by rw [h41, hsz]) (by rw [ho, hsz]) (by
          rw [Array.all_eq_true_iff_forall_mem]; intro u hu; exact nodeR.one z hl u (by simpa [nodeR] using hu))
        unfold execOp
        simp only [hfx, hz, Instr.storeAt, Instr.sureAddr, Sem.run_bind, Sem.run_pure, Result.andThen_ok, hr, aggC_agg, addrOf_ptr]
      · cases ho
  | _ => rw [hfx] at hp; simp [isPtr] at hp

def keyN (l : List Nd) (i : Nat) : KV := (l.getD i nd0).1
def parN (l : List Nd) (i : Nat) : Int := (l.getD i nd0).2.1
def runeN (l : List Nd) (i : Nat) : Int := (l.getD i nd0).2.2.1
def deadN (l : List Nd) (i : Nat) : Bool := (l.getD i nd0).2.2.2
/-- One element that may be. -/
def okN (l : List Nd) (i : Nat) : Prop := may (runeN l i) = true ∧ -1 ≤ parN l i ∧ parN l i < l.length ∧ (0 ≤ parN l i → cmpK (keyN l (parN l i).toNat) (keyN l i) < 0)
/-- Elements that may be. -/
def RightL (l : List Nd) : Prop := (∀ i, i < l.length → okN l i) ∧ (∀ i j, i < j → j < l.length → keyN l i ≠ keyN l j)
instance (l : List Nd) (i : Nat) : Decidable (okN l i) := by unfold okN; infer_instance
noncomputable instance (l : List Nd) : Decidable (RightL l) := Classical.propDecidable _
/-- As a forest. -/
def forest (l : List Nd) : Forest := ⟨l.length, fun i => if parN l i < 0 then none else some (parN l i).toNat, fun i j => cmpK (keyN l i) (keyN l j)⟩
theorem kCmp_self (a : KV) : cmpK a a = 0 := by have := keys_anti a.1 a.2.1 a.2.2 a.1 a.2.1 a.2.2; unfold cmpK; omega
theorem kCmp_anti (a b : KV) : cmpK b a = - cmpK a b := keys_anti _ _ _ _ _ _
theorem kCmp_lt (a b c : KV) (h1 : cmpK a b < 0) (h2 : cmpK b c < 0) : cmpK a c < 0 := (keys_trans _ _ _ _ _ _ _ _ _ (Int.le_of_lt h1) (Int.le_of_lt h2)).2.1 (.inl h1)
theorem kCmp_le (a b c : KV) (h1 : cmpK a b ≤ 0) (h2 : cmpK b c ≤ 0) : cmpK a c ≤ 0 := (keys_trans _ _ _ _ _ _ _ _ _ h1 h2).1
theorem kCmp_zero (a b : KV) : cmpK a b = 0 ↔ a = b := by
  obtain ⟨t, c, i⟩ := a
  obtain ⟨t', c', i'⟩ := b
  have h := keys_zero t c i t' c' i'
  unfold cmpK
  simp only
  constructor
  · intro h0
    rw [h0] at h
    simp only [decide_true] at h
    obtain ⟨h1, h2, h3⟩ := (keys_zero0 _ _ _ _ _ _).1 h
    rw [h1, (cmpB_zero c c').1 h2, h3]
  · intro he
    injection he with h1 h2
    injection h2 with h2 h3
    subst h1 h2 h3
    have := keys_anti t c i t c i
    omega
theorem kCmp_three (a b : KV) : cmpK a b = -1 ∨ cmpK a b = 0 ∨ cmpK a b = 1 := keys_three _ _ _ _ _ _
theorem RightL.ok {l : List Nd} (h : RightL l) : (forest l).Ok where
  par := by
    intro i hi p hp
    obtain ⟨h1, h2, h3, h4⟩ := h.1 i hi
    simp only [forest] at hp ⊢
    split at hp
    · cases hp
    · simp only [Option.some.injEq] at hp
      subst hp
      exact ⟨by omega, h4 (by omega)⟩
  anti := fun i j => kCmp_anti _ _
  trans := fun i j k h1 h2 => kCmp_lt _ _ _ h1 h2
  eq := by
    intro i j hi hj hc
    have he := (kCmp_zero _ _).1 hc
    rcases Nat.lt_trichotomy i j with hl | hl | hl
    · exact absurd he (h.2 i j hl hj)
    · exact hl
    · exact absurd he.symm (h.2 j i hl hi)
/-- The one order of elements, where they may be. -/
noncomputable def ordN (l : List Nd) : List Nat := if RightL l then (forest l).ord else []
noncomputable def ordI (l : List Nd) : List Int := (ordN l).map fun (k : Nat) => (k : Int)
/-- The runes of the live ones, in the one order. -/
noncomputable def refL (l : List Nd) : List Int := ((ordN l).filter fun i => !deadN l i).map (runeN l)
theorem ordN_lt {l : List Nd} {i : Nat} (h : i ∈ ordN l) : i < l.length := by
  unfold ordN at h
  split at h
  · exact Forest.ord_mem.1 h
  · cases h
def toI (K : List Nat) : List Int := K.map fun (k : Nat) => (k : Int)
theorem toI_cells (K : List Nat) : intR.cells (toI K) = K.map (fun (k : Nat) => Value.int .i64 (k : Int)) := by
  unfold toI
  induction K with
  | nil => rfl
  | cons k K ih => rw [List.map_cons, Rec.cells_cons, ih]; rfl
theorem toI_len (K : List Nat) : (toI K).length = K.length := by simp [toI]
theorem toI_snoc (K : List Nat) (k : Nat) : toI (K ++ [k]) = toI K ++ [(k : Int)] := by simp [toI]

theorem nat_step {g k n : Nat} (h1 : g + k = n) (h2 : k < n) : g - 1 + (k + 1) = n := by omega

theorem ordN_right {l : List Nd} (h : RightL l) : ordN l = (forest l).ord := by unfold ordN; rw [if_pos h]
theorem ordN_len {l : List Nd} (h : RightL l) : (ordN l).length = l.length := by rw [ordN_right h]; exact Forest.ord_len

/-- The runes of the live ones among the first. -/
def liveT (l : List Nd) (O : List Nat) (k : Nat) : List Int := ((O.take k).filter fun i => !deadN l i).map (runeN l)
theorem liveT_succ (l : List Nd) (O : List Nat) (k : Nat) (h : k < O.length) : liveT l O (k + 1) = if deadN l (O.getD k 0) then liveT l O k else liveT l O k ++ [runeN l (O.getD k 0)] := by
  unfold liveT
  have : O.take (k + 1) = O.take k ++ [O.getD k 0] := by
    rw [List.take_succ_eq_append_getElem h, List.getD_eq_getElem?_getD, List.getElem?_eq_getElem h]; rfl
  rw [this, List.filter_append]
  generalize O.getD k 0 = x
  cases hd : deadN l x <;> simp [hd]
theorem liveN_eq (l : List Nd) : refL l = liveT l (ordN l) (ordN l).length := by unfold refL liveT; rw [List.take_length]
theorem live_good (l : List Nd) (k : Nat) : Good (liveT l (ordN l) k) := by
  intro r hr
  unfold liveT at hr
  obtain ⟨i, hi, rfl⟩ := List.mem_map.1 hr
  have hm := List.mem_of_mem_take (List.mem_filter.1 hi).1
  unfold ordN at hm
  split at hm
  · rename_i hR
    exact (hR.1 i (Forest.ord_mem.1 hm)).1
  · cases hm
theorem ordN_le (l : List Nd) : (ordN l).length ≤ l.length := by
  by_cases h : RightL l
  · rw [ordN_len h]; exact Nat.le_refl _
  · unfold ordN; rw [if_neg h]; simp

/-- Truths. -/
def boolR : Rec Bool where
  enc b := [.bool b]
  sz := 1
  ok _ := True
  pos := Nat.one_pos
  len _ _ := rfl
  one x _ u hu := by simp at hu; subst hu; rfl
theorem bool34 : boolR.Ty Try.prog 130 4 1 := ⟨Try.underlying130, by kernel_rfl, by kernel_rfl, by decide⟩
theorem bool_cell {w : World} {b o k : Nat} {x : Bool} (h : boolR.At w ⟨b, o + k * boolR.sz, none⟩ x) : w.cell? ⟨b, o + k, none⟩ = some (.bool x) := by
  have h1 : boolR.At w ⟨b, o + k, none⟩ x := by have := h; simpa [boolR] using this
  have := aggAt_get (j := 0) h1.1 Nat.one_pos
  rw [h1.2] at this
  simpa [boolR] using this
theorem bool_frozen {w : World} {base g l c k : Nat} {O : List Bool} (hk : k < O.length) (h : boolR.row 4 base O (.slice (some ⟨g, 0, none⟩) l c) w) : w.frozen? ⟨g, k, none⟩ = false := by
  obtain ⟨_, cur, e, hh, hl⟩ := h.fitsW hk
  simp only at hh
  simp [World.frozen?, hh]
theorem bool_set {w : World} {base g l c k : Nat} {O : List Bool} (x : Bool) (hk : k < O.length) (h : boolR.row 4 base O (.slice (some ⟨g, 0, none⟩) l c) w) :
    boolR.row 4 base (O.set k x) (.slice (some ⟨g, 0, none⟩) l c) (w.setCell ⟨g, k, none⟩ (.bool x)) ∧ Below base w (w.setCell ⟨g, k, none⟩ (.bool x)) := by
  obtain ⟨_, cur, e, hh, hl⟩ := h.fitsW hk
  have hp := h.put (x := x) trivial hk
  simp only [show k * boolR.sz = k from Nat.mul_one k] at hp hh hl
  have he : putC w ⟨g, k, none⟩ (boolR.enc x).toArray = w.setCell ⟨g, k, none⟩ (.bool x) := by
    have hl' : k + 1 ≤ cur.size := hl
    rw [setCell_eq_setRow w g k cur e (0, 0) _ hh]
    unfold putC
    simp only [hh]
    congr 1
    apply Array.ext'
    simp only [boolR, List.size_toArray, List.length_cons, List.length_nil, Array.toList_setIfInBounds]
    rw [List.set_eq_take_append_cons_drop, if_pos (by simp; omega)]
    simp
  rw [he] at hp
  exact hp

/-- The untold child with the last key, step by step. -/
def nextStep (l : List Nd) (T : List Bool) (q : Int) (a : Int) (i : Nat) : Int :=
  if T.getD i false = true ∨ parN l i ≠ q then a else if a < 0 ∨ 0 < cmpK (keyN l i) (keyN l a.toNat) then (i : Int) else a
def nextL (l : List Nd) (T : List Bool) (q : Int) (k : Nat) : Int := (List.range k).foldl (nextStep l T q) (-1)
theorem nextL_succ (l : List Nd) (T : List Bool) (q : Int) (k : Nat) : nextL l T q (k + 1) = nextStep l T q (nextL l T q k) k := by
  unfold nextL; rw [List.range_succ, List.foldl_append]; rfl
theorem nextL_lt (l : List Nd) (T : List Bool) (q : Int) : ∀ k, -1 ≤ nextL l T q k ∧ nextL l T q k < k
  | 0 => by simp [nextL]
  | k + 1 => by
    rw [nextL_succ]
    have := nextL_lt l T q k
    unfold nextStep
    split
    · omega
    · split <;> omega
/-- What it is. -/
theorem nextL_is (l : List Nd) (T : List Bool) (q : Int) : ∀ k, (nextL l T q k = -1 ∧ ∀ i, i < k → T.getD i false = false → parN l i ≠ q) ∨
    (∃ i, i < k ∧ nextL l T q k = (i : Int) ∧ T.getD i false = false ∧ parN l i = q ∧ ∀ j, j < k → T.getD j false = false → parN l j = q → cmpK (keyN l j) (keyN l i) ≤ 0)
  | 0 => .inl ⟨rfl, fun i hi => by omega⟩
  | k + 1 => by
    rw [nextL_succ]
    unfold nextStep
    by_cases hc : T.getD k false = true ∨ parN l k ≠ q
    · rw [if_pos hc]
      have hno : ¬ (T.getD k false = false ∧ parN l k = q) := by
        rintro ⟨h1, h2⟩
        rcases hc with h | h
        · rw [h1] at h; cases h
        · exact h h2
      rcases nextL_is l T q k with ⟨h1, h2⟩ | ⟨i, h1, h2, h3, h4, h5⟩
      · refine .inl ⟨h1, fun i hi ht hp => ?_⟩
        rcases Nat.lt_succ_iff_lt_or_eq.1 hi with h | rfl
        · exact h2 i h ht hp
        · exact hno ⟨ht, hp⟩
      · refine .inr ⟨i, by omega, h2, h3, h4, fun j hj ht hp => ?_⟩
        rcases Nat.lt_succ_iff_lt_or_eq.1 hj with h | rfl
        · exact h5 j h ht hp
        · exact absurd ⟨ht, hp⟩ hno
    · rw [if_neg hc]
      have ht : T.getD k false = false := by
        cases h : T.getD k false
        · rfl
        · exact absurd (.inl h) hc
      have hq : parN l k = q := by
        by_cases h : parN l k = q
        · exact h
        · exact absurd (.inr h) hc
      rcases nextL_is l T q k with ⟨h1, h2⟩ | ⟨i, h1, h2, h3, h4, h5⟩
      · rw [h1, if_pos (.inl (by decide))]
        refine .inr ⟨k, by omega, rfl, ht, hq, fun j hj htj hp => ?_⟩
        rcases Nat.lt_succ_iff_lt_or_eq.1 hj with h | rfl
        · exact absurd hp (h2 j h htj)
        · rw [kCmp_self]; omega
      · rw [h2, Int.toNat_natCast]
        by_cases hk : 0 < cmpK (keyN l k) (keyN l i)
        · rw [if_pos (.inr hk)]
          refine .inr ⟨k, by omega, rfl, ht, hq, fun j hj htj hp => ?_⟩
          rcases Nat.lt_succ_iff_lt_or_eq.1 hj with h | rfl
          · have h6 := h5 j h htj hp
            have h7 := kCmp_anti (keyN l k) (keyN l i)
            exact kCmp_le _ _ _ h6 (by omega)
          · rw [kCmp_self]; omega
        · rw [if_neg (by omega)]
          refine .inr ⟨i, by omega, rfl, h3, h4, fun j hj htj hp => ?_⟩
          rcases Nat.lt_succ_iff_lt_or_eq.1 hj with h | rfl
          · exact h5 j h htj hp
          · omega
/-- Where a member is the one. -/
theorem nextL_one {l : List Nd} (hR : RightL l) {T : List Bool} {q : Int} {i : Nat} (hi : i < l.length) (ht : T.getD i false = false) (hp : parN l i = q) (hm : ∀ j, j < l.length → T.getD j false = false → parN l j = q → j = i ∨ cmpK (keyN l j) (keyN l i) < 0) : nextL l T q l.length = i := by
  rcases nextL_is l T q l.length with ⟨_, h2⟩ | ⟨j, h1, h2, h3, h4, h5⟩
  · exact absurd hp (h2 i hi ht)
  · rcases hm j h1 h3 h4 with rfl | h6
    · exact h2
    · have h7 := h5 i hi ht hp
      have h8 := kCmp_anti (keyN l i) (keyN l j)
      omega
theorem nextL_none {l : List Nd} {T : List Bool} {q : Int} (hm : ∀ j, j < l.length → parN l j = q → T.getD j false = true) : nextL l T q l.length = -1 := by
  rcases nextL_is l T q l.length with ⟨h, _⟩ | ⟨j, h1, h2, h3, h4, h5⟩
  · exact h
  · rw [hm j h1 h4] at h3; cases h3

set_option maxHeartbeats 4000000 in
set_option maxRecDepth 100000 in
theorem next_any (p pt : Option Addr) (c ct : Nat) (l : List Nd) (T : List Bool) (q : Int) (w : World) (hlen : l.length ≤ 1000) (hT : T.length = l.length) (hin : nodeR.In w p l) (hit : boolR.In w pt T) :
    Calls Try.prog 66 #[.slice p l.length c, .slice pt T.length ct, .int .i64 q] w fun e w' => e = .returned (.int .i64 (nextL l T q l.length)) ∧ Below w.heap.size w w' := by
  have HX := Lib.hid hin
  have HY := Lib.hid hit
  clear hin hit
  rw [hT]
  have HTL := Lib.hid hT
  clear hT
  go_enter Try.func66, Try.ntmps66
  go_wp2_with fail
  go_loopg [7, 8] l.length (fun g v7 v8 wr => ∃ k : Nat, g + k = l.length ∧ v8 = .int .i64 k ∧ v7 = .int .i64 (nextL l T q k) ∧ Below w.heap.size w wr)
  case atStart => exact ⟨0, by omega, rfl, rfl, Below.refl _ _⟩
  case round =>
    obtain ⟨k, hg, rfl, rfl, hbw⟩ := hrel
    have HG := Lib.hid hg
    have HB := Lib.hid hbw
    clear hg hbw
    by_cases hk : k < l.length
    · have HKK := Lib.hid hk
      obtain ⟨b, off, rfl, hlt, h32, hat⟩ := node_at (HX.out.below HB.out) hk
      have hkT : k < T.length := by rw [HTL.out]; exact hk
      rcases (HY.out.below HB.out).2 with h | ⟨b1, o1, rfl, hlt1, hc1⟩
      · rw [h] at hkT; simp at hkT
      have q1 := bool_cell (hc1 k _ (show T[k]? = some (T.getD k false) by simp [List.getD_eq_getElem?_getD, hkT]))
      have q2 := hat.p
      have q3 := hat.kf
      have q4 := hat.ka
      have HNS := Lib.hid (nextL_succ l T q k)
      have hal := nextL_lt l T q k
      have HIN := Lib.hid (HX.out.below HB.out)
      have HPX := Lib.hid (show parN l k = (l.getD k nd0).2.1 from rfl)
      have HKX := Lib.hid (show keyN l k = (l.getD k nd0).1 from rfl)
      obtain ⟨a, ha⟩ : ∃ a, a = nextL l T q k := ⟨_, rfl⟩
      obtain ⟨tk, htk⟩ : ∃ t, t = T.getD k false := ⟨_, rfl⟩
      have HST := Lib.hid (show nextL l T q (k + 1) = if tk = true ∨ (l.getD k nd0).2.1 ≠ q then a else if a < 0 ∨ 0 < cmpK (l.getD k nd0).1 (keyN l a.toNat) then (k : Int) else a by rw [HNS.out, ← ha]; unfold nextStep; rw [← htk]; rfl)
      rw [← ha] at hal ⊢
      rw [← htk] at q1
      generalize l.getD k nd0 = x at *
      obtain ⟨⟨kt, kc, ki⟩, xp, xr, xd⟩ := x
      simp only at q2 q4 HST h32
      have i1 : (k : Int) < l.length := by omega
      clear hat hc1 htk ha HNS HPX HKX
      cases tk with
      | true =>
        have HF := Lib.hid (show nextL l T q (k + 1) = a by rw [HST.out, if_pos (.inl rfl)])
        go_wp2
        go_roundg (gk - 1)
        case measure => have := HG.out; have := HKK.out; omega
        case rel => exact ⟨k + 1, nat_step HG.out HKK.out, by go_num, by rw [HF.out], HB.out⟩
      | false =>
        by_cases hpq : xp = q
        case neg =>
          have HF := Lib.hid (show nextL l T q (k + 1) = a by rw [HST.out, if_pos (.inr hpq)])
          have g1 : (xp != q) = true := by simpa using hpq
          go_wp2
          go_roundg (gk - 1)
          case measure => have := HG.out; have := HKK.out; omega
          case rel => exact ⟨k + 1, nat_step HG.out HKK.out, by go_num, by rw [HF.out], HB.out⟩
        case pos =>
        subst hpq
        have g1 : (xp != xp) = false := by simp
        by_cases hneg : a < 0
        · have HF := Lib.hid (show nextL l T xp (k + 1) = (k : Int) by rw [HST.out, if_neg (by simp), if_pos (.inl hneg)])
          have d1 : decide (a < 0) = true := decide_eq_true hneg
          go_wp2_with fail
          refine wp_region_over (by kernel_rfl) (by kernel_rfl) ?_
          repeat (go_big_quiet_step (fail))
          refine wpQuiet_nil ?_
          rintro _ ⟨z0, rfl⟩
          have HBZ := Lib.hid (HB.out.trans ((ov_below wr z0).mono HB.out.size))
          clear q1 q2 q3 q4
          go_wp2
          go_roundg (gk - 1)
          case measure => have := HG.out; have := HKK.out; omega
          case rel => exact ⟨k + 1, nat_step HG.out HKK.out, by go_num, by rw [HF.out], HBZ.out⟩
        · obtain ⟨an, rfl⟩ := Int.eq_ofNat_of_zero_le (show 0 ≤ a by omega)
          have han : an < l.length := by omega
          obtain ⟨b', off', he, hltp, hp32, hatp⟩ := node_at HIN.out han
          cases he
          have HKY := Lib.hid (show cmpK (kt, kc, ki) (keyN l an) = keysCmp kt kc ki (l.getD an nd0).1.1 (l.getD an nd0).1.2.1 (l.getD an nd0).1.2.2 from rfl)
          have s2 := hatp.kf
          have s3 := hatp.ka
          generalize l.getD an nd0 = y at *
          obtain ⟨⟨yt, yc, yi⟩, yp, yr, yd⟩ := y
          simp only at s3 HKY hp32
          have HKC := Lib.hid (fun W => rkeys_any kt kc ki yt yc yi h32 hp32 W)
          rw [← HKY.out] at HKC
          obtain ⟨cc, hcc⟩ : ∃ cc, cc = cmpK (kt, kc, ki) (keyN l an) := ⟨_, rfl⟩
          rw [← hcc] at HKC
          have HST2 := Lib.hid (show nextL l T xp (k + 1) = if 0 < cc then (k : Int) else (an : Int) by
            rw [HST.out, if_neg (by simp), Int.toNat_natCast, ← hcc]
            by_cases h : 0 < cc
            · rw [if_pos h, if_pos (.inr h)]
            · rw [if_neg h, if_neg (by omega)])
          have i2 : (an : Int) < l.length := by omega
          have d1 : decide ((an : Int) < 0) = false := decide_eq_false (by omega)
          clear hatp HKY hcc
          by_cases hc0 : 0 < cc
          · have d2 : decide (0 < cc) = true := decide_eq_true hc0
            have HF := Lib.hid (show nextL l T xp (k + 1) = (k : Int) by rw [HST2.out, if_pos hc0])
            go_wp2_with fail
            refine wp_region_over (by kernel_rfl) (by kernel_rfl) ?_
            repeat (go_big_quiet_step ((go_at_call 54; exact Calls.over_of (HKC.out _))))
            refine wpQuiet_nil ?_
            rintro _ ⟨z0, rfl⟩
            have HBZ := Lib.hid (HB.out.trans ((ov_below wr z0).mono HB.out.size))
            clear q1 q2 q3 q4 s2 s3
            go_wp2
            go_roundg (gk - 1)
            case measure => have := HG.out; have := HKK.out; omega
            case rel => exact ⟨k + 1, nat_step HG.out HKK.out, by go_num, by rw [HF.out], HBZ.out⟩
          · have d2 : decide (0 < cc) = false := decide_eq_false hc0
            have HF := Lib.hid (show nextL l T xp (k + 1) = (an : Int) by rw [HST2.out, if_neg hc0])
            go_wp2_with fail
            refine wp_region_over (by kernel_rfl) (by kernel_rfl) ?_
            repeat (go_big_quiet_step ((go_at_call 54; exact Calls.over_of (HKC.out _))))
            refine wpQuiet_nil ?_
            rintro _ ⟨z0, rfl⟩
            have HBZ := Lib.hid (HB.out.trans ((ov_below wr z0).mono HB.out.size))
            clear q1 q2 q3 q4 s2 s3
            go_wp2
            go_roundg (gk - 1)
            case measure => have := HG.out; have := HKK.out; omega
            case rel => exact ⟨k + 1, nat_step HG.out HKK.out, by go_num, by rw [HF.out], HBZ.out⟩
    · have HKE := Lib.hid (show k = l.length by have := HG.out; omega)
      go_wp2
      go_ret
      exact ⟨by rw [HKE.out]; rfl, HB.out⟩
theorem info4e : (Try.prog.info? 4).map (fun i => (i.zero, i.size, i.bytes)) = some (some (.bool false), 1, 1) := by kernel_rfl
@[go_sem ↓] theorem mk34 (n : Nat) (h : n ≤ 1000000) (w : World) : (Instr.makeSlice 130 (.int .i64 (n : Int)) (.int .i64 (n : Int))).run Try.prog w = .ok (.slice (some ⟨w.heap.size, 0, none⟩) n n) (w.alloc (.cells (madeCells #[.bool false] n) 4)) := by
  have h4 := info4e
  cases hi : Try.prog.info? 4 with
  | none => rw [hi] at h4; cases h4
  | some i =>
    rw [hi] at h4
    simp at h4
    obtain ⟨z0, z1, z2⟩ := h4
    have := run_make (P := Try.prog) w 130 4 i _ Try.underlying130 hi z0 .i64 .i64 n n (by omega) (Int.le_refl _) (by rw [z2]; omega) (by omega)
    rw [this, z1]
    simp [Value.cells]
theorem made_bools (n : Nat) : (madeCells #[.bool false] n).toList = boolR.cells (List.replicate n false) := by
  rw [toList_madeCells_one]
  induction n with
  | zero => rfl
  | succ n ih => rw [List.replicate_succ, List.replicate_succ, Rec.cells_cons, ih]; rfl
set_option maxRecDepth 100000 in
theorem brow_made (w : World) (n : Nat) (hn : n ≤ 1000000) : boolR.row 4 w.heap.size (List.replicate n false) (.slice (some ⟨w.heap.size, 0, none⟩) n n) (w.alloc (.cells (madeCells #[.bool false] n) 4)) := by
  have hs : (madeCells #[Value.bool false] n).size = n := by
    have := congrArg List.length (made_bools n)
    rw [Rec.cells_length _ _ (fun _ _ => trivial)] at this
    simpa [boolR] using this
  refine ⟨fun _ _ => trivial, by rw [Rec.cells_length _ _ (fun _ _ => trivial)], .inr ⟨w.heap.size, n, madeCells #[.bool false] n, by simp, Nat.le_refl _, (MapKept.heap_alloc w _).1, by simp, by unfold maxLen; omega, by rw [hs]; simp [boolR], ?_⟩⟩
  rw [made_bools n, List.take_of_length_le (by rw [Rec.cells_length _ _ (fun _ _ => trivial)]; simp)]
theorem own_lt {bt g l c : Nat} (h : (Value.slice (some ⟨bt, 0, none⟩) l c).ownBlock = some g) : g < bt + 1 := by
  simp only [Value.ownBlock, Option.some.injEq] at h
  omega
/-- Which are told. -/
def toldL (n : Nat) (O : List Nat) : List Bool := (List.range n).map fun i => decide (i ∈ O)
theorem toldL_len (n : Nat) (O : List Nat) : (toldL n O).length = n := by simp [toldL]
theorem toldL_nil (n : Nat) : toldL n [] = List.replicate n false := by
  unfold toldL
  apply List.ext_getElem?
  intro i
  by_cases h : i < n <;> simp [h]
theorem toldL_get {n : Nat} {O : List Nat} {i : Nat} (h : i < n) : (toldL n O).getD i false = decide (i ∈ O) := by
  unfold toldL; simp [List.getD_eq_getElem?_getD, h]
theorem toldL_set {n : Nat} {O : List Nat} {i : Nat} (h : i < n) : (toldL n O).set i true = toldL n (O ++ [i]) := by
  apply List.ext_getElem?
  intro j
  rw [List.getElem?_set]
  unfold toldL
  by_cases hj : j < n
  · by_cases hij : i = j
    · subst hij; simp [h]
    · rw [if_neg hij]; simp [hj, show ¬ j = i from fun he => hij he.symm]
  · by_cases hij : i = j
    · subst hij; exact absurd h hj
    · rw [if_neg hij]; simp [hj]
/-- Where one stands, as the program says. -/
def atI : Option Nat → Int | none => -1 | some y => (y : Int)
theorem par_iff {l : List Nd} (hR : RightL l) {j : Nat} (hj : j < l.length) (a : Option Nat) : (forest l).par j = a ↔ parN l j = atI a := by
  obtain ⟨_, h2, h3, _⟩ := hR.1 j hj
  unfold forest atI
  simp only
  split
  · cases a with
    | none => simp; omega
    | some y => simp; omega
  · cases a with
    | none => simp; omega
    | some y => simp; omega

set_option maxHeartbeats 4000000 in
set_option maxRecDepth 100000 in
theorem rorder_any (p : Option Addr) (c : Nat) (l : List Nd) (w : World) (hlen : l.length ≤ 1000) (hin : nodeR.In w p l) (hR : RightL l) :
    Calls Try.prog 55 #[.slice p l.length c] w fun e w' => ∃ v, e = .returned v ∧ intR.row 3 w.heap.size (toI (ordN l)) v w' ∧ Below w.heap.size w w' := by
  have HX := Lib.hid hin
  have HR := Lib.hid hR
  have HON := Lib.hid (ordN_right hR)
  have HOL := Lib.hid (ordN_len hR)
  obtain ⟨bt, hbt⟩ : ∃ bt, bt = w.heap.size := ⟨_, rfl⟩
  obtain ⟨W, hW⟩ : ∃ W, W = w.alloc (.cells (madeCells #[.bool false] l.length) 4) := ⟨_, rfl⟩
  have hb0 := (Below.refl w.heap.size w).alloc (Nat.le_refl _) (.cells (madeCells #[.bool false] l.length) 4)
  have hr0 := brow_made w l.length (by omega)
  have hws : W.heap.size = bt + 1 := by rw [hW, hbt]; simp
  rw [← hW] at hb0 hr0
  rw [← hbt] at hr0
  rw [← toldL_nil] at hr0
  have HB0 := Lib.hid hb0
  have HR0 := Lib.hid hr0
  have HWS := Lib.hid hws
  have hm : l.length ≤ 1000000 := by omega
  clear hin hR hb0 hr0 hws
  go_enter Try.func55, Try.ntmps55
  go_upto_region 2 with fail
  rw [← hW, ← hbt]
  have HBT := Lib.hid hbt
  clear hW hbt
  go_wp2_with fail
  go_loopg [4, 5] (l.length * (l.length + 2)) (fun g v4 v5 wr => ∃ (O rest : List Nat) (a : Option Nat), g = (l.length - O.length) * (l.length + 2) + (forest l).depth a ∧ v5 = .int .i64 (atI a) ∧ intR.row 3 (bt + 1) (toI O) v4 wr ∧ boolR.row 4 bt (toldL l.length O) (.slice (some ⟨bt, 0, none⟩) l.length l.length) wr ∧
    O ++ rest = (forest l).ord ∧ (forest l).Chain O a rest ∧ (forest l).depth a ≤ l.length ∧ Below w.heap.size w wr)
  case atStart => exact ⟨[], (forest l).ord, none, by simp [Forest.depth], rfl, Rec.row.nil, HR0.out, rfl, Forest.Chain.start HR.out.ok, by simp [Forest.depth], HB0.out⟩
  case round =>
    obtain ⟨O, rest, a, hg, rfl, hro, hrt, hor, hch, hdp, hbw⟩ := hrel
    have HG := Lib.hid hg
    have HRO := Lib.hid hro
    have HRT := Lib.hid hrt
    have HOR := Lib.hid hor
    have HCH := Lib.hid hch
    have HDP := Lib.hid hdp
    have HB := Lib.hid hbw
    have hol : O.length + rest.length = l.length := by
      have := congrArg List.length hor
      rw [List.length_append, ← HON.out, HOL.out] at this
      exact this
    obtain ⟨po, co, rfl, _, _, hino, _⟩ := hro.sl
    rw [toI_len]
    clear hg hro hrt hor hch hdp hbw hino
    by_cases hk : O.length < l.length
    · have HKK := Lib.hid hk
      have hr0 : rest ≠ [] := fun he => by rw [he] at hol; simp at hol; omega
      have hrtl := HRT.out.sl
      obtain ⟨pt, ct, hte, _, _, hit, _⟩ := hrtl
      have hnx := next_any p pt c ct l (toldL l.length O) (atI a) wr hlen (toldL_len _ _) (HX.out.below HB.out) hit
      rw [← hte] at hnx
      have HNX := Lib.hid hnx
      have hstep := HCH.out.step HR.out.ok HOR.out hr0
      have i0 : (O.length : Int) < l.length := by omega
      clear hnx hit hte hol
      rcases hstep with ⟨i, rest', hre, hil, hpi, hio, hmx, hch2⟩ | ⟨y, hay, hyl, hall, hch2⟩
      · have hil : i < l.length := hil
        have hni : nextL l (toldL l.length O) (atI a) l.length = (i : Int) := nextL_one HR.out hil (by rw [toldL_get hil]; simp [hio]) ((par_iff HR.out hil a).1 hpi) (fun j hj ht hp => hmx j hj ((par_iff HR.out hj a).2 hp) (by rw [toldL_get hj] at ht; simpa using ht))
        rw [hni] at HNX
        have HCH2 := Lib.hid hch2
        have HRE := Lib.hid hre
        have HD2 := Lib.hid (Forest.cnt_lt HR.out.ok hil)
        clear hni hre hmx hch2 hr0 hpi
        go_wp2_with fail
        refine HNX.out.mono ?_
        rintro e w2 ⟨rfl, hb2⟩
        have HB2 := Lib.hid (HB.out.trans (hb2.mono HB.out.size))
        have hrt2 := HRT.out.below hb2
        have hro2 := HRO.out.below hb2
        have hil2 : i < (toldL l.length O).length := by rw [toldL_len]; exact hil
        have c0 := bool_cell (k := i) (o := 0) (by rw [Nat.zero_add]; exact hrt2.at (k := i) (x := (toldL l.length O).getD i false) (by simp [List.getD_eq_getElem?_getD, hil2]))
        have c1 := bool_frozen hil2 hrt2
        rw [Nat.zero_add] at c0
        obtain ⟨hset, hbs⟩ := bool_set true hil2 hrt2
        rw [toldL_set hil] at hset
        have hro3 := row_same hro2 (w' := w2.setCell ⟨bt, i, none⟩ (.bool true)) (fun g hgg => Below.heap_setCell w2 ⟨bt, i, none⟩ _ g (by
          have := (row_block hro2 g hgg).1
          intro he
          have he' : g = bt := he
          omega))
        have i1 : (i : Int) < l.length := by omega
        have HRT3 := Lib.hid hset
        have HRO3 := Lib.hid hro3
        have HB3 := Lib.hid (show Below w.heap.size w (w2.setCell ⟨bt, i, none⟩ (.bool true)) from HB2.out.trans (by rw [← HBT.out]; exact hbs))
        have hsz3 : bt + 1 ≤ (w2.setCell ⟨bt, i, none⟩ (.bool true)).heap.size := by
          rw [HBT.out]
          obtain ⟨_, cur, hh⟩ := row_block hset bt rfl
          have := (Array.getElem?_eq_some_iff.1 hh).1
          rw [HBT.out] at this
          exact this
        have HSZ3 := Lib.hid hsz3
        clear hb2 hrt2 hro2 hset hbs hro3 hil2 hsz3
        go_upto_region 9 with fail
        obtain ⟨w3, hw3⟩ : ∃ w3, w3 = w2.setCell ⟨bt, i, none⟩ (.bool true) := ⟨_, rfl⟩
        rw [← hw3] at HRT3 HRO3 HB3 HSZ3 ⊢
        clear hw3 c0 c1
        have hba := (Below.refl w3.heap.size w3).alloc (Nat.le_refl _) (.cells #[.int .i64 (i : Int)] 3)
        have HRW := Lib.hid (HRO3.out.below hba)
        have HINx := Lib.hid (show intR.In (w3.alloc (.cells #[.int .i64 (i : Int)] 3)) (some ⟨w3.heap.size, 0, none⟩) [(i : Int)] from Rec.In.one (R := intR) w3 3 (i : Int) trivial)
        have HBA := Lib.hid (HB3.out.trans (hba.mono HB3.out.size))
        have HTA := Lib.hid (HRT3.out.below hba)
        have HTL := Lib.hid (show (toI O).length + 1 ≤ 100000000 by rw [toI_len]; omega)
        have HBS := Lib.hid (Nat.le_trans HSZ3.out hba.size)
        rw [← toI_len O]
        clear hba
        go_wp2_with (at_builtin; refine Rec.wpList_app int27 rfl _ _ rfl (bt + 1) _ (toI O) [(i : Int)] (toI (O ++ [i])) (toI_snoc _ _) rfl HRW.out (some ⟨w3.heap.size, 0, none⟩) 1 rfl HINx.out (fun h => by cases h) HTL.out HBS.out ?_)
        rintro v7 w7 hr7 _ hb7
        have HR7 := Lib.hid hr7
        have HT7 := Lib.hid (row_same HTA.out (fun g hgg => hb7.block g (own_lt hgg)))
        have HB7 := Lib.hid (HBA.out.trans (hb7.mono (by rw [HBT.out]; omega)))
        clear hr7 hb7
        go_wp2
        go_roundg ((l.length - (O.length + 1)) * (l.length + 2) + ((forest l).cnt i + 1))
        case measure =>
          have h1 := HG.out
          have h2 := HD2.out
          have h3 := HKK.out
          have h4 : (forest l).n = l.length := rfl
          obtain ⟨d, hd⟩ : ∃ d, l.length = O.length + 1 + d := ⟨l.length - (O.length + 1), by omega⟩
          have e1 : l.length - O.length = d + 1 := by omega
          have e2 : l.length - (O.length + 1) = d := by omega
          rw [h1, e1, e2, Nat.add_mul, Nat.one_mul]
          omega
        case rel => exact ⟨O ++ [i], rest', some i, by rw [List.length_append]; rfl, rfl, HR7.out, HT7.out, by rw [List.append_assoc]; show O ++ (i :: rest') = _; rw [← HRE.out]; exact HOR.out, HCH2.out, HD2.out, HB7.out⟩
      · subst hay
        have hyl : y < l.length := hyl
        have hni : nextL l (toldL l.length O) (atI (some y)) l.length = -1 := nextL_none (fun j hj hp => by
          rw [toldL_get hj]
          exact decide_eq_true (hall j hj ((par_iff HR.out hj (some y)).2 hp)))
        rw [hni] at HNX
        have HCH2 := Lib.hid hch2
        have HPE := Lib.hid (show atI ((forest l).par y) = parN l y from ((par_iff HR.out hyl _).1 rfl).symm)
        have HDQ := Lib.hid (show (forest l).depth ((forest l).par y) < (forest l).depth (some y) by
          cases hp : (forest l).par y with
          | none => simp [Forest.depth]
          | some q => have := Forest.cnt_par HR.out.ok hyl hp; simp only [Forest.depth]; omega)
        clear hni hch2 hr0 hall
        unfold atI at HNX ⊢
        simp only at HNX ⊢
        go_wp2_with fail
        refine HNX.out.mono ?_
        rintro e w2 ⟨rfl, hb2⟩
        obtain ⟨b, off, rfl, hlt, h32, hat⟩ := node_at (HX.out.below (HB.out.trans (hb2.mono HB.out.size))) hyl
        have q1 := hat.p
        have HPV := Lib.hid (show parN l y = (l.getD y nd0).2.1 from rfl)
        rw [← HPV.out, ← HPE.out] at q1
        have i1 : (y : Int) < l.length := by omega
        have HB2 := Lib.hid (HB.out.trans (hb2.mono HB.out.size))
        have HRT2 := Lib.hid (HRT.out.below hb2)
        have HRO2 := Lib.hid (HRO.out.below hb2)
        clear hat hb2
        rw [← toI_len O]
        go_wp2
        go_roundg ((l.length - O.length) * (l.length + 2) + (forest l).depth ((forest l).par y))
        case measure => have h1 := HG.out; have h2 := HDQ.out; omega
        case rel => exact ⟨O, rest, (forest l).par y, rfl, rfl, HRO2.out, HRT2.out, HOR.out, HCH2.out, by have := HDP.out; have := HDQ.out; omega, HB2.out⟩
    · have hre : rest = [] := by
        have : rest.length = 0 := by omega
        exact List.length_eq_zero_iff.1 this
      have HE := Lib.hid (show O = ordN l by rw [HON.out, ← HOR.out, hre]; simp)
      have HB' := HB
      rw [← toI_len O]
      have hlo : ¬ ((toI O).length : Int) < l.length := by rw [toI_len]; omega
      clear hre hol
      go_wp2
      go_ret
      exact ⟨_, rfl, by rw [← HE.out]; exact HRO.out.base (by rw [HBT.out]; omega), HB.out⟩
theorem encs_snocN (rs : List Int) (r : Int) : encs (rs ++ [r]) = encs rs ++ enc r := by simp [encs]

set_option maxHeartbeats 4000000 in
set_option maxRecDepth 100000 in
theorem rtext_any (p : Option Addr) (c : Nat) (l : List Nd) (w : World) (hlen : l.length ≤ 1000) (hin : nodeR.In w p l) (hR : RightL l) :
    Calls Try.prog 37 #[.slice p l.length c] w fun e w' => e = .returned (.string ⟨(encs (refL l)).toArray⟩) ∧ Below w.heap.size w w' := by
  have HX := Lib.hid hin
  have HT := Lib.hid (rorder_any p c l w hlen hin hR)
  obtain ⟨i0, hi, hz0, hz1, hz2⟩ := info_parts info5
  have HI0 := Lib.hid hi
  have HZ0 := Lib.hid hz0
  have HZ1 := Lib.hid hz1
  have HZ2 := Lib.hid hz2
  clear hin hi hz0 hz1 hz2
  go_enter Try.func37, Try.ntmps37
  go_wp2_with fail
  refine HT.out.mono ?_
  rintro e w1 ⟨v1, rfl, hr1, hb1⟩
  obtain ⟨p1, c1, rfl, _, _, hin1, _⟩ := hr1.sl
  have HI1 := Lib.hid hin1
  have HB1 := Lib.hid hb1
  have HLO := Lib.hid (ordN_le l)
  have HOL := Lib.hid (fun (k : Nat) (hk : k < (ordN l).length) => (show (ordN l).getD k 0 < l.length from ordN_lt (by
    rw [List.getD_eq_getElem?_getD, List.getElem?_eq_getElem hk]; exact List.getElem_mem hk)))
  have HGD := Lib.hid (live_good l)
  have HLV := Lib.hid (liveN_eq l)
  have HMY := Lib.hid (fun (k : Nat) (hk : k < l.length) => (hR.1 k hk).1)
  rw [toI_len]
  obtain ⟨O, hO⟩ : ∃ O, O = ordN l := ⟨_, rfl⟩
  rw [← hO] at HI1 HLO HOL HGD HLV ⊢
  have hol := HLO.out
  clear hr1 hb1 hin1 hO hR
  go_wp2_with fail
  go_loopg [4, 5] O.length (fun g v4 v5 wr => ∃ k : Nat, g + k = O.length ∧ v5 = .int .i64 k ∧ wr.ownsRow w1.heap.size 5 1 v4 (encs (liveT l O k)).length (Lib.byteCells (encs (liveT l O k))) ∧ Below w1.heap.size w1 wr)
  case atStart => exact ⟨0, by omega, rfl, by simpa [liveT, encs, Lib.byteCells] using ownsRow_nil w1 w1.heap.size 5 1, Below.refl _ _⟩
  case round =>
    obtain ⟨k, hg, rfl, hown, hbw⟩ := hrel
    have HG := Lib.hid hg
    have HOWN := Lib.hid hown
    have HB := Lib.hid hbw
    clear hg hbw hown
    by_cases hk : k < O.length
    · have HKK := Lib.hid hk
      obtain ⟨x, hx⟩ : ∃ x, x = O.getD k 0 := ⟨_, rfl⟩
      have hxl := HOL.out k hk
      have HLS := Lib.hid (liveT_succ l O k hk)
      have hxI : (toI O)[k]? = some (x : Int) := by
        unfold toI; rw [List.getElem?_map, hx]; simp [List.getD_eq_getElem?_getD, hk]
      rw [← hx] at hxl HLS
      rcases (HI1.out.below HB.out).2 with h | ⟨b1, o1, rfl, hlt1, hc1⟩
      · rw [h] at hxI; simp at hxI
      have q1 := int_cell (hc1 k _ hxI)
      obtain ⟨b, off, rfl, hlt, h32, hat⟩ := node_at (HX.out.below (HB1.out.trans (HB.out.mono HB1.out.size))) hxl
      have q2 := hat.d
      have q3 := hat.r
      have HDX := Lib.hid (show deadN l x = (l.getD x nd0).2.2.2 from rfl)
      have HRX := Lib.hid (show runeN l x = (l.getD x nd0).2.2.1 from rfl)
      have hmy := HMY.out x hxl
      rw [HRX.out] at hmy
      rw [HDX.out, HRX.out] at HLS
      generalize l.getD x nd0 = y at *
      obtain ⟨yk, yp, yr, yd⟩ := y
      simp only at q2 q3 HLS hmy
      have HM := Lib.hid hmy
      have i1 : (k : Int) < O.length := by omega
      have i2 : (x : Int) < l.length := by omega
      clear hat hc1 hxI hx HDX HRX h32 hmy
      cases yd with
      | true =>
        have HOWN2 := Lib.hid (show wr.ownsRow w1.heap.size 5 1 _ (encs (liveT l O (k + 1))).length (Lib.byteCells (encs (liveT l O (k + 1)))) by rw [HLS.out, if_pos rfl]; exact HOWN.out)
        go_wp2
        go_roundg (gk - 1)
        case measure => have := HG.out; have := HKK.out; omega
        case rel => exact ⟨k + 1, nat_step HG.out HKK.out, by go_num, HOWN2.out, HB.out⟩
      | false =>
        have HLS2 := Lib.hid (show liveT l O (k + 1) = liveT l O k ++ [yr] by rw [HLS.out]; rfl)
        have HL4 := Lib.hid (show (encs (liveT l O k)).length ≤ 4000 by
          have h1 := encs_len4 (liveT l O k)
          have h2 : (liveT l O k).length ≤ (O.take k).length := by unfold liveT; rw [List.length_map]; exact List.length_filter_le _ _
          rw [List.length_take] at h2
          omega)
        go_wp2_with fail
        refine (Bytes_any yr HM.out _).mono ?_
        rintro e w2 ⟨rfl, rfl⟩
        have hl6 := (enc_ne yr).2
        have HL6 := Lib.hid hl6
        have HL7 := Lib.hid (encV_len yr)
        have HSB := Lib.hid (show w1.heap.size ≤ (wr.alloc (.cells ((encV yr).map (Value.int .u8)).toArray 5)).heap.size by have := HB.out.size; simp; omega)
        clear hl6 q1 q2 q3
        go_wp2_with (at_builtin; refine wpList_append_own _ rfl _ _ 74 rfl w1.heap.size 5 i0 (.int .u8 0) 1 1 Try.underlying74 HI0.out HZ0.out HZ1.out HZ2.out rfl (by decide) _ _ _ rfl (HOWN.out.alloc _) ⟨wr.heap.size, 0, none⟩ (encV yr).length (encV yr).length ((encV yr).map (Value.int .u8)) rfl (by simp) ?c1 ?c2 ?c3 ?c4 HSB.out ?_)
        case c1 =>
          intro j u hj
          have hlt : j < (encV yr).length := by
            rcases Nat.lt_or_ge j (encV yr).length with h | h
            · exact h
            · simp [h] at hj
          have hh := (MapKept.heap_alloc wr (.cells ((encV yr).map (Value.int .u8)).toArray 5)).1
          have e : ((⟨wr.heap.size, 0, none⟩ : Addr).add j) = ⟨wr.heap.size, j, none⟩ := by
            simp [Addr.add]
            intro h
            omega
          rw [e]
          exact (Lib.cell_of_heap hh j).trans (by simpa using hj)
        case c2 => simp [Value.oneCell']
        case c3 => have := HL7.out; have := HL6.out; have := HL4.out; unfold maxLen; omega
        case c4 => have := HL7.out; have := HL6.out; have := HL4.out; omega
        intro v' w3 hown' hgrow _
        have HO3 := Lib.hid hown'
        have HB3 := Lib.hid ((HB.out.alloc HB.out.size (.cells ((encV yr).map (Value.int .u8)).toArray 5)).grown hgrow HSB.out (fun j hj => (HOWN.out.lt j hj).1))
        clear hown' hgrow
        go_wp2
        go_roundg (gk - 1)
        case measure => have := HG.out; have := HKK.out; omega
        case rel =>
          refine ⟨k + 1, nat_step HG.out HKK.out, by go_num, ?_, HB3.out⟩
          rw [HLS2.out, encs_snocN, Lib.byteCells_append, List.length_append, ← HL7.out, ← byteCells_enc HM.out]
          exact HO3.out
    · have hke : k = O.length := by have := HG.out; omega
      subst hke
      have hcv := conv_own wr w1.heap.size _ _ HOWN.out
      rw [← HLV.out] at hcv
      go_wp2
      go_ret
      exact ⟨rfl, HB1.out.trans (HB.out.mono HB1.out.size)⟩

end Go.Proofs.Ytcgioboiebanpaa
