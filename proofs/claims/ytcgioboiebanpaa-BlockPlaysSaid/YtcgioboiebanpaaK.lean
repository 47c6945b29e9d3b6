/- A statement whose order is open, by a word on each operation's value: what each operation gives is said ahead (S), each is run once, in whatever world the others have left; every order ends so. -/
import Derived.Test.YtcgioboiebanpaaC
import Derived.Orders
namespace Go.Proofs.Ytcgioboiebanpaa
open Go.RowKit
set_option linter.unusedVariables false

/-- The operations behind which one stands. -/
def depsOf (o : Oper) : List Nat := (o.after.toList.filter (Region.binds .any)).map (·.on)
def dstAt (l : List Oper) (j : Nat) : Option Tmp := (l[j]?).bind (·.dst)

/-- A frame with the values of some operations; T: their slots. -/
def putL (T : List (Option Tmp)) (vs : Nat → Value) : List Nat → Act → Act
  | [], a => a
  | j :: js, a => putL T vs js (a.put (T.getD j none) (vs j))
/-- What is said of the values of some operations. -/
def DepH (S : Nat → Value → World → Prop) (vs : Nat → Value) (w : World) : List Nat → Prop
  | [] => True
  | j :: js => S j (vs j) w ∧ DepH S vs w js
theorem DepH_iff (S : Nat → Value → World → Prop) (vs : Nat → Value) (w : World) : ∀ js, DepH S vs w js ↔ ∀ j ∈ js, S j (vs j) w
  | [] => by simp [DepH]
  | j :: js => by simp [DepH, DepH_iff S vs w js]

theorem put_size (a : Act) (d : Option Tmp) (v : Value) : (a.put d v).tmps.size = a.tmps.size := by cases d <;> simp [Act.put]
theorem put_defers (a : Act) (d : Option Tmp) (v : Value) : (a.put d v).defers = a.defers := by cases d <;> rfl
theorem put_get_ne (a : Act) (d : Option Tmp) (v : Value) (t : Nat) (h : d ≠ some t) : (a.put d v).tmps[t]? = a.tmps[t]? := by
  cases d with
  | none => rfl
  | some d =>
    have : d ≠ t := fun e => h (by rw [e])
    simp [Act.put, Array.getElem?_setIfInBounds_ne this]
theorem put_get_eq (a : Act) (v : Value) (t : Nat) (h : t < a.tmps.size) : (a.put (some t) v).tmps[t]? = some v := by
  simp [Act.put, h]

theorem putL_size (l : List (Option Tmp)) (vs : Nat → Value) : ∀ (js : List Nat) (a : Act), (putL l vs js a).tmps.size = a.tmps.size
  | [], a => rfl
  | j :: js, a => by rw [putL, putL_size, put_size]
theorem putL_defers (l : List (Option Tmp)) (vs : Nat → Value) : ∀ (js : List Nat) (a : Act), (putL l vs js a).defers = a.defers
  | [], a => rfl
  | j :: js, a => by rw [putL, putL_defers, put_defers]
theorem putL_none (l : List (Option Tmp)) (vs : Nat → Value) (t : Nat) : ∀ (js : List Nat) (a : Act), (∀ j ∈ js, l.getD j none ≠ some t) → (putL l vs js a).tmps[t]? = a.tmps[t]?
  | [], a, _ => rfl
  | j :: js, a, h => by
    rw [putL, putL_none l vs t js _ (fun k hk => h k (List.mem_cons_of_mem _ hk)), put_get_ne _ _ _ _ (h j (List.mem_cons_self ..))]
theorem putL_some (l : List (Option Tmp)) (vs : Nat → Value) (t i : Nat) : ∀ (js : List Nat) (a : Act), t < a.tmps.size → i ∈ js → l.getD i none = some t →
    (∀ j ∈ js, l.getD j none = some t → j = i) → (putL l vs js a).tmps[t]? = some (vs i)
  | [], a, _, hi, _, _ => by cases hi
  | j :: js, a, ht, hi, hd, hu => by
    rw [putL]
    by_cases hj : i ∈ js
    · exact putL_some l vs t i js _ (by rw [put_size]; exact ht) hj hd (fun k hk => hu k (List.mem_cons_of_mem _ hk))
    · have hji : j = i := by
        rcases List.mem_cons.1 hi with h | h
        · exact h.symm
        · exact absurd h hj
      subst hji
      rw [putL_none l vs t js _ (fun k hk hk2 => by have := hu k (List.mem_cons_of_mem _ hk) hk2; subst this; exact hj hk), hd, put_get_eq _ _ _ ht]

theorem DepH.get {S : Nat → Value → World → Prop} {vs : Nat → Value} {w : World} {js : List Nat} (h : DepH S vs w js) (j : Nat) (hj : js.contains j = true) : S j (vs j) w :=
  (DepH_iff S vs w js).1 h j (List.contains_iff_mem.1 hj)

/-- The look over a region: each slot is written once, within the frame; what an operation looks at and the region writes is written by an operation of D, behind each of which it stands; each stands behind earlier ones. -/
def specsOk (l : List Oper) (n : Nat) (D : List (List Nat)) (T : List (Option Tmp)) (L : List Nat) : Bool :=
  (l.map (·.dst) == T) && (L == List.range l.length) &&
  (List.range l.length).all fun i =>
    ((List.range l.length).all fun j => i == j || dstAt l i == none || dstAt l i != dstAt l j) &&
    (match dstAt l i with | some d => decide (d < n) | none => true) &&
    (match l[i]? with
     | some o => (match o.op with | .select .. => false | _ => true) && (depsOf o).all (fun j => decide (j < i)) &&
        (D.getD i []).all (fun j => (depsOf o).contains j) &&
        (o.looksAt l.toArray).all (fun t => (List.range l.length).all fun j => dstAt l j != some t || (D.getD i []).contains j || ((l[j]?).map fun p => (depsOf p).contains i).getD false)
     | none => true)

structure SpecsOk (l : List Oper) (n : Nat) (D : List (List Nat)) (T : List (Option Tmp)) : Prop where
  slots : ∀ j : Nat, dstAt l j = T.getD j none
  one : ∀ (i j : Nat) (t : Tmp), i < l.length → j < l.length → dstAt l i = some t → dstAt l j = some t → j = i
  lt : ∀ (i : Nat) (d : Tmp), i < l.length → dstAt l i = some d → d < n
  nosel : ∀ (i : Nat) (o : Oper), l[i]? = some o → ∀ cs b, o.op ≠ .select cs b
  early : ∀ (i : Nat) (o : Oper), l[i]? = some o → ∀ j ∈ depsOf o, j < i
  sub : ∀ (i : Nat) (o : Oper), l[i]? = some o → ∀ j ∈ D.getD i [], j ∈ depsOf o
  looks : ∀ (i : Nat) (o : Oper), l[i]? = some o → ∀ t ∈ o.looksAt l.toArray, ∀ j, j < l.length → dstAt l j = some t → j ∈ D.getD i [] ∨ ∃ p, l[j]? = some p ∧ i ∈ depsOf p

theorem specsOk_spec {l : List Oper} {n : Nat} {D : List (List Nat)} {T : List (Option Tmp)} {L : List Nat} (h : specsOk l n D T L = true) : SpecsOk l n D T ∧ L = List.range l.length := by
  unfold specsOk at h
  rw [Bool.and_eq_true, Bool.and_eq_true, List.all_eq_true] at h
  obtain ⟨⟨hT, hL⟩, h⟩ := h
  have hT' : l.map (·.dst) = T := by simpa using hT
  have H : ∀ i, i < l.length → _ := fun i hi => h i (List.mem_range.2 hi)
  simp only [Bool.and_eq_true] at H
  refine ⟨⟨fun j => ?_, fun i j t hi hj h1 h2 => ?_, fun i d hi hd => ?_, fun i o ho cs b hop => ?_, fun i o ho j hj => ?_, fun i o ho j hj => ?_, fun i o ho t ht j hj hd => ?_⟩, by simpa using hL⟩
  · rw [← hT', List.getD_eq_getElem?_getD, List.getElem?_map]
    unfold dstAt
    cases l[j]? <;> rfl
  · have := List.all_eq_true.1 (H i hi).1.1 j (List.mem_range.2 hj)
    simp only [Bool.or_eq_true, beq_iff_eq, bne_iff_ne, ne_eq] at this
    rcases this with (e | e) | e
    · exact e.symm
    · rw [h1] at e; cases e
    · exact absurd (h1.trans h2.symm) e
  · have := (H i hi).1.2
    rw [hd] at this
    simpa using this
  · have hi := (List.getElem?_eq_some_iff.1 ho).1
    have := (H i hi).2
    rw [ho] at this
    simp [hop] at this
  · have hi := (List.getElem?_eq_some_iff.1 ho).1
    have := (H i hi).2
    rw [ho] at this
    simp only [Bool.and_eq_true] at this
    have := List.all_eq_true.1 this.1.1.2 j hj
    simpa using this
  · have hi := (List.getElem?_eq_some_iff.1 ho).1
    have := (H i hi).2
    rw [ho] at this
    simp only [Bool.and_eq_true] at this
    have := List.all_eq_true.1 this.1.2 j hj
    exact List.contains_iff_mem.1 this
  · have hi := (List.getElem?_eq_some_iff.1 ho).1
    have := (H i hi).2
    rw [ho] at this
    simp only [Bool.and_eq_true] at this
    have := List.all_eq_true.1 (List.all_eq_true.1 this.2 t ht) j (List.mem_range.2 hj)
    simp only [Bool.or_eq_true, bne_iff_ne, ne_eq, List.contains_iff_mem] at this
    rcases this with (e | e) | e
    · exact absurd hd e
    · exact .inl e
    · have hp : l[j]? = some l[j] := by simp [hj]
      rw [hp] at e
      exact .inr ⟨_, hp, by simpa using e⟩

/-- What stands in an operation's slot. -/
def resOf (o : Oper) (a : Act) : Value := match o.dst with | some d => a.tmps.getD d undef | none => undef

/-- What an operation must come to. -/
def OpEnds (R : Nat → World → World → Prop) (S : Nat → Value → World → Prop) (df : List Deferred) (w : World) (i : Nat) (o : Oper) (e : Exit) (a : Act) (w' : World) : Prop :=
  e = .normal ∧ a.defers = df ∧ R i w w' ∧ S i (resOf o a) w'

def Obl (P : Program) (l : List Oper) (T : List (Option Tmp)) (a0 : Act) (G : World → Prop) (Pr : Nat → World → Prop) (R : Nat → World → World → Prop) (S : Nat → Value → World → Prop) (i : Nat) (ds : List Nat) (o : Oper) : Prop :=
  ∀ (vs : Nat → Value) (w : World), G w → Pr i w → DepH S vs w ds →
    wpList P l.toArray (OpEnds R S a0.defers w i o) [o] (putL T vs ds a0) w

def Obls (P : Program) (l : List Oper) (T : List (Option Tmp)) (a0 : Act) (G : World → Prop) (Pr : Nat → World → Prop) (R : Nat → World → World → Prop) (S : Nat → Value → World → Prop) : Nat → List (List Nat) → List Oper → Prop
  | k, ds :: D, o :: rest => Obl P l T a0 G Pr R S k ds o ∧ Obls P l T a0 G Pr R S (k + 1) D rest
  | _, _, [] => True
  | _, [], _ :: _ => False

theorem Obls.get {P : Program} {l : List Oper} {T : List (Option Tmp)} {a0 : Act} {G : World → Prop} {Pr : Nat → World → Prop} {R : Nat → World → World → Prop} {S : Nat → Value → World → Prop} :
    ∀ (D : List (List Nat)) (m : List Oper) (k : Nat), Obls P l T a0 G Pr R S k D m → ∀ i o, m[i]? = some o → Obl P l T a0 G Pr R S (k + i) (D.getD i []) o
  | D, [], k, _, i, o, h => by simp at h
  | [], x :: m, k, h, _, _, _ => by simp [Obls] at h
  | ds :: D, x :: m, k, h, 0, o, ho => by simp at ho; subst ho; exact h.1
  | ds :: D, x :: m, k, h, i + 1, o, ho => by
    have := Obls.get D m (k + 1) h.2 i o (by simpa using ho)
    rw [show k + (i + 1) = k + 1 + i by omega]; simpa using this

theorem no_letsOut {R : Nat → World → World → Prop} {S : Nat → Value → World → Prop} {df : List Deferred} {w : World} {i : Nat} {o : Oper} : ¬ LetsOut (OpEnds R S df w i o) := fun ⟨a, w', h⟩ => by cases h.1

/-- From a frame that agrees on what the operation looks at. -/
theorem wp_transfer {P : Program} {R : Nat → World → World → Prop} {S : Nat → Value → World → Prop} {df : List Deferred} {w : World} {i : Nat} {o : Oper} {ac a : Act} {K : Act → World → Prop} {Q : Exit → Act → World → Prop}
    (he : execOp a.eval o = execOp ac.eval o) (hdl : ∀ d, o.dst = some d → d < ac.tmps.size)
    (h : o.wp P ac w (fun a' w' => OpEnds R S df w i o .normal a' w') (OpEnds R S df w i o)) (hdf : ac.defers = df)
    (hK : ∀ v w', R i w w' → S i (match o.dst with | some _ => v | none => undef) w' → K (a.put o.dst v) w') : o.wp P a w K Q := by
  have fin : ∀ v w', OpEnds R S df w i o .normal (ac.put o.dst v) w' → K (a.put o.dst v) w' := fun v w' hh => by
    obtain ⟨_, _, hr, hs⟩ := hh
    refine hK v w' hr ?_
    unfold resOf at hs
    cases hd : o.dst with
    | none => rw [hd] at hs; exact hs
    | some d =>
      rw [hd] at hs
      have := put_get_eq ac v d (hdl d hd)
      simp only [Array.getD_eq_getD_getElem?, this, Option.getD_some] at hs
      exact hs
  unfold Oper.wp at *
  rw [he]
  generalize (execOp ac.eval o).run P w = r at *
  cases r with
  | ok n w' =>
    cases n with
    | value v => exact fin v w' h
    | skip => exact fin undef w' h
    | defer d =>
      simp only [Oper.upon] at h
      have := h.2.1
      rw [put_defers] at this
      simp only [hdf] at this
      exact absurd this (fun e => by have := congrArg List.length e; simp at this)
    | enter f args =>
      simp only [Oper.upon] at h ⊢
      exact Calls.mono h (fun e w'' he => by
        cases e with
        | returned v => exact fin v w'' he
        | panicked c => cases he.1
        | outgrown => exact absurd he no_letsOut)
    | row row args =>
      simp only [Oper.upon] at h ⊢
      exact Rows.mono h (fun v w'' he => fin v w'' he)
    | _ => exact h.elim
  | halt x w' =>
    cases x with
    | panic v => simp only [Oper.upon] at h; cases h.1
    | _ => exact h.elim

/-- Two frames that agree on what an operation looks at run it alike. -/
theorem exec_same {ops : Array Oper} {o : Oper} (hs : ∀ cs b, o.op ≠ .select cs b) {a a' : Act} (h : ∀ t ∈ o.looksAt ops, a.tmps[t]? = a'.tmps[t]?) :
    execOp a.eval o = execOp a'.eval o ∧ Region.wanted o (yielded ops a.tmps) = Region.wanted o (yielded ops a'.tmps) := by
  constructor
  · refine execOp_congr o hs fun x hx => ?_
    cases x with
    | tmp t =>
      have : t ∈ o.looksAt ops := List.mem_append_left _ (List.mem_filterMap.2 ⟨.tmp t, by simpa using hx, rfl⟩)
      simp only [Act.eval, Array.getD_eq_getD_getElem?, h t this]
    | _ => rfl
  · unfold Region.wanted
    cases hg : o.guard with
    | none => rfl
    | some gw =>
      obtain ⟨g, want⟩ := gw
      have : yielded ops a.tmps g = yielded ops a'.tmps g := by
        unfold yielded
        cases ht : (ops[g]?).bind (·.dst) with
        | none => rfl
        | some t =>
          have : t ∈ o.looksAt ops := List.mem_append_right _ (by simp [hg, ht])
          simp only [Option.bind_some, h t this]
      simp only [this]

structure Mid (l : List Oper) (a0 : Act) (G : World → Prop) (Pr : Nat → World → Prop) (S : Nat → Value → World → Prop) (listed : Array Bool) (a : Act) (w : World) (vs : Nat → Value) : Prop where
  size : listed.size = l.length
  fsize : a.tmps.size = a0.tmps.size
  defers : a.defers = a0.defers
  rel : G w
  pre : ∀ j, j < l.length → listed.getD j true = false → Pr j w
  vals : ∀ j, j < l.length → listed.getD j false = true → S j (vs j) w
  slots : ∀ j d, j < l.length → listed.getD j false = true → dstAt l j = some d → a.tmps[d]? = some (vs j)
  closed : ∀ j p, l[j]? = some p → listed.getD j false = true → ∀ k ∈ depsOf p, listed.getD k false = true
  rest : ∀ t, (∀ j, j < l.length → listed.getD j false = true → dstAt l j ≠ some t) → a.tmps[t]? = a0.tmps[t]?

theorem mem_ready' {l : List Oper} {listed : Array Bool} {i : Nat} (h : i ∈ Region.ready .any l.toArray listed) :
    ∃ o, l[i]? = some o ∧ i < l.length ∧ listed.getD i true = false ∧ ∀ j ∈ depsOf o, listed.getD j false = true := by
  unfold Region.ready at h
  simp only [List.mem_filter, List.mem_range, List.size_toArray, Bool.and_eq_true] at h
  obtain ⟨hlt, h1, h2⟩ := h
  have ho : l[i]? = some l[i] := by simp [hlt]
  refine ⟨l[i], ho, hlt, by simpa using h1, fun j hj => ?_⟩
  unfold depsOf at hj
  obtain ⟨e, he, rfl⟩ := List.mem_map.1 hj
  obtain ⟨he1, he2⟩ := List.mem_filter.1 he
  simp only [List.getElem?_toArray, ho, Option.map_some, Option.getD_some] at h2
  have := Array.all_eq_true_iff_forall_mem.1 h2 e (Array.mem_toList_iff.1 he1)
  simpa [he2] using this

theorem ready_of {l : List Oper} {listed : Array Bool} {i : Nat} {o : Oper} (ho : l[i]? = some o) (hu : listed.getD i true = false) (hd : ∀ j ∈ depsOf o, listed.getD j false = true) :
    i ∈ Region.ready .any l.toArray listed := by
  have hlt := (List.getElem?_eq_some_iff.1 ho).1
  unfold Region.ready
  simp only [List.mem_filter, List.mem_range, List.size_toArray, Bool.and_eq_true, List.getElem?_toArray, ho, Option.map_some, Option.getD_some]
  refine ⟨hlt, by simpa using hu, Array.all_eq_true_iff_forall_mem.2 fun e he => ?_⟩
  cases hb : Region.binds .any e with
  | false => simp
  | true =>
    have : e.on ∈ depsOf o := List.mem_map.2 ⟨e, List.mem_filter.2 ⟨Array.mem_toList_iff.2 he, hb⟩, rfl⟩
    simpa using hd _ this

section
variable {P : Program} {Q : Exit → Act → World → Prop} {l : List Oper} {D : List (List Nat)} {T : List (Option Tmp)} {a0 : Act} {w0 : World} {G : World → Prop} {Pr : Nat → World → Prop} {R : Nat → World → World → Prop} {S : Nat → Value → World → Prop}

theorem specs_any (ok : SpecsOk l a0.tmps.size D T) (hG : ∀ j w w', G w → R j w w' → G w') (hPr : ∀ i j w w', i ≠ j → i ∉ D.getD j [] → Pr i w → R j w w' → Pr i w') (hst : ∀ i j v w w', i ≠ j → j ∉ D.getD i [] → S i v w → R j w w' → S i v w')
    (hop : ∀ i o, l[i]? = some o → Obl P l T a0 G Pr R S i (D.getD i []) o)
    (hend : ∀ vs w, G w → (∀ i, i < l.length → S i (vs i) w) → Q .normal (putL T vs (List.range l.length) a0) w) :
    ∀ (fuel : Nat) (listed : Array Bool) (a : Act) (w : World) (vs : Nat → Value), (∃ u : List Nat, u.length = fuel ∧ u.Nodup ∧ ∀ i, i ∈ u ↔ i < l.length ∧ listed.getD i true = false) → Mid l a0 G Pr S listed a w vs →
      wpAny P .any l.toArray Q fuel listed a w := by
  have allDone : ∀ (listed : Array Bool) (a : Act) (w : World) (vs : Nat → Value), Mid l a0 G Pr S listed a w vs → Region.ready .any l.toArray listed = [] → Q .normal a w := by
    intro listed a w vs m hr
    have hall : ∀ i, i < l.length → listed.getD i false = true := by
      intro i
      induction i using Nat.strongRecOn with
      | _ i ih =>
        intro hi
        have ho : l[i]? = some l[i] := by simp [hi]
        cases hl : listed.getD i true with
        | true =>
          have hs : i < listed.size := by rw [m.size]; exact hi
          simp [hs] at hl ⊢; exact hl
        | false =>
          have := ready_of ho hl (fun j hj => ih j (ok.early i _ ho j hj) (by have := ok.early i _ ho j hj; omega))
          rw [hr] at this; cases this
    have hfin := hend vs w m.rel (fun i hi => m.vals i hi (hall i hi))
    have hacts : a = putL T vs (List.range l.length) a0 := by
      have e1 : a.tmps = (putL T vs (List.range l.length) a0).tmps := by
        apply Array.ext_getElem?
        intro t
        by_cases hx : ∃ j, j < l.length ∧ dstAt l j = some t
        · obtain ⟨j, hj, hd⟩ := hx
          rw [m.slots j t hj (hall j hj) hd, putL_some T vs t j (List.range l.length) a0 (ok.lt j t hj hd) (List.mem_range.2 hj) (by rw [← ok.slots]; exact hd) (fun k hk hk2 => ok.one j k t hj (List.mem_range.1 hk) hd (by rw [ok.slots]; exact hk2))]
        · rw [m.rest t (fun j hj _ hd => hx ⟨j, hj, hd⟩), putL_none T vs t _ _ (fun j hj hd => hx ⟨j, List.mem_range.1 hj, by rw [ok.slots]; exact hd⟩)]
      have e2 : a.defers = (putL T vs (List.range l.length) a0).defers := by rw [m.defers, putL_defers]
      cases a; cases hp : putL T vs (List.range l.length) a0
      rw [hp] at e1 e2
      simp only at e1 e2
      rw [e1, e2]
    rw [hacts]; exact hfin
  intro fuel
  induction fuel with
  | zero =>
    intro listed a w vs ⟨u, hu, _, hm⟩ m
    have hu' : u = [] := List.length_eq_zero_iff.1 hu
    have hr : Region.ready .any l.toArray listed = [] := by
      apply List.eq_nil_iff_forall_not_mem.2
      intro i hi
      obtain ⟨o, _, hlt, hl, _⟩ := mem_ready' hi
      have := (hm i).2 ⟨hlt, hl⟩
      rw [hu'] at this; cases this
    exact ⟨hr, allDone _ _ _ _ m hr⟩
  | succ fuel ih =>
    intro listed a w vs ⟨u, hu, hnd, hm⟩ m
    refine ⟨fun hr => allDone _ _ _ _ m hr, fun i hi => ?_⟩
    obtain ⟨o, ho, hlt, hl, hdeps⟩ := mem_ready' hi
    have hob := hop i o ho vs w m.rel (m.pre i hlt hl) ((DepH_iff S vs w _).2 fun j hj => m.vals j (by have := ok.early i o ho j (ok.sub i o ho j hj); omega) (hdeps j (ok.sub i o ho j hj)))
    have hagree : ∀ t ∈ o.looksAt l.toArray, a.tmps[t]? = (putL T vs (D.getD i []) a0).tmps[t]? := by
      intro t ht
      by_cases hx : ∃ j, j < l.length ∧ dstAt l j = some t
      · obtain ⟨j, hj, hd⟩ := hx
        rcases ok.looks i o ho t ht j hj hd with hjd | ⟨p, hp, hip⟩
        case inr =>
          by_cases hjd : j ∈ D.getD i []
          case neg =>
            have hun : ∀ k, k < l.length → dstAt l k = some t → k = j := fun k hk hk2 => ok.one j k t hj hk hd hk2
            rw [m.rest t (fun k hk hkl hk2 => by
                have := hun k hk hk2; subst this
                have := m.closed k p hp hkl i hip
                have hs : i < listed.size := by rw [m.size]; exact hlt
                simp [hs] at this hl; rw [this] at hl; cases hl),
              putL_none T vs t _ _ (fun k hk hk2 => by
                have := hun k (by have := ok.early i o ho k (ok.sub i o ho k hk); omega) (by rw [ok.slots]; exact hk2)
                subst this; exact hjd hk)]
          rw [m.slots j t hj (hdeps j (ok.sub i o ho j hjd)) hd, putL_some T vs t j (D.getD i []) a0 (ok.lt j t hj hd) hjd (by rw [← ok.slots]; exact hd)
            (fun k hk hk2 => ok.one j k t hj (by have := ok.early i o ho k (ok.sub i o ho k hk); omega) hd (by rw [ok.slots]; exact hk2))]
        rw [m.slots j t hj (hdeps j (ok.sub i o ho j hjd)) hd, putL_some T vs t j (D.getD i []) a0 (ok.lt j t hj hd) hjd (by rw [← ok.slots]; exact hd)
          (fun k hk hk2 => ok.one j k t hj (by have := ok.early i o ho k (ok.sub i o ho k hk); omega) hd (by rw [ok.slots]; exact hk2))]
      · rw [m.rest t (fun j hj _ hd => hx ⟨j, hj, hd⟩), putL_none T vs t _ _ (fun j hj hd => hx ⟨j, by have := ok.early i o ho j (ok.sub i o ho j hj); omega, by rw [ok.slots]; exact hd⟩)]
    obtain ⟨he, hw⟩ := exec_same (ops := l.toArray) (ok.nosel i o ho) hagree
    -- the world and frame behind the operation
    have go_on : ∀ v w', R i w w' → S i (match o.dst with | some _ => v | none => undef) w' → wpAny P .any l.toArray Q fuel (listed.setIfInBounds i true) (a.put o.dst v) w' := by
      intro v w' hr hs
      have hdst : dstAt l i = o.dst := by simp [dstAt, ho]
      refine ih _ _ _ (fun j => if j = i then (match o.dst with | some _ => v | none => undef) else vs j) ⟨u.erase i, ?_, hnd.erase i, fun j => ?_⟩ ?_
      · rw [List.length_erase_of_mem ((hm i).2 ⟨hlt, hl⟩), hu]; rfl
      · rw [hnd.mem_erase_iff, hm j]
        constructor
        · rintro ⟨h1, h2, h3⟩
          refine ⟨h2, ?_⟩
          rw [← h3]
          simp [Array.getElem?_setIfInBounds_ne (Ne.symm h1)]
        · rintro ⟨h2, h3⟩
          have hji : j ≠ i := by
            rintro rfl
            have : j < listed.size := by rw [m.size]; exact hlt
            simp [this] at h3
          refine ⟨hji, h2, ?_⟩
          rw [← h3]
          simp [Array.getElem?_setIfInBounds_ne (Ne.symm hji)]
      · have hne : ∀ j, j ≠ i → (listed.setIfInBounds i true).getD j false = listed.getD j false := fun j hj => by
          simp [Array.getElem?_setIfInBounds_ne (Ne.symm hj)]
        refine ⟨by simp [m.size], by rw [put_size, m.fsize], by rw [put_defers, m.defers], hG _ _ _ m.rel hr, fun j hj hjl => ?_, fun j hj hjl => ?_, fun j d hj hjl hd => ?_, fun j p hp hjl k hk => ?_, fun t ht => ?_⟩
        · have hji : j ≠ i := by
            rintro rfl
            have : j < listed.size := by rw [m.size]; exact hlt
            simp [this] at hjl
          have hjl0 : listed.getD j true = false := by
            rw [← hjl]
            simp [Array.getElem?_setIfInBounds_ne (Ne.symm hji)]
          refine hPr j i w w' hji (fun hjd => ?_) (m.pre j hj ?_) hr
          · have h1 := hdeps j (ok.sub i o ho j hjd)
            have hs : j < listed.size := by rw [m.size]; exact hj
            simp [hs] at h1 hjl0; rw [h1] at hjl0; cases hjl0
          rw [← hjl]
          simp [Array.getElem?_setIfInBounds_ne (Ne.symm hji)]
        · by_cases hji : j = i
          · subst hji; simp only [if_pos]; exact hs
          · simp only [if_neg hji]
            rw [hne j hji] at hjl
            refine hst _ _ _ _ _ hji (fun hid => ?_) (m.vals j hj hjl) hr
            have hp : l[j]? = some l[j] := by simp [hj]
            have h1 := m.closed j _ hp hjl i (ok.sub j _ hp i hid)
            have hs : i < listed.size := by rw [m.size]; exact hlt
            simp [hs] at h1 hl; rw [h1] at hl; cases hl
        · by_cases hji : j = i
          · subst hji
            rw [hdst] at hd
            simp only [if_pos, hd]
            exact put_get_eq _ _ _ (by rw [m.fsize]; exact ok.lt j d hlt (by rw [hdst, hd]))
          · simp only [if_neg hji]
            rw [hne j hji] at hjl
            rw [put_get_ne _ _ _ _ (fun e => hji (ok.one i j d hlt hj (by rw [hdst, e]) hd))]
            exact m.slots j d hj hjl hd
        · have hset : ∀ k, listed.getD k false = true → (listed.setIfInBounds i true).getD k false = true := fun k hkl => by
            by_cases hki : k = i
            · subst hki
              have : k < listed.size := by rw [m.size]; exact hlt
              simp [this]
            · rw [hne k hki]; exact hkl
          by_cases hji : j = i
          · subst hji
            rw [ho] at hp; cases hp
            exact hset k (hdeps k hk)
          · rw [hne j hji] at hjl
            exact hset k (m.closed j p hp hjl k hk)
        · have h0 : o.dst ≠ some t := by
            rw [← hdst]
            exact ht i hlt (by have : i < listed.size := by rw [m.size]; exact hlt
                               simp [this])
          rw [put_get_ne _ _ _ _ h0]
          refine m.rest t (fun j hj hjl => ?_)
          by_cases hji : j = i
          · subst hji; rw [hdst]; exact h0
          · exact ht j hj (by rw [hne j hji]; exact hjl)
    unfold wpOp
    simp only [List.getElem?_toArray, ho]
    unfold wpList at hob
    rw [hw]
    split
    · rename_i hwant
      rw [if_pos hwant] at hob
      rcases hob with hob | ⟨_, hlo⟩
      · refine .inl (wp_transfer he (fun d hd => by rw [putL_size]; exact ok.lt i d hlt (by simp [dstAt, ho, hd])) ?_ (putL_defers ..) go_on)
        exact hob
      · exact absurd hlo no_letsOut
    · rename_i hwant
      rw [if_neg hwant] at hob
      obtain ⟨_, _, hr, hs⟩ := (show OpEnds R S a0.defers w i o .normal ((putL T vs (D.getD i []) a0).put o.dst undef) w from hob)
      refine go_on undef w hr ?_
      cases hd : o.dst with
      | none => rw [resOf, hd] at hs; exact hs
      | some d =>
        rw [resOf, hd] at hs
        have := put_get_eq (putL T vs (D.getD i []) a0) undef d (by rw [putL_size]; exact ok.lt i d hlt (by simp [dstAt, ho, hd]))
        simp only [Array.getD_eq_getD_getElem?, this, Option.getD_some] at hs
        exact hs

/-- A REGION THAT DRAWS ITS ORDER. G: what holds throughout; Pr: what an operation finds (the others leave it so); R: what an operation does to the world; S: what it gives. -/
theorem wp_region_specs2 {id : Nat} (D : List (List Nat)) (T : List (Option Tmp)) (L : List Nat) (G : World → Prop) (Pr : Nat → World → Prop) (R : Nat → World → World → Prop) (S : Nat → Value → World → Prop) (hm : P.follows .mixedOrders = true) (hok : specsOk l a0.tmps.size D T L = true)
    (h0 : G w0.drew) (h1 : ∀ i, Pr i w0.drew) (hG : ∀ j w w', G w → R j w w' → G w') (hPr : ∀ i j w w', i ≠ j → i ∉ D.getD j [] → Pr i w → R j w w' → Pr i w') (hst : ∀ i j v w w', i ≠ j → j ∉ D.getD i [] → S i v w → R j w w' → S i v w')
    (hop : Obls P l T a0 G Pr R S 0 D l)
    (hend : ∀ vs w, G w → DepH S vs w L → Q .normal (putL T vs L a0) w) :
    (Code.region id l.toArray true).wp P Q a0 w0 := by
  obtain ⟨ok, rfl⟩ := specsOk_spec hok
  refine wp_region_any hm ?_
  have hgo := fun i o ho => by have := Obls.get D l 0 hop i o ho; rw [Nat.zero_add] at this; exact this
  refine specs_any ok hG hPr hst hgo (fun vs w hr hs => hend vs w hr ((DepH_iff S vs w _).2 fun j hj => hs j (List.mem_range.1 hj))) _ _ _ _ (fun _ => undef) ⟨List.range l.length, by simp, List.nodup_range, fun i => ?_⟩ ?_
  · simp only [List.mem_range, List.size_toArray]
    constructor
    · intro h; exact ⟨h, by simp [h]⟩
    · exact fun h => h.1
  · refine ⟨by simp, rfl, rfl, h0, fun j hj hjl => h1 j, fun j hj hjl => ?_, fun j d hj hjl => ?_, fun j p hp hjl => ?_, fun t _ => rfl⟩
    · simp [hj] at hjl
    · simp [hj] at hjl
    · have hj := (List.getElem?_eq_some_iff.1 hp).1
      simp [hj] at hjl

/-- The same, one word on the world for all. -/
theorem wp_region_specs {id : Nat} (D : List (List Nat)) (T : List (Option Tmp)) (L : List Nat) (R : World → World → Prop) (S : Nat → Value → World → Prop) (hm : P.follows .mixedOrders = true) (hok : specsOk l a0.tmps.size D T L = true)
    (h0 : R w0 w0.drew) (htr : ∀ a b c, R a b → R b c → R a c) (hst : ∀ i v w w', S i v w → R w w' → S i v w')
    (hop : Obls P l T a0 (R w0) (fun _ _ => True) (fun _ => R) S 0 D l)
    (hend : ∀ vs w, R w0 w → DepH S vs w L → Q .normal (putL T vs L a0) w) :
    (Code.region id l.toArray true).wp P Q a0 w0 :=
  wp_region_specs2 D T L (R w0) (fun _ _ => True) (fun _ => R) S hm hok h0 (fun _ => trivial) (fun _ _ _ h hr => htr _ _ _ h hr) (fun _ _ _ _ _ _ _ _ => trivial) (fun i _ v w w' _ _ h hr => hst i v w w' h hr) hop hend
end

/-- A value that is this one, whatever the world. -/
def eqv (c : Value) : Value → World → Prop := fun v _ => v = c
def anyv : Value → World → Prop := fun _ _ => True
def Stables (R : World → World → Prop) : List (Value → World → Prop) → Prop
  | [] => True
  | F :: l => (∀ v w w', F v w → R w w' → F v w') ∧ Stables R l
theorem Stables.get {R : World → World → Prop} : ∀ {l : List (Value → World → Prop)}, Stables R l → ∀ i v w w', l.getD i anyv v w → R w w' → l.getD i anyv v w'
  | [], _, i, v, w, w', _, _ => by simp [anyv]
  | F :: l, h, 0, v, w, w', h1, h2 => h.1 v w w' h1 h2
  | F :: l, h, i + 1, v, w, w', h1, h2 => by
    have := Stables.get h.2 i v w w' (by simpa using h1) h2
    simpa using this
theorem eqv_st (R : World → World → Prop) (c : Value) : ∀ v w w', eqv c v w → R w w' → eqv c v w' := fun _ _ _ h _ => h

end Go.Proofs.Ytcgioboiebanpaa
