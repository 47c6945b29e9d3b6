/- The reference's document and the program's, plain: the same elements; an insert. -/
import Derived.Test.YtcgioboiebanpaaRc
import Derived.Test.YtcgioboiebanpaaPl
namespace Go.Proofs.Ytcgioboiebanpaa
open Go.RowKit
set_option linter.unusedVariables false

def elX (x : Nd) : E1 := (x.1, x.2.2.1, x.2.2.2)
def elN (l : List Nd) (i : Nat) : E1 := elX (l.getD i nd0)
noncomputable def view (l : List Nd) : List E1 := (ordN l).map (elN l)
theorem elN_list (l : List Nd) : (List.range l.length).map (elN l) = l.map elX := by
  apply List.ext_getElem?
  intro i
  by_cases h : i < l.length
  · simp [elN, h]
  · simp [h]
theorem view_perm {l : List Nd} (h : RightL l) : (view l).Perm (l.map elX) := by
  unfold view
  rw [ordN_right h, ← elN_list]
  exact Forest.ord_perm.map _
theorem view_nodup {l : List Nd} (hR : RightL l) : ((view l).map (·.1)).Nodup := by
  have h5 := (view_perm hR).map (·.1)
  refine h5.symm.nodup ?_
  rw [List.map_map]
  unfold List.Nodup
  rw [List.pairwise_iff_getElem]
  intro i j hi hj hij he
  rw [List.length_map] at hi hj
  have h6 := hR.2 i j hij hj
  apply h6
  unfold keyN
  simp only [List.getElem_map, Function.comp, elX] at he
  simp only [List.getD_eq_getElem?_getD, List.getElem?_eq_getElem hi, List.getElem?_eq_getElem hj, Option.getD_some]
  exact he
theorem view_len {l : List Nd} (h : RightL l) : (view l).length = l.length := by rw [(view_perm h).length_eq, List.length_map]
/-- The same elements. -/
structure Alike (l : List Nd) (rs : List MR) : Prop where
  right : RightL l
  same : view l = flat rs
theorem Alike.mem {l : List Nd} {rs : List MR} (h : Alike l rs) {k : KV} : (∃ e ∈ flat rs, e.1 = k) ↔ ∃ x ∈ l, x.1 = k := by
  rw [← h.same]
  constructor
  · rintro ⟨e, he, hk⟩
    obtain ⟨x, hx, rfl⟩ := List.mem_map.1 ((view_perm h.right).mem_iff.1 he)
    exact ⟨x, hx, hk⟩
  · rintro ⟨x, hx, hk⟩
    exact ⟨elX x, (view_perm h.right).mem_iff.2 (List.mem_map_of_mem hx), hk⟩
theorem Alike.len {l : List Nd} {rs : List MR} (h : Alike l rs) : l.length = tot rs := by rw [← view_len h.right, h.same, flat_len]

/-! ### Where a key stands -/
def plN (l : List Nd) (k : KV) : Int := match l.findIdx? (fun x => decide (x.1 = k)) with | some i => (i : Int) | none => -1
theorem plN_hit {l : List Nd} {k : KV} {i : Nat} (hi : i < l.length) (hk : (l.getD i nd0).1 = k) (hj : ∀ j, j < i → (l.getD j nd0).1 ≠ k) : plN l k = i := by
  unfold plN
  have : l.findIdx? (fun x => decide (x.1 = k)) = some i := by
    rw [List.findIdx?_eq_some_iff_getElem]
    refine ⟨hi, ?_, ?_⟩
    · have : l.getD i nd0 = l[i] := by simp [List.getD_eq_getElem?_getD, hi]
      rw [this] at hk
      simp [hk]
    · intro j h
      have h1 := hj j h
      have : l.getD j nd0 = l[j]'(by omega) := by simp [List.getD_eq_getElem?_getD, show j < l.length by omega]
      rw [this] at h1
      simp [h1]
  rw [this]
theorem plN_no {l : List Nd} {k : KV} (h : ∀ x ∈ l, x.1 ≠ k) : plN l k = -1 := by
  unfold plN
  rw [List.findIdx?_eq_none_iff.2 (fun x hx => by simp [h x hx])]
theorem plN_cases (l : List Nd) (k : KV) : (plN l k = -1 ∧ ∀ x ∈ l, x.1 ≠ k) ∨ ∃ i, i < l.length ∧ plN l k = (i : Int) ∧ (l.getD i nd0).1 = k := by
  unfold plN
  cases hf : l.findIdx? (fun x => decide (x.1 = k)) with
  | none => exact .inl ⟨rfl, fun x hx => by have := List.findIdx?_eq_none_iff.1 hf x hx; simpa using this⟩
  | some i =>
    rw [List.findIdx?_eq_some_iff_getElem] at hf
    obtain ⟨h1, h2, _⟩ := hf
    refine .inr ⟨i, h1, rfl, ?_⟩
    have : l.getD i nd0 = l[i] := by simp [List.getD_eq_getElem?_getD, h1]
    rw [this]
    simpa using h2

/-! ### One element more -/
theorem getD_left {l m : List Nd} {i : Nat} (h : i < l.length) : (l ++ m).getD i nd0 = l.getD i nd0 := by
  simp [List.getD_eq_getElem?_getD, List.getElem?_append_left h]
theorem getD_last {l : List Nd} {x : Nd} : (l ++ [x]).getD l.length nd0 = x := by simp [List.getD_eq_getElem?_getD]
theorem right_snoc {l : List Nd} {x : Nd} (h : RightL l) (hm : may x.2.2.1 = true) (hp : x.2.1 = -1 ∨ ∃ q : Nat, q < l.length ∧ x.2.1 = q ∧ cmpK (l.getD q nd0).1 x.1 < 0) (hn : ∀ y ∈ l, y.1 ≠ x.1) : RightL (l ++ [x]) := by
  refine ⟨?_, ?_⟩
  · intro i hi
    rw [List.length_append, List.length_singleton] at hi
    unfold okN runeN parN keyN
    by_cases hil : i < l.length
    · obtain ⟨h1, h2, h3, h4⟩ := h.1 i hil
      simp only [runeN, parN, keyN] at h1 h2 h3 h4
      rw [getD_left hil]
      refine ⟨h1, h2, by rw [List.length_append]; omega, fun h0 => ?_⟩
      have h5 := h4 h0
      rw [getD_left (by omega)]
      exact h5
    · obtain rfl : i = l.length := by omega
      rw [getD_last]
      rcases hp with hp | ⟨q, h1, h2, h3⟩
      · exact ⟨hm, by omega, by rw [List.length_append]; simp; omega, fun h0 => by omega⟩
      · refine ⟨hm, by omega, by rw [List.length_append]; simp; omega, fun _ => ?_⟩
        rw [h2, Int.toNat_natCast, getD_left h1]
        exact h3
  · intro i j hij hj
    rw [List.length_append, List.length_singleton] at hj
    unfold keyN
    rw [getD_left (by omega)]
    by_cases hjl : j < l.length
    · rw [getD_left hjl]
      exact h.2 i j hij hjl
    · obtain rfl : j = l.length := by omega
      rw [getD_last]
      refine hn _ ?_
      have hi : i < l.length := hij
      simp [List.getD_eq_getElem?_getD, hi]
theorem grow_snoc {l : List Nd} {x : Nd} (h : RightL l) (h' : RightL (l ++ [x])) : Forest.Grow (forest l) (forest (l ++ [x])) ((forest (l ++ [x])).par l.length) where
  ok := h.ok
  ok' := h'.ok
  n := by simp [forest]
  par i hi := by
    have hi : i < l.length := hi
    simp only [forest, parN, getD_left hi]
    rfl
  kc i j hi hj := by
    have hi : i < l.length := hi
    have hj : j < l.length := hj
    simp only [forest, keyN, getD_left hi, getD_left hj]
  new := rfl
theorem elN_left {l : List Nd} {x : Nd} {O : List Nat} (h : ∀ i ∈ O, i < l.length) : O.map (elN (l ++ [x])) = O.map (elN l) :=
  List.map_congr_left fun i hi => by unfold elN; rw [getD_left (h i hi)]
theorem scan_map {l : List Nd} {x : Nd} (B : List Nat) :
    (B.takeWhile (fun j => decide (0 < (forest (l ++ [x])).kc j (forest l).n)) ++ (forest l).n :: B.dropWhile (fun j => decide (0 < (forest (l ++ [x])).kc j (forest l).n))).map (elN (l ++ [x])) = scan x.1 [elX x] (B.map (elN (l ++ [x]))) := by
  have hp : (fun j => decide (0 < (forest (l ++ [x])).kc j (forest l).n)) = gtK x.1 ∘ elN (l ++ [x]) := by
    funext j
    simp only [forest, Function.comp, gtK, elN, elX, keyN, getD_last]
    rfl
  have hx : elN (l ++ [x]) (forest l).n = elX x := by unfold elN; rw [show (forest l).n = l.length from rfl, getD_last]
  rw [hp, scan_eq, List.map_append, List.map_cons, hx, List.takeWhile_map, List.dropWhile_map, List.append_assoc]
  rfl
theorem view_root {l : List Nd} {x : Nd} (h : RightL l) (h' : RightL (l ++ [x])) (hp : x.2.1 = -1) : view (l ++ [x]) = scan x.1 [elX x] (view l) := by
  have g := grow_snoc h h'
  have hpar : (forest (l ++ [x])).par l.length = none := by
    simp only [forest, parN, getD_last]
    rw [if_pos (by omega)]
  rw [hpar] at g
  have := g.ord (A := []) (B := (forest l).ord) (.inl ⟨rfl, rfl⟩) rfl
  unfold view
  rw [ordN_right h', this, List.nil_append, scan_map, ordN_right h, elN_left (fun i hi => Forest.ord_mem.1 hi)]
theorem view_at {l : List Nd} {x : Nd} (h : RightL l) (h' : RightL (l ++ [x])) {q : Nat} (hq : q < l.length) (hp : x.2.1 = q) {A B : List E1} (hv : view l = A ++ elN l q :: B) : view (l ++ [x]) = A ++ elN l q :: scan x.1 [elX x] B := by
  have g := grow_snoc h h'
  have hpar : (forest (l ++ [x])).par l.length = some q := by
    simp only [forest, parN, getD_last]
    rw [if_neg (by omega), hp, Int.toNat_natCast]
  rw [hpar] at g
  unfold view at hv
  rw [ordN_right h] at hv
  obtain ⟨O1, O2, ho, h1, h2⟩ := List.map_eq_append_iff.1 hv
  obtain ⟨q', O3, h3, h4, h5⟩ := List.map_eq_cons_iff.1 h2
  subst h3
  have hlt : ∀ i ∈ O1 ++ q' :: O3, i < l.length := fun i hi => Forest.ord_mem.1 (by rw [ho]; exact hi)
  have hqq : q' = q := by
    have hq' := hlt q' (by simp)
    have hk : keyN l q' = keyN l q := congrArg (fun e : E1 => e.1) h4
    rcases Nat.lt_trichotomy q' q with hl | hl | hl
    · exact absurd hk (h.2 q' q hl hq)
    · exact hl
    · exact absurd hk.symm (h.2 q q' hl hq')
  subst hqq
  have := g.ord (A := O1 ++ [q']) (B := O3) (.inr ⟨q', O1, rfl, rfl⟩) (by rw [ho]; simp)
  unfold view
  have e1 : O1.map (elN (l ++ [x])) = O1.map (elN l) := elN_left fun i hi => hlt i (List.mem_append_left _ hi)
  have e2 : O3.map (elN (l ++ [x])) = O3.map (elN l) := elN_left fun i hi => hlt i (List.mem_append_right _ (List.mem_cons_of_mem _ hi))
  have e3 : [q'].map (elN (l ++ [x])) = [elN l q'] := by
    rw [elN_left (O := [q']) (fun i hi => by rw [List.mem_singleton] at hi; subst hi; exact hq)]
    rfl
  rw [ordN_right h', this, List.map_append, scan_map, List.map_append, e1, e2, e3, h1, h5]
  simp

/-! ### A row of elements, each one the next one's parent -/
def chainN (t : Int) (c : List UInt8) : Int → Nat → Int → List Int → List Nd
  | _, _, _, [] => []
  | p, n, i, u :: us => ((t, c, i), p, u, false) :: chainN t c n (n + 1) (i + 1) us
theorem chainN_len (t : Int) (c : List UInt8) : ∀ (us : List Int) (p : Int) (n : Nat) (i : Int), (chainN t c p n i us).length = us.length
  | [], _, _, _ => rfl
  | u :: us, p, n, i => by rw [chainN, List.length_cons, chainN_len t c us, List.length_cons]
theorem chainN_snoc (t : Int) (c : List UInt8) : ∀ (us : List Int) (u : Int) (p : Int) (n : Nat) (i : Int), chainN t c p n i (us ++ [u]) = chainN t c p n i us ++ [((t, c, i + us.length), (if us = [] then p else ((n + us.length - 1 : Nat) : Int)), u, false)]
  | [], u, p, n, i => by simp [chainN]
  | v :: us, u, p, n, i => by
    rw [List.cons_append, chainN, chainN_snoc t c us u n (n + 1) (i + 1), chainN, List.cons_append]
    congr 2
    simp only [List.length_cons, List.cons.injEq, Prod.mk.injEq, true_and, and_true, List.cons_ne_nil, if_false]
    refine ⟨by omega, ?_⟩
    split
    · rename_i h; subst h; simp
    · congr 1; omega
theorem gtK_up {t : Int} {c : List UInt8} {i : Int} {e : E1} (h : ¬ gtK (t, c, i) e = true) : ¬ gtK (t, c, i + 1) e = true := by
  unfold gtK at h ⊢
  rw [decide_eq_true_eq] at h ⊢
  have h1 := keys_cases e.1.1 e.1.2.1 e.1.2.2 t c i
  have h2 := keys_cases e.1.1 e.1.2.1 e.1.2.2 t c (i + 1)
  have h3 := keysCmp_eq e.1.1 e.1.2.1 e.1.2.2 t c i
  have h4 := keysCmp_eq e.1.1 e.1.2.1 e.1.2.2 t c (i + 1)
  have e1 : cmpK e.1 (t, c, i) = keysCmp e.1.1 e.1.2.1 e.1.2.2 t c i := rfl
  have e2 : cmpK e.1 (t, c, i + 1) = keysCmp e.1.1 e.1.2.1 e.1.2.2 t c (i + 1) := rfl
  rw [e1, h3] at h
  rw [e2, h4]
  repeat' split at h
  all_goals (repeat' split)
  all_goals omega
def headNo (k : KV) (B : List E1) : Prop := ∀ e, B.head? = some e → ¬ gtK k e = true
theorem scan_halt {k : KV} {X B : List E1} (h : headNo k B) : scan k X B = X ++ B := by
  cases B with
  | nil => simp [scan]
  | cons e B => rw [scan, if_neg (h e rfl)]
theorem headNo_drop (k : KV) (B : List E1) : headNo k (B.dropWhile (gtK k)) := by
  intro e he
  have h1 := List.head?_dropWhile_not (p := gtK k) B
  rw [he] at h1
  simpa using h1
/-- The row's rest, right behind. -/
theorem view_chain (t : Int) (c : List UInt8) : ∀ (us : List Int) (i : Int) (l : List Nd) (q : Nat) (A B : List E1), RightL l → q < l.length → cmpK (l.getD q nd0).1 (t, c, i) < 0 → (∀ u ∈ us, may u = true) → (∀ y ∈ l, ∀ j : Nat, j < us.length → y.1 ≠ (t, c, i + j)) →
    view l = A ++ elN l q :: B → headNo (t, c, i) B → RightL (l ++ chainN t c q l.length i us) ∧ view (l ++ chainN t c q l.length i us) = A ++ elN l q :: (elemsAt t c false i us ++ B)
  | [], i, l, q, A, B, hR, hq, hk, hm, hn, hv, hb => by simpa [chainN, elemsAt] using ⟨hR, hv⟩
  | u :: us, i, l, q, A, B, hR, hq, hk, hm, hn, hv, hb => by
    obtain ⟨x, hx⟩ : ∃ x : Nd, x = ((t, c, i), (q : Int), u, false) := ⟨_, rfl⟩
    have hn0 : ∀ y ∈ l, y.1 ≠ (t, c, i) := fun y hy => by have := hn y hy 0 (by simp); simpa using this
    have hR' : RightL (l ++ [x]) := right_snoc hR (by rw [hx]; exact hm u (by simp)) (.inr ⟨q, hq, by rw [hx], by rw [hx]; exact hk⟩) (by rw [hx]; exact hn0)
    have hv' := view_at hR hR' hq (by rw [hx]) hv
    rw [show x.1 = (t, c, i) by rw [hx], scan_halt hb] at hv'
    have hnew : elN (l ++ [x]) l.length = elX x := by unfold elN; rw [getD_last]
    have hlt : cmpK (t, c, i) (t, c, i + 1) < 0 := by
      have := keysCmp_eq t c i t c (i + 1)
      show keysCmp t c i t c (i + 1) < 0
      rw [this]
      have hc : cmpB c c = 0 := (cmpB_zero c c).2 rfl
      rw [if_neg (by omega), if_neg (by omega), if_neg (by rw [hc]; simp), if_pos (by omega)]
      decide
    have ih := view_chain t c us (i + 1) (l ++ [x]) l.length (A ++ [elN l q]) B hR' (by simp) (by rw [getD_last, hx]; exact hlt) (fun v hv => hm v (by simp [hv])) (by
      intro y hy j hj
      rcases List.mem_append.1 hy with hy | hy
      · have := hn y hy (j + 1) (by simp; omega)
        rw [show i + 1 + (j : Int) = i + ((j + 1 : Nat) : Int) by omega]
        exact this
      · rw [List.mem_singleton] at hy
        subst hy
        rw [hx]
        intro he
        have : i = i + 1 + (j : Int) := congrArg (fun k : KV => k.2.2) he
        omega) (by rw [hv', hnew]; simp) (fun e he => gtK_up (hb e he))
    have hch : l ++ chainN t c q l.length i (u :: us) = (l ++ [x]) ++ chainN t c l.length (l ++ [x]).length (i + 1) us := by
      rw [chainN, hx]; simp
    rw [hch]
    refine ⟨ih.1, ?_⟩
    rw [ih.2, hnew, elemsAt, hx]
    simp [elX]
theorem insA_mid {a k : KV} {X B : List E1} {e : E1} (he : e.1 = a) : ∀ {A : List E1}, (∀ x ∈ A, x.1 ≠ a) → insA a k X (A ++ e :: B) = A ++ e :: scan k X B
  | [], _ => by rw [List.nil_append, insA, if_pos he, List.nil_append]
  | x :: A, h => by rw [List.cons_append, insA, if_neg (h x (by simp)), insA_mid he (fun y hy => h y (by simp [hy])), List.cons_append]
/-- An insert, on both sides. -/
theorem view_ins {l : List Nd} (hR : RightL l) {t : Int} {c : List UInt8} {i : Int} {us : List Int} {first : Bool} {a : KV} (hu : 0 < us.length) (hm : ∀ u ∈ us, may u = true) (hn : ∀ y ∈ l, ∀ j : Nat, j < us.length → y.1 ≠ (t, c, i + j))
    (ha : first = false → (∃ x ∈ l, x.1 = a) ∧ cmpK a (t, c, i) < 0) :
    RightL (l ++ chainN t c (if first then -1 else plN l a) l.length i us) ∧ view (l ++ chainN t c (if first then -1 else plN l a) l.length i us) = insF first a (t, c, i) (elemsAt t c false i us) (view l) := by
  cases us with
  | nil => simp at hu
  | cons u us =>
  obtain ⟨p, hp⟩ : ∃ p, p = (if first then -1 else plN l a) := ⟨_, rfl⟩
  rw [← hp]
  obtain ⟨x, hx⟩ : ∃ x : Nd, x = ((t, c, i), p, u, false) := ⟨_, rfl⟩
  have hn0 : ∀ y ∈ l, y.1 ≠ (t, c, i) := fun y hy => by have := hn y hy 0 (by simp); simpa using this
  have hch : l ++ chainN t c p l.length i (u :: us) = (l ++ [x]) ++ chainN t c l.length (l ++ [x]).length (i + 1) us := by
    rw [chainN, hx]; simp
  have hnew : elN (l ++ [x]) l.length = elX x := by unfold elN; rw [getD_last]
  have hlt : cmpK (t, c, i) (t, c, i + 1) < 0 := by
    have := keysCmp_eq t c i t c (i + 1)
    show keysCmp t c i t c (i + 1) < 0
    rw [this]
    have hc : cmpB c c = 0 := (cmpB_zero c c).2 rfl
    rw [if_neg (by omega), if_neg (by omega), if_neg (by rw [hc]; simp), if_pos (by omega)]
    decide
  have hnx : ∀ y ∈ l ++ [x], ∀ j : Nat, j < us.length → y.1 ≠ (t, c, i + 1 + j) := by
    intro y hy j hj
    rcases List.mem_append.1 hy with hy | hy
    · have := hn y hy (j + 1) (by simp; omega)
      rw [show i + 1 + (j : Int) = i + ((j + 1 : Nat) : Int) by omega]
      exact this
    · rw [List.mem_singleton] at hy
      subst hy
      rw [hx]
      intro he
      have : i = i + 1 + (j : Int) := congrArg (fun k : KV => k.2.2) he
      omega
  have fin : ∀ A B : List E1, RightL (l ++ [x]) → view (l ++ [x]) = A ++ scan (t, c, i) [elX x] B → RightL (l ++ chainN t c p l.length i (u :: us)) ∧ view (l ++ chainN t c p l.length i (u :: us)) = A ++ scan (t, c, i) (elemsAt t c false i (u :: us)) B := by
    intro A B hR' hv'
    have ih := view_chain t c us (i + 1) (l ++ [x]) l.length (A ++ B.takeWhile (gtK (t, c, i))) (B.dropWhile (gtK (t, c, i))) hR' (by simp) (by rw [getD_last, hx]; exact hlt) (fun v hv => hm v (by simp [hv])) hnx
      (by rw [hv', hnew, scan_eq]; simp) (fun e he => gtK_up (headNo_drop _ _ e he))
    rw [hch]
    refine ⟨ih.1, ?_⟩
    rw [ih.2, hnew, scan_eq, elemsAt, hx]
    simp [elX]
  cases first with
  | true =>
    rw [if_pos rfl] at hp
    have hR' : RightL (l ++ [x]) := right_snoc hR (by rw [hx]; exact hm u (by simp)) (.inl (by rw [hx]; exact hp)) (by rw [hx]; exact hn0)
    have hv' := view_root hR hR' (by rw [hx]; exact hp)
    rw [show x.1 = (t, c, i) by rw [hx]] at hv'
    have := fin [] (view l) hR' hv'
    simpa [insF] using this
  | false =>
    simp only [Bool.false_eq_true, if_false] at hp
    obtain ⟨⟨y, hy, hya⟩, hlt2⟩ := ha rfl
    rcases plN_cases l a with ⟨_, h2⟩ | ⟨q, h1, h2, h3⟩
    · exact absurd hya (h2 y hy)
    · have hpq : p = (q : Int) := by rw [hp]; exact h2
      have hR' : RightL (l ++ [x]) := right_snoc hR (by rw [hx]; exact hm u (by simp)) (.inr ⟨q, h1, by rw [hx]; exact hpq, by rw [hx, h3]; exact hlt2⟩) (by rw [hx]; exact hn0)
      have hmem : elN l q ∈ view l := by
        unfold view
        exact List.mem_map_of_mem (by rw [ordN_right hR]; exact Forest.ord_mem.2 h1)
      obtain ⟨A, B, hAB⟩ := List.append_of_mem hmem
      have hv' := view_at hR hR' h1 (by rw [hx]; exact hpq) hAB
      rw [show x.1 = (t, c, i) by rw [hx], show A ++ elN l q :: scan (t, c, i) [elX x] B = (A ++ [elN l q]) ++ scan (t, c, i) [elX x] B by simp] at hv'
      have := fin (A ++ [elN l q]) B hR' hv'
      refine ⟨this.1, ?_⟩
      rw [this.2, hAB]
      unfold insF
      rw [if_neg (by simp), insA_mid (show (elN l q).1 = a from h3)]
      · simp
      · -- no other element bears the key
        intro z hz hza
        have hnd := view_nodup hR
        rw [hAB, List.map_append, List.map_cons] at hnd
        exact (List.nodup_append.1 hnd).2.2 z.1 (List.mem_map_of_mem hz) (elN l q).1 (by simp) (by rw [hza]; exact h3.symm)
end Go.Proofs.Ytcgioboiebanpaa

namespace Go.Proofs.Ytcgioboiebanpaa
open Go.RowKit
set_option linter.unusedVariables false

/-- Does an element of a row stand there already? -/
def hitN (l : List Nd) (k : KV) (n : Nat) : Bool := (List.range n).any fun j => decide (0 ≤ plN l (k.1, k.2.1, k.2.2 + (j : Int)))
def rinsE (l : List Nd) (k a : KV) (first : Bool) (s : List UInt8) : Int :=
  if insBad s k = true then 1 else if first = false ∧ plN l a < 0 then 12 else if first = false ∧ 0 ≤ cmpK a k then 21 else if hitN l k (runesL s).length = true then 11 else 0
def rinsL (l : List Nd) (k a : KV) (first : Bool) (s : List UInt8) : List Nd :=
  if rinsE l k a first s = 0 then l ++ chainN k.1 k.2.1 (if first then -1 else plN l a) l.length k.2.2 (runesL s) else l
theorem plN_neg {l : List Nd} {k : KV} : plN l k < 0 ↔ ∀ x ∈ l, x.1 ≠ k := by
  rcases plN_cases l k with ⟨h1, h2⟩ | ⟨i, h1, h2, h3⟩
  · rw [h1]; exact ⟨fun _ => h2, fun _ => by omega⟩
  · rw [h2]
    constructor
    · intro h; omega
    · intro h
      refine absurd h3 (h _ ?_)
      simp [List.getD_eq_getElem?_getD, h1]
theorem Alike.neg {l : List Nd} {rs : List MR} (h : Alike l rs) {k : KV} : plN l k < 0 ↔ ∀ e ∈ flat rs, e.1 ≠ k := by
  rw [plN_neg]
  constructor
  · intro g e he hk
    obtain ⟨x, hx, hxk⟩ := h.mem.1 ⟨e, he, hk⟩
    exact g x hx hxk
  · intro g x hx hk
    obtain ⟨e, he, hek⟩ := h.mem.2 ⟨x, hx, hk⟩
    exact g e he hek
theorem rng_key {k : KV} {n : Nat} {e : E1} : rngK k n e = true ↔ ∃ j : Nat, j < n ∧ e.1 = (k.1, k.2.1, k.2.2 + (j : Int)) := by
  obtain ⟨⟨t, c, i⟩, u, d⟩ := e
  obtain ⟨kt, kc, ki⟩ := k
  rw [rng_iff]
  simp only
  constructor
  · rintro ⟨rfl, rfl, h1, h2⟩
    exact ⟨(i - ki).toNat, by omega, by rw [show ki + ((i - ki).toNat : Int) = i by omega]⟩
  · rintro ⟨j, hj, he⟩
    injection he with e1 he
    injection he with e2 e3
    exact ⟨e1, e2, by omega, by omega⟩
theorem hit_iff {l : List Nd} {rs : List MR} (h : Alike l rs) (k : KV) (n : Nat) : hitN l k n = true ↔ ∃ e ∈ flat rs, rngK k n e = true := by
  unfold hitN
  rw [List.any_eq_true]
  constructor
  · rintro ⟨j, hj, hd⟩
    have h0 := of_decide_eq_true hd
    have : ∃ e ∈ flat rs, e.1 = (k.1, k.2.1, k.2.2 + (j : Int)) := by
      refine Classical.byContradiction fun hn => ?_
      have := h.neg (k := (k.1, k.2.1, k.2.2 + (j : Int))) |>.2 (fun e he hk => hn ⟨e, he, hk⟩)
      omega
    obtain ⟨e, he, hk⟩ := this
    exact ⟨e, he, rng_key.2 ⟨j, List.mem_range.1 hj, hk⟩⟩
  · rintro ⟨e, he, hr⟩
    obtain ⟨j, hj, hk⟩ := rng_key.1 hr
    refine ⟨j, List.mem_range.2 hj, decide_eq_true ?_⟩
    have : ¬ plN l (k.1, k.2.1, k.2.2 + (j : Int)) < 0 := fun hn => h.neg.1 hn e he hk
    omega
theorem fresh_is_hit {l : List Nd} {rs : List MR} (h : Alike l rs) (hx : ∀ r ∈ rs, idxOk r) {k : KV} {n : Nat} (hn : 1 ≤ n ∧ n ≤ 2147483648) (hk : 0 ≤ k.2.2 ∧ k.2.2 ≤ 9223372036854775807) : freshM rs k n = if hitN l k n = true then 11 else 0 := by
  have key : (rs.any (fun r => meetsM r k n)) = true ↔ hitN l k n = true := by
    rw [hit_iff h, List.any_eq_true]
    constructor
    · rintro ⟨r, hr, hm⟩
      have hr' := hx r hr
      obtain ⟨m1, m2, m3, m4⟩ := (meets_iff hr' ⟨by omega, by omega⟩ hk).1 hm
      obtain ⟨q0, q1, q2⟩ := hr'
      obtain ⟨j, hj⟩ : ∃ j : Nat, r.1.2.2 + j = max r.1.2.2 k.2.2 := ⟨(max r.1.2.2 k.2.2 - r.1.2.2).toNat, by omega⟩
      have hjl : j < (elemsR r).length := by rw [elemsR_len]; omega
      refine ⟨(elemsR r)[j], List.mem_flatMap.2 ⟨r, hr, List.getElem_mem hjl⟩, ?_⟩
      have e1 := (elemsAt_get _ _ _ _ _ _ _ (List.getElem?_eq_getElem hjl)).1
      rw [rng_key]
      refine ⟨(r.1.2.2 + j - k.2.2).toNat, by omega, ?_⟩
      rw [show (elemsR r)[j].1 = (r.1.1, r.1.2.1, r.1.2.2 + (j : Nat)) from e1, m1, m2]
      congr 2
      omega
    · rintro ⟨e, he, hr⟩
      obtain ⟨r, hrr, he'⟩ := List.mem_flatMap.1 he
      refine ⟨r, hrr, ?_⟩
      refine Classical.byContradiction fun hm => ?_
      rw [meets_no (hx r hrr) ⟨by omega, by omega⟩ hk hm e he'] at hr
      cases hr
  unfold freshM
  by_cases hh : hitN l k n = true
  · rw [if_pos (key.2 hh), if_pos hh]
  · rw [if_neg (fun g => hh (key.1 g)), if_neg hh]
theorem rinsE_eq {l : List Nd} {rs : List MR} (h : Alike l rs) (hx : ∀ r ∈ rs, idxOk r) {k a : KV} (ha : rng a.2.2) (first : Bool) (s : List UInt8) : rinsE l k a first s = insE rs k a first s := by
  unfold rinsE insE
  by_cases hb : insBad s k = true
  · rw [if_pos hb, if_pos hb]
  rw [if_neg hb, if_neg hb]
  obtain ⟨g1, g2, g3, g4⟩ := insBad_ok (by simpa using hb)
  have hf := fresh_is_hit h hx (k := k) (n := (runesL s).length) ⟨by omega, by omega⟩ ⟨g3, by omega⟩
  cases first with
  | true =>
    rw [if_neg (fun g => by cases g.1), if_neg (fun g => by cases g.1), if_pos rfl, hf]
  | false =>
    rw [if_neg (show ¬ false = true by simp)]
    have hn : findM rs a = none ↔ plN l a < 0 := by rw [findM_none hx ha, h.neg]
    cases hm : findM rs a with
    | none => rw [if_pos ⟨rfl, hn.1 hm⟩]
    | some i =>
      have : ¬ plN l a < 0 := fun g => by rw [hn.2 g] at hm; cases hm
      rw [if_neg (fun g => this g.2)]
      simp only [true_and]
      split
      · rfl
      · exact hf.symm
theorem ins_alike {l : List Nd} {rs : List MR} (h : Alike l rs) (hx : ∀ r ∈ rs, idxOk r) {k a : KV} (ha : rng a.2.2) (first : Bool) (s : List UInt8) : Alike (rinsL l k a first s) (insL rs k a first s) := by
  by_cases h0 : insE rs k a first s = 0
  · have h0' : rinsE l k a first s = 0 := by rw [rinsE_eq h hx ha]; exact h0
    have hok := ins_facts hx ha h0
    have e1 := flat_ins hx ha h0
    have hlt : first = false → cmpK a k < 0 := by
      rintro rfl
      unfold rinsE at h0'
      split at h0'
      · cases h0'
      · split at h0'
        · cases h0'
        · split at h0'
          · cases h0'
          · rename_i h3
            simp only [true_and] at h3
            omega
    obtain ⟨t, c, i⟩ := k
    have := view_ins h.right (t := t) (c := c) (i := i) (us := runesL s) (first := first) (a := a) hok.pos (runesL_may s) (by
      intro y hy j hj he
      obtain ⟨e, hem, hek⟩ := h.mem.2 ⟨y, hy, he⟩
      have h5 := hok.fresh e hem
      rw [rng_key.2 ⟨j, hj, hek⟩] at h5
      cases h5) (fun hf => ⟨by
      obtain ⟨e, he, hek⟩ := hok.at_ hf
      exact h.mem.1 ⟨e, he, hek⟩, hlt hf⟩)
    unfold rinsL
    rw [if_pos h0']
    exact ⟨this.1, by rw [this.2, e1, h.same]; rfl⟩
  · have h0' : ¬ rinsE l k a first s = 0 := by rw [rinsE_eq h hx ha]; exact h0
    unfold rinsL insL
    rw [if_neg h0, if_neg h0']
    exact h
theorem rinsL_len (l : List Nd) (k a : KV) (first : Bool) (s : List UInt8) : (rinsL l k a first s).length ≤ l.length + s.length := by
  unfold rinsL
  split
  · rw [List.length_append, chainN_len]
    have := runesL_len s
    omega
  · omega

/-! ### Deletions -/
def killX (k : KV) (n : Int) (x : Nd) : Nd := if rngK k n (elX x) = true then (x.1, x.2.1, x.2.2.1, true) else x
def killN (k : KV) (n : Int) (l : List Nd) : List Nd := l.map (killX k n)
def rdelE (l : List Nd) (k : KV) (n : Int) : Int :=
  if n < 1 then 1 else if (l.length : Int) < n ∨ k.2.2 < 0 ∨ 2147483647 < k.2.2 then 12 else if (List.range n.toNat).all (fun j => decide (0 ≤ plN l (k.1, k.2.1, k.2.2 + (j : Int)))) = true then 0 else 12
def rdelL (l : List Nd) (k : KV) (n : Int) : List Nd := if rdelE l k n = 0 then killN k n l else l
theorem killX_key (k : KV) (n : Int) (x : Nd) : (killX k n x).1 = x.1 := by unfold killX; split <;> rfl
theorem killX_par (k : KV) (n : Int) (x : Nd) : (killX k n x).2.1 = x.2.1 := by unfold killX; split <;> rfl
theorem killX_rune (k : KV) (n : Int) (x : Nd) : (killX k n x).2.2.1 = x.2.2.1 := by unfold killX; split <;> rfl
theorem killX_el (k : KV) (n : Int) (x : Nd) : elX (killX k n x) = killK k n (elX x) := by unfold killX killK; split <;> rfl
theorem killN_len (k : KV) (n : Int) (l : List Nd) : (killN k n l).length = l.length := List.length_map _
theorem killN_at (k : KV) (n : Int) (l : List Nd) {i : Nat} (h : i < l.length) : (killN k n l).getD i nd0 = killX k n (l.getD i nd0) := by
  unfold killN; simp [List.getD_eq_getElem?_getD, h]
theorem kill_right {k : KV} {n : Int} {l : List Nd} (h : RightL l) : RightL (killN k n l) := by
  refine ⟨fun i hi => ?_, fun i j hij hj => ?_⟩
  · rw [killN_len] at hi
    obtain ⟨h1, h2, h3, h4⟩ := h.1 i hi
    unfold okN
    simp only [runeN, parN, keyN] at h1 h2 h3 h4 ⊢
    rw [killN_at k n l hi, killX_rune, killX_par, killX_key, killN_len]
    refine ⟨h1, h2, h3, fun h0 => ?_⟩
    rw [killN_at k n l (by omega), killX_key]
    exact h4 h0
  · rw [killN_len] at hj
    unfold keyN
    rw [killN_at k n l (by omega), killN_at k n l hj, killX_key, killX_key]
    exact h.2 i j hij hj
theorem kill_forest {k : KV} {n : Int} {l : List Nd} : ∀ i, (killN k n l).getD i nd0 = killX k n (l.getD i nd0) ∨ l.length ≤ i := by
  intro i
  by_cases h : i < l.length
  · exact .inl (killN_at k n l h)
  · exact .inr (by omega)
theorem kill_par {k : KV} {n : Int} {l : List Nd} (i : Nat) : parN (killN k n l) i = parN l i ∧ keyN (killN k n l) i = keyN l i := by
  unfold parN keyN
  by_cases h : i < l.length
  · rw [killN_at k n l h, killX_par, killX_key]; exact ⟨rfl, rfl⟩
  · have h1 : (killN k n l).getD i nd0 = nd0 := by rw [List.getD_eq_getElem?_getD, List.getElem?_eq_none (by rw [killN_len]; omega)]; rfl
    have h2 : l.getD i nd0 = nd0 := by rw [List.getD_eq_getElem?_getD, List.getElem?_eq_none (by omega)]; rfl
    rw [h1, h2]; exact ⟨rfl, rfl⟩
theorem kill_same {k : KV} {n : Int} {l : List Nd} : forest (killN k n l) = forest l := by
  unfold forest
  rw [killN_len]
  congr 1
  · funext i; rw [(kill_par i).1]
  · funext i j; rw [(kill_par i).2, (kill_par j).2]
theorem kill_view {k : KV} {n : Int} {l : List Nd} (h : RightL l) : view (killN k n l) = (view l).map (killK k n) := by
  unfold view
  rw [ordN_right h, ordN_right (kill_right h), kill_same, List.map_map]
  refine List.map_congr_left fun i hi => ?_
  have hi : i < l.length := Forest.ord_mem.1 hi
  unfold elN
  simp only [Function.comp]
  rw [killN_at k n l hi, killX_el]
theorem countP_or {α : Type} {p q r : α → Bool} (h : ∀ x, p x = true ↔ q x = true ∨ r x = true) (hd : ∀ x, ¬ (q x = true ∧ r x = true)) : ∀ l : List α, l.countP p = l.countP q + l.countP r
  | [] => rfl
  | x :: l => by
    rw [List.countP_cons, List.countP_cons, List.countP_cons, countP_or h hd l]
    have h1 := h x
    have h2 := hd x
    by_cases hq : q x = true
    · have hp := h1.2 (.inl hq)
      have hr : ¬ r x = true := fun g => h2 ⟨hq, g⟩
      rw [if_pos hq, if_pos hp, if_neg hr]; omega
    · by_cases hr : r x = true
      · have hp := h1.2 (.inr hr)
        rw [if_neg hq, if_pos hp, if_pos hr]; omega
      · have hp : ¬ p x = true := fun g => (h1.1 g).elim hq hr
        rw [if_neg hq, if_neg hp, if_neg hr]; omega
theorem cnt_keys {L : List E1} (hn : (L.map (·.1)).Nodup) (k : KV) : ∀ n : Nat, L.countP (rngK k n) ≤ n ∧ (L.countP (rngK k n) = n ↔ ∀ j : Nat, j < n → ∃ e ∈ L, e.1 = (k.1, k.2.1, k.2.2 + (j : Int)))
  | 0 => by
    have : L.countP (rngK k (0 : Nat)) = 0 := List.countP_eq_zero.2 fun e he hr => by
      obtain ⟨j, hj, _⟩ := rng_key.1 hr
      omega
    rw [this]
    exact ⟨Nat.le_refl _, fun _ j hj => by omega, fun _ => rfl⟩
  | n + 1 => by
    obtain ⟨ih1, ih2⟩ := cnt_keys hn k n
    obtain ⟨q, hq⟩ : ∃ q : KV, q = (k.1, k.2.1, k.2.2 + (n : Int)) := ⟨_, rfl⟩
    have hs : L.countP (rngK k (n + 1 : Nat)) = L.countP (rngK k n) + L.countP (fun e => e.1 == q) := by
      refine countP_or (fun e => ?_) (fun e => ?_) L
      · rw [rng_key, rng_key, beq_iff_eq, hq]
        constructor
        · rintro ⟨j, hj, he⟩
          by_cases h : j < n
          · exact .inl ⟨j, h, he⟩
          · obtain rfl : j = n := by omega
            exact .inr he
        · rintro (⟨j, hj, he⟩ | he)
          · exact ⟨j, by omega, he⟩
          · exact ⟨n, by omega, he⟩
      · rw [rng_key, beq_iff_eq, hq]
        rintro ⟨⟨j, hj, he⟩, he'⟩
        rw [he] at he'
        injection he' with _ h1
        injection h1 with _ h1
        omega
    have hc : L.countP (fun e => e.1 == q) = (L.map (·.1)).count q := by
      unfold List.count
      rw [List.countP_map]
      rfl
    have h1 := List.nodup_iff_count.1 hn q
    rw [hs, hc]
    refine ⟨by omega, ?_⟩
    constructor
    · intro h j hj
      have hpos : 0 < (L.map (·.1)).count q := by omega
      by_cases hjn : j < n
      · exact ih2.1 (by omega) j hjn
      · obtain rfl : j = n := by omega
        obtain ⟨e, he, hek⟩ := List.mem_map.1 (List.count_pos_iff.1 hpos)
        exact ⟨e, he, by rw [hek, hq]⟩
    · intro h
      have h2 := ih2.2 fun j hj => h j (by omega)
      obtain ⟨e, he, hek⟩ := h n (by omega)
      have : 0 < (L.map (·.1)).count q := List.count_pos_iff.2 (List.mem_map.2 ⟨e, he, by rw [hek, hq]⟩)
      omega
theorem Alike.nd {l : List Nd} {rs : List MR} (h : Alike l rs) : ND rs := by unfold ND; rw [← h.same]; exact view_nodup h.right
theorem rdelE_eq {l : List Nd} {rs : List MR} (h : Alike l rs) (hx : ∀ r ∈ rs, idxOk r) (hl : l.length ≤ 1000000) {k : KV} (hk : rng k.2.2) (n : Int) : rdelE l k n = delE rs k n := by
  unfold rdelE delE
  by_cases h1 : n < 1
  · rw [if_pos h1, if_pos h1]
  rw [if_neg h1, if_neg h1]
  have hle : ∀ m : Int, ((flat rs).countP (rngK k m) : Int) ≤ l.length := fun m => by
    have := List.countP_le_length (p := rngK k m) (l := flat rs)
    rw [flat_len, ← h.len] at this
    omega
  by_cases h2 : (l.length : Int) < n ∨ k.2.2 < 0 ∨ 2147483647 < k.2.2
  · rw [if_pos h2, if_neg]
    intro hf
    by_cases hc : n ≤ 2147483647 ∧ 0 ≤ k.2.2
    · rw [cnt_doc ⟨by omega, hc.1⟩ ⟨hc.2, hk.2⟩ hx] at hf
      have h3 := hle n
      rcases h2 with h2 | h2 | h2
      · omega
      · omega
      · have : (flat rs).countP (rngK k n) = 0 := List.countP_eq_zero.2 fun e he hr => by
          obtain ⟨r, hr', he'⟩ := List.mem_flatMap.1 he
          obtain ⟨j, hj, h4, _⟩ := mem_elemsAt he'
          obtain ⟨q0, q1, q2⟩ := hx r hr'
          obtain ⟨⟨t, c, i⟩, u, d⟩ := e
          rw [rng_iff] at hr
          have : i = r.1.2.2 + j := congrArg (fun k : KV => k.2.2) h4
          omega
        omega
    · rw [found_none hc rs] at hf
      omega
  · rw [if_neg h2]
    obtain ⟨m, rfl⟩ : ∃ m : Nat, n = m := ⟨n.toNat, by omega⟩
    rw [cnt_doc ⟨by omega, by omega⟩ ⟨by omega, hk.2⟩ hx, Int.toNat_natCast]
    have hc := (cnt_keys (L := flat rs) h.nd k m).2
    have e1 : (List.range m).all (fun j => decide (0 ≤ plN l (k.1, k.2.1, k.2.2 + (j : Int)))) = true ↔ (((flat rs).countP (rngK k m) : Nat) : Int) = m := by
      rw [show ((((flat rs).countP (rngK k m) : Nat) : Int) = m) ↔ (flat rs).countP (rngK k m) = m by omega, hc, List.all_eq_true]
      constructor
      · intro g j hj
        have h3 := of_decide_eq_true (g j (List.mem_range.2 hj))
        refine Classical.byContradiction fun hn => ?_
        have := h.neg (k := (k.1, k.2.1, k.2.2 + (j : Int))) |>.2 (fun e he hk => hn ⟨e, he, hk⟩)
        omega
      · intro g j hj
        obtain ⟨e, he, hek⟩ := g j (List.mem_range.1 hj)
        refine decide_eq_true ?_
        have : ¬ plN l (k.1, k.2.1, k.2.2 + (j : Int)) < 0 := fun hn => h.neg.1 hn e he hek
        omega
    by_cases hh : (((flat rs).countP (rngK k m) : Nat) : Int) = m
    · rw [if_pos (e1.2 hh), if_pos hh]
    · rw [if_neg (fun g => hh (e1.1 g)), if_neg hh]
theorem del_alike {l : List Nd} {rs : List MR} (h : Alike l rs) (hx : ∀ r ∈ rs, idxOk r) (hl : l.length ≤ 1000000) {k : KV} (hk : rng k.2.2) (n : Int) : Alike (rdelL l k n) (delR rs k n) := by
  by_cases h0 : delE rs k n = 0
  · have h0' : rdelE l k n = 0 := by rw [rdelE_eq h hx hl hk]; exact h0
    unfold rdelL
    rw [if_pos h0']
    exact ⟨kill_right h.right, by rw [kill_view h.right, h.same, (del_facts hx hk.2 h0).2]⟩
  · have h0' : ¬ rdelE l k n = 0 := by rw [rdelE_eq h hx hl hk]; exact h0
    unfold rdelL delR delL
    rw [if_neg h0', if_neg h0]
    exact h
theorem rdelL_len (l : List Nd) (k : KV) (n : Int) : (rdelL l k n).length = l.length := by unfold rdelL; split; exact killN_len _ _ _; rfl
theorem killX_succ (k : KV) (j : Nat) (x : Nd) : killX k ((j + 1 : Nat) : Int) x = if x.1 = (k.1, k.2.1, k.2.2 + (j : Int)) then (x.1, x.2.1, x.2.2.1, true) else killX k (j : Int) x := by
  unfold killX
  have e1 : rngK k ((j + 1 : Nat) : Int) (elX x) = true ↔ (x.1 = (k.1, k.2.1, k.2.2 + (j : Int)) ∨ rngK k (j : Int) (elX x) = true) := by
    rw [rng_key, rng_key]
    show (∃ i, i < j + 1 ∧ x.1 = _) ↔ _ ∨ ∃ i, i < j ∧ x.1 = _
    constructor
    · rintro ⟨i, hi, he⟩
      by_cases h : i < j
      · exact .inr ⟨i, h, he⟩
      · obtain rfl : i = j := by omega
        exact .inl he
    · rintro (he | ⟨i, hi, he⟩)
      · exact ⟨j, by omega, he⟩
      · exact ⟨i, by omega, he⟩
  by_cases h1 : x.1 = (k.1, k.2.1, k.2.2 + (j : Int))
  · rw [if_pos h1, if_pos (e1.2 (.inl h1))]
  · rw [if_neg h1]
    by_cases h2 : rngK k (j : Int) (elX x) = true
    · rw [if_pos (e1.2 (.inr h2)), if_pos h2]
    · rw [if_neg (fun g => (e1.1 g).elim h1 h2), if_neg h2]
theorem killN_zero (k : KV) (l : List Nd) : killN k ((0 : Nat) : Int) l = l := by
  unfold killN
  have : ∀ x : Nd, killX k ((0 : Nat) : Int) x = x := fun x => by
    unfold killX
    rw [if_neg]
    intro h
    obtain ⟨j, hj, _⟩ := rng_key.1 h
    omega
  rw [List.map_congr_left (fun x _ => this x), List.map_id']
/-- One element killed. -/
def deadX (x : Nd) : Nd := (x.1, x.2.1, x.2.2.1, true)
theorem killN_succ {k : KV} {l : List Nd} (hR : RightL l) {j p : Nat} (hp : p < l.length) (hk : (l.getD p nd0).1 = (k.1, k.2.1, k.2.2 + (j : Int))) :
    killN k ((j + 1 : Nat) : Int) l = (killN k (j : Int) l).set p (deadX ((killN k (j : Int) l).getD p nd0)) := by
  apply List.ext_getElem?
  intro i
  rw [List.getElem?_set]
  by_cases hi : i < l.length
  · have e1 : (killN k ((j + 1 : Nat) : Int) l)[i]? = some (killX k ((j + 1 : Nat) : Int) (l.getD i nd0)) := by
      rw [← killN_at k _ l hi, List.getD_eq_getElem?_getD, List.getElem?_eq_getElem (by rw [killN_len]; exact hi)]; rfl
    have e2 : (killN k (j : Int) l)[i]? = some (killX k (j : Int) (l.getD i nd0)) := by
      rw [← killN_at k _ l hi, List.getD_eq_getElem?_getD, List.getElem?_eq_getElem (by rw [killN_len]; exact hi)]; rfl
    rw [e1, killX_succ]
    by_cases hpi : p = i
    · subst hpi
      rw [if_pos hk, if_pos rfl, if_pos (by rw [killN_len]; exact hp), killN_at k _ l hp]
      unfold deadX
      rw [killX_key, killX_par, killX_rune]
    · rw [if_neg hpi, e2, if_neg]
      intro he
      rw [← hk] at he
      rcases Nat.lt_trichotomy i p with h | h | h
      · exact hR.2 i p h hp he
      · exact hpi h.symm
      · exact hR.2 p i h hi he.symm
  · rw [List.getElem?_eq_none (by rw [killN_len]; omega)]
    by_cases hpi : p = i
    · omega
    · rw [if_neg hpi, List.getElem?_eq_none (by rw [killN_len]; omega)]

/-! ### Live ones, At, Find, Pieces, Text -/
noncomputable def liveNd (l : List Nd) : List Nd := ((ordN l).filter fun i => !deadN l i).map fun i => l.getD i nd0
theorem liveNd_el (l : List Nd) : (liveNd l).map elX = (view l).filter fun e => !e.2.2 := by
  unfold liveNd view
  rw [List.map_map, List.filter_map]
  rfl
theorem Alike.live {l : List Nd} {rs : List MR} (h : Alike l rs) : (liveNd l).map elX = liveF rs := by rw [liveNd_el, h.same]; rfl
theorem Alike.liveLen {l : List Nd} {rs : List MR} (h : Alike l rs) : (liveNd l).length = liveM rs := by
  rw [← liveF_len, ← h.live, List.length_map]
def rAt (L : List Nd) (n : Int) : KV × Int := if n < 0 ∨ (L.length : Int) ≤ n then (kNil, 4) else ((L.getD n.toNat nd0).1, 0)
theorem livesM_out : ∀ (rs : List MR) (n : Nat) (x : Int), rng x → x < n ∨ ((n + liveM rs : Nat) : Int) ≤ x → n + liveM rs ≤ 100000 → (livesM n rs).find? (fun p => atH p x) = none
  | [], n, x, hr, hx, hb => rfl
  | r :: rs, n, x, hr, hx, hb => by
    rw [liveM_cons] at hb hx
    rw [livesM]
    by_cases hd : r.2.2 = true
    · rw [if_pos hd] at hb hx ⊢
      exact livesM_out rs n x hr (by omega) (by omega)
    · rw [if_neg hd] at hb hx ⊢
      rw [List.find?_cons]
      have ha : atH (n, r) x = false := by
        unfold atH
        simp only
        rcases hx with hx | hx
        · rw [decide_eq_false (by omega : ¬ (n : Int) ≤ x), Bool.false_and]
        · obtain ⟨r1, r2⟩ := hr
          rw [wrap64_id (x := x - (n : Int)) (by omega) (by omega), decide_eq_false (by omega : ¬ x - (n : Int) < r.2.1.length), Bool.and_false]
      rw [ha]
      exact livesM_out rs (n + r.2.1.length) x hr (by omega) (by omega)
theorem rAt_eq {l : List Nd} {rs : List MR} (h : Alike l rs) (hx : ∀ r ∈ rs, idxOk r) (hb : liveM rs ≤ 100000) {n : Int} (hn : rng n) : rAt (liveNd l) n = atM rs n := by
  unfold rAt
  rw [h.liveLen]
  by_cases ho : n < 0 ∨ (liveM rs : Int) ≤ n
  · rw [if_pos ho]
    have := livesM_out rs 0 n hn (by omega) (by omega)
    unfold atM
    rw [this]
    rfl
  · rw [if_neg ho]
    obtain ⟨m, rfl⟩ : ∃ m : Nat, n = m := ⟨n.toNat, by omega⟩
    obtain ⟨e, he, hat⟩ := atM_live hx (m := m) (by omega) hb
    rw [hat, Int.toNat_natCast]
    rw [← h.live, List.getElem?_map] at he
    have hm : m < (liveNd l).length := by rw [h.liveLen]; omega
    rw [List.getElem?_eq_getElem hm] at he
    simp only [Option.map_some, Option.some.injEq] at he
    rw [← he]
    simp [List.getD_eq_getElem?_getD, hm, elX]
/-- Find, over elements. -/
def findL (k : KV) : Int → List E1 → Int × Bool × Int
  | _, [] => (0, false, 12)
  | n, e :: L => if e.1 = k then (n, !e.2.2, 0) else findL k (if e.2.2 = true then n else n + 1) L
theorem findL_run {k : KV} (t : Int) (c : List UInt8) (d : Bool) (L : List E1) : ∀ (us : List Int) (i n : Int), findL k n (elemsAt t c d i us ++ L) =
    if k.1 = t ∧ k.2.1 = c ∧ i ≤ k.2.2 ∧ k.2.2 < i + us.length then ((if d = true then n else n + (k.2.2 - i)), !d, 0) else findL k (if d = true then n else n + us.length) L
  | [], i, n => by
    rw [elemsAt, List.nil_append, if_neg (fun g => by have h1 := g.2.2.1; have h2 := g.2.2.2; simp only [List.length_nil] at h2; omega)]
    cases d <;> simp
  | u :: us, i, n => by
    rw [elemsAt, List.cons_append, findL, findL_run t c d L us (i + 1)]
    simp only [List.length_cons]
    obtain ⟨kt, kc, ki⟩ := k
    simp only
    by_cases h0 : (t, c, i) = (kt, kc, ki)
    · injection h0 with e1 h0
      injection h0 with e2 e3
      subst e1 e2 e3
      have c1 : t = t ∧ c = c ∧ i ≤ i ∧ i < i + ((us.length + 1 : Nat) : Int) := ⟨rfl, rfl, by omega, by omega⟩
      rw [if_pos rfl, if_pos c1]
      cases d <;> simp
    · rw [if_neg h0]
      by_cases h1 : kt = t ∧ kc = c ∧ i ≤ ki ∧ ki < i + ((us.length + 1 : Nat) : Int)
      · have hne : i ≠ ki := fun he => h0 (by rw [he, h1.1, h1.2.1])
        have c1 : kt = t ∧ kc = c ∧ i + 1 ≤ ki ∧ ki < i + 1 + (us.length : Int) := ⟨h1.1, h1.2.1, by omega, by omega⟩
        rw [if_pos c1, if_pos h1]
        cases d
        · simp; omega
        · simp
      · have c1 : ¬ (kt = t ∧ kc = c ∧ i + 1 ≤ ki ∧ ki < i + 1 + (us.length : Int)) := fun g => h1 ⟨g.1, g.2.1, by omega, by omega⟩
        rw [if_neg c1, if_neg h1]
        cases d
        · simp only [Bool.false_eq_true, if_false]; congr 1; omega
        · simp
theorem findL_eq : ∀ (rs : List MR) (k : KV) (n : Int), (∀ r ∈ rs, idxOk r) → rng k.2.2 → findL k n (flat rs) = match findM rs k with
    | some i => if (rs.getD i ((0, [], 0), [], false)).2.2 = true then (n + liveM (rs.take i), false, 0) else (n + liveM (rs.take i) + offM (rs.getD i ((0, [], 0), [], false)) k, true, 0)
    | none => (0, false, 12)
  | [], k, n, h, hk => rfl
  | r :: rs, k, n, h, hk => by
    have hr := h r (by simp)
    rw [flat_cons, findM_cons, show elemsR r = elemsAt r.1.1 r.1.2.1 r.2.2 r.1.2.2 r.2.1 from rfl, findL_run]
    have hh := heldM_iff hr hk
    by_cases hm : heldM r k = true
    · rw [if_pos hm, if_pos (by have := hh.1 hm; exact ⟨this.1.symm, this.2.1.symm, this.2.2.1, this.2.2.2⟩)]
      simp only [List.getD_cons_zero, List.take_zero]
      rw [offM_eq hr hk hm]
      cases hd : r.2.2 <;> simp [liveM]
    · rw [if_neg hm, if_neg (fun g => hm (hh.2 ⟨g.1.symm, g.2.1.symm, g.2.2.1, g.2.2.2⟩)), findL_eq rs k _ (fun x hx => h x (by simp [hx])) hk]
      cases hf : findM rs k with
      | none => rfl
      | some i =>
        simp only [Option.map_some, List.getD_cons_succ, List.take_succ_cons]
        rw [liveM_cons]
        cases hd : r.2.2
        · simp only [Bool.false_eq_true, if_false]
          have e1 : n + (r.2.1.length : Int) + (liveM (rs.take i) : Int) = n + ((r.2.1.length + liveM (rs.take i) : Nat) : Int) := by omega
          rw [e1]
        · simp
noncomputable def rFind (l : List Nd) (k : KV) : Int × Bool × Int := findL k 0 (view l)
theorem rFind_eq {l : List Nd} {rs : List MR} (h : Alike l rs) (hx : ∀ r ∈ rs, idxOk r) {k : KV} (hk : rng k.2.2) : rFind l k = FindM rs k := by
  unfold rFind FindM
  rw [h.same, findL_eq rs k 0 hx hk]
  cases findM rs k with
  | none => rfl
  | some i => simp
noncomputable def rPieces (l : List Nd) : List PV := (pgo ((view l).map one)).1
theorem rPieces_eq {l : List Nd} {rs : List MR} (h : Alike l rs) (hx : ∀ r ∈ rs, idxOk r) (hm : mayF rs) : rPieces l = piecesM rs := by
  unfold rPieces
  rw [h.same, pieces_flat hx hm]
  rfl
theorem refL_view (l : List Nd) : refL l = liveU (view l) := by
  unfold refL liveU view
  rw [List.filter_map, List.map_map]
  rfl
theorem rText_eq {l : List Nd} {rs : List MR} (h : Alike l rs) (hm : mayF rs) : encs (refL l) = docText rs := by rw [docText_live hm, refL_view, h.same]
end Go.Proofs.Ytcgioboiebanpaa
