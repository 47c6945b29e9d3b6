/- Plain: two inserts, in either order. -/
import Derived.Test.YtcgioboiebanpaaPb
namespace Go.Proofs.Ytcgioboiebanpaa
open Go.RowKit
set_option linter.unusedVariables false

theorem scan_app {k : KV} {X : List E1} : ∀ {A L : List E1}, (∀ e ∈ A, gtK k e = true) → scan k X (A ++ L) = A ++ scan k X L
  | [], L, h => rfl
  | e :: A, L, h => by
    rw [List.cons_append, scan, if_pos (h e (by simp)), scan_app (fun x hx => h x (by simp [hx])), List.cons_append]
theorem scan_go {k : KV} {X : List E1} {e : E1} {L : List E1} (h : gtK k e = true) : scan k X (e :: L) = e :: scan k X L := by rw [scan, if_pos h]
theorem scan_stop {k : KV} {X : List E1} {e : E1} {L : List E1} (h : ¬ gtK k e = true) : scan k X (e :: L) = X ++ e :: L := by rw [scan, if_neg h]
/-- New elements in a row: the first has the key, the others are behind it. -/
structure Blk (k : KV) (X : List E1) : Prop where
  head : ∃ e Y, X = e :: Y ∧ e.1 = k
  ge : ∀ k', 0 < cmpK k k' → ∀ e ∈ X, gtK k' e = true
theorem blk_run (k : KV) {us : List Int} (h : 0 < us.length) (d : Bool) : Blk k (elemsR (k, us, d)) := by
  obtain ⟨t, c, i⟩ := k
  cases us with
  | nil => simp at h
  | cons u us =>
    refine ⟨⟨_, _, rfl, rfl⟩, fun k' hk e he => ?_⟩
    obtain ⟨j, hj, h1, _⟩ := mem_elemsAt he
    unfold gtK
    rw [h1]
    exact decide_eq_true (cmpK_up (i := i) hk (by simp only; omega))
theorem scan_gt {ka kb : KV} {X Y : List E1} (hX : Blk ka X) (hY : Blk kb Y) (h : 0 < cmpK ka kb) : ∀ L, scan kb Y (scan ka X L) = scan ka X (scan kb Y L) := by
  have hn : ¬ 0 < cmpK kb ka := by have := cmpK_anti ka kb; omega
  obtain ⟨y, Y', hy, hyk⟩ := hY.head
  have hs : ∀ L, scan ka X (Y ++ L) = X ++ (Y ++ L) := fun L => by
    rw [hy, List.cons_append, scan_stop (by unfold gtK; rw [hyk]; simpa using hn)]
  intro L
  induction L with
  | nil =>
    have h1 := scan_app (k := kb) (X := Y) (A := X) (L := []) (hX.ge kb h)
    have h2 := hs []
    simp only [List.append_nil, scan] at h1 h2 ⊢
    rw [h1, h2]
  | cons e L ih =>
    by_cases h1 : gtK ka e = true
    · have h2 : gtK kb e = true := by
        unfold gtK at h1 ⊢
        exact decide_eq_true (cmpK_trans (of_decide_eq_true h1) h)
      rw [scan_go h1, scan_go h2, scan_go h2, scan_go h1, ih]
    · rw [scan_stop h1, scan_app (hX.ge kb h)]
      by_cases h2 : gtK kb e = true
      · rw [scan_go h2, scan_stop h1]
      · rw [scan_stop h2, hs]
theorem scan_comm {ka kb : KV} {X Y : List E1} (hX : Blk ka X) (hY : Blk kb Y) (h : ka ≠ kb) (L : List E1) : scan kb Y (scan ka X L) = scan ka X (scan kb Y L) := by
  by_cases h1 : 0 < cmpK ka kb
  · exact scan_gt hX hY h1 L
  · have h2 : 0 < cmpK kb ka := by
      have := cmpK_anti ka kb
      have h3 : cmpK ka kb ≠ 0 := fun h0 => h (cmpK_eq h0)
      omega
    exact (scan_gt hY hX h2 L).symm
theorem insA_skip {y k : KV} {Y : List E1} : ∀ {X F : List E1}, (∀ e ∈ X, e.1 ≠ y) → insA y k Y (X ++ F) = X ++ insA y k Y F
  | [], F, h => rfl
  | e :: X, F, h => by
    rw [List.cons_append, insA, if_neg (h e (by simp)), insA_skip (fun x hx => h x (by simp [hx])), List.cons_append]
theorem scan_insA {ka kb y : KV} {X Y : List E1} (hX : Blk ka X) (hY : Blk kb Y) (h : ka ≠ kb) (hy : ∀ e ∈ X, e.1 ≠ y) : ∀ F, scan ka X (insA y kb Y F) = insA y kb Y (scan ka X F)
  | [] => by
    have := insA_skip (k := kb) (Y := Y) (F := []) hy
    simp only [List.append_nil, insA] at this
    simp only [insA, scan, this]
  | e :: F => by
    have ih := scan_insA hX hY h hy F
    by_cases h1 : gtK ka e = true
    · rw [scan_go h1, insA, insA, scan_go h1]
      congr 1
      split
      · exact (scan_comm hX hY h F).symm
      · exact ih
    · rw [scan_stop h1, insA_skip hy, insA, scan_stop h1]
theorem insA_insA {ka kb x y : KV} {X Y : List E1} (hX : Blk ka X) (hY : Blk kb Y) (h : ka ≠ kb) (hy : ∀ e ∈ X, e.1 ≠ y) (hx : ∀ e ∈ Y, e.1 ≠ x) : ∀ F, insA x ka X (insA y kb Y F) = insA y kb Y (insA x ka X F)
  | [] => rfl
  | e :: F => by
    have ih := insA_insA hX hY h hy hx F
    rw [insA, insA, insA, insA]
    congr 1
    by_cases h1 : e.1 = x
    · rw [if_pos h1, if_pos h1]
      by_cases h2 : e.1 = y
      · rw [if_pos h2, if_pos h2]
        exact (scan_comm hX hY h F).symm
      · rw [if_neg h2, if_neg h2]
        exact scan_insA hX hY h hy F
    · rw [if_neg h1, if_neg h1]
      by_cases h2 : e.1 = y
      · rw [if_pos h2, if_pos h2]
        exact (scan_insA hY hX (Ne.symm h) hx F).symm
      · rw [if_neg h2, if_neg h2]
        exact ih
theorem insF_insF {ka kb x y : KV} {f g : Bool} {X Y : List E1} (hX : Blk ka X) (hY : Blk kb Y) (h : ka ≠ kb) (hy : g = false → ∀ e ∈ X, e.1 ≠ y) (hx : f = false → ∀ e ∈ Y, e.1 ≠ x) (F : List E1) : insF f x ka X (insF g y kb Y F) = insF g y kb Y (insF f x ka X F) := by
  unfold insF
  cases f with
  | true =>
    cases g with
    | true => exact (scan_comm hX hY h F).symm
    | false => exact scan_insA hX hY h (hy rfl) F
  | false =>
    cases g with
    | true => exact (scan_insA hY hX (Ne.symm h) (hx rfl) F).symm
    | false => exact insA_insA hX hY h (hy rfl) (hx rfl) F
theorem mem_scan {k : KV} {X : List E1} {e : E1} : ∀ {L : List E1}, e ∈ scan k X L ↔ e ∈ X ∨ e ∈ L
  | [] => by simp [scan]
  | a :: L => by
    unfold scan
    split
    · rw [List.mem_cons, mem_scan (L := L), List.mem_cons]
      constructor
      · rintro (h | h | h)
        · exact .inr (.inl h)
        · exact .inl h
        · exact .inr (.inr h)
      · rintro (h | h | h)
        · exact .inr (.inl h)
        · exact .inl h
        · exact .inr (.inr h)
    · rw [List.mem_append]
theorem mem_insA {a k : KV} {X : List E1} {e : E1} : ∀ {F : List E1}, (∃ x ∈ F, x.1 = a) → (e ∈ insA a k X F ↔ e ∈ X ∨ e ∈ F)
  | [], h => by obtain ⟨x, hx, _⟩ := h; simp at hx
  | b :: F, h => by
    unfold insA
    by_cases hb : b.1 = a
    · rw [if_pos hb, List.mem_cons, mem_scan, List.mem_cons]
      constructor
      · rintro (h | h | h)
        · exact .inr (.inl h)
        · exact .inl h
        · exact .inr (.inr h)
      · rintro (h | h | h)
        · exact .inr (.inl h)
        · exact .inl h
        · exact .inr (.inr h)
    · rw [if_neg hb, List.mem_cons, List.mem_cons]
      have hF : ∃ x ∈ F, x.1 = a := by
        obtain ⟨x, hx, hxa⟩ := h
        rcases List.mem_cons.1 hx with rfl | hx
        · exact absurd hxa hb
        · exact ⟨x, hx, hxa⟩
      rw [mem_insA hF]
      constructor
      · rintro (h | h | h)
        · exact .inr (.inl h)
        · exact .inl h
        · exact .inr (.inr h)
      · rintro (h | h | h)
        · exact .inr (.inl h)
        · exact .inl h
        · exact .inr (.inr h)
/-- Whether an element's key is one of n keys from k on. -/
def rngK (k : KV) (n : Int) (e : E1) : Bool := decide (e.1.1 = k.1 ∧ e.1.2.1 = k.2.1 ∧ k.2.2 ≤ e.1.2.2 ∧ e.1.2.2 < k.2.2 + n)
def killK (k : KV) (n : Int) (e : E1) : E1 := if rngK k n e = true then (e.1, e.2.1, true) else e
theorem killK_key (k : KV) (n : Int) (e : E1) : (killK k n e).1 = e.1 := by unfold killK; split <;> rfl
theorem rngK_kill (k k' : KV) (n n' : Int) (e : E1) : rngK k n (killK k' n' e) = rngK k n e := by unfold rngK; rw [killK_key]
theorem kill_kill (k k' : KV) (n n' : Int) (e : E1) : killK k n (killK k' n' e) = killK k' n' (killK k n e) := by
  have h1 := rngK_kill k k' n n' e
  have h2 := rngK_kill k' k n' n e
  generalize hA : killK k' n' e = A at *
  generalize hB : killK k n e = B at *
  unfold killK at hA hB ⊢
  rw [h1, h2]
  subst hA hB
  split <;> split <;> rfl
theorem map_scan {f : E1 → E1} (hf : ∀ e, (f e).1 = e.1) (k : KV) (X : List E1) : ∀ L, (scan k X L).map f = scan k (X.map f) (L.map f)
  | [] => rfl
  | e :: L => by
    have hg : gtK k (f e) = gtK k e := by unfold gtK; rw [hf]
    by_cases h : gtK k e = true
    · rw [scan_go h, List.map_cons, List.map_cons, scan_go (hg ▸ h), map_scan hf k X L]
    · rw [scan_stop h, List.map_append, List.map_cons, scan_stop (hg ▸ h)]
theorem map_insA {f : E1 → E1} (hf : ∀ e, (f e).1 = e.1) (a k : KV) (X : List E1) : ∀ L, (insA a k X L).map f = insA a k (X.map f) (L.map f)
  | [] => rfl
  | e :: L => by
    rw [insA, List.map_cons, List.map_cons, insA, hf, ← map_insA hf a k X L, ← map_scan hf]
    split <;> rfl
theorem map_insF {f : E1 → E1} (hf : ∀ e, (f e).1 = e.1) (g : Bool) (a k : KV) (X L : List E1) : (insF g a k X L).map f = insF g a k (X.map f) (L.map f) := by
  unfold insF
  split
  · exact map_scan hf _ _ _
  · exact map_insA hf _ _ _ _
end Go.Proofs.Ytcgioboiebanpaa
