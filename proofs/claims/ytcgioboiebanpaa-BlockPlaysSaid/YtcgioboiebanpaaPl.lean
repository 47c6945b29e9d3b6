/- Plain: what BlockTyped asks. -/
import Derived.Test.YtcgioboiebanpaaPk
namespace Go.Proofs.Ytcgioboiebanpaa
open Go.RowKit
set_option linter.unusedVariables false

/-- The live runes. -/
def liveU (L : List E1) : List Int := (L.filter fun e => !e.2.2).map (·.2.1)
theorem liveU_app (A B : List E1) : liveU (A ++ B) = liveU A ++ liveU B := by simp [liveU]
theorem docText_one : ∀ L : List E1, (∀ e ∈ L, may e.2.1 = true) → docText (L.map one) = encs (liveU L)
  | [], _ => rfl
  | e :: L, h => by
    have h1 := docText_one L (fun x hx => h x (by simp [hx]))
    have h2 := h e (by simp)
    rw [List.map_cons, show docText (one e :: L.map one) = (if e.2.2 = true then [] else textL [e.2.1]) ++ docText (L.map one) by simp [docText, one], h1]
    unfold liveU
    cases hd : e.2.2 with
    | true => simp [hd]
    | false =>
      rw [List.filter_cons_of_pos (by simp [hd])]
      simp only [Bool.false_eq_true, if_false, List.map_cons]
      have : textL [e.2.1] = enc e.2.1 := by
        unfold textL allMay
        simp [h2, encs]
      rw [this]
      simp [encs]
theorem docText_live {rs : List MR} (hm : mayF rs) : docText rs = encs (liveU (flat rs)) := by
  rw [text_flat (mayF_run hm)]
  exact docText_one _ hm
theorem liveU_good {L : List E1} (h : ∀ e ∈ L, may e.2.1 = true) : Good (liveU L) := by
  intro r hr
  unfold liveU at hr
  obtain ⟨e, he, rfl⟩ := List.mem_map.1 hr
  exact h e (List.mem_filter.1 he).1
theorem parse_encs {us : List Int} (h : Good us) : parse (encs us) = (us, []) := by
  have h1 := parse_parsed (encs us)
  have h2 : Parsed (encs us) us [] := ⟨h, by simp, by rfl⟩
  have := h1.unique h2
  exact Prod.ext this.1 this.2
theorem liveU_len (rs : List MR) : (liveU (flat rs)).length = liveM rs := by
  unfold liveU
  rw [List.length_map]
  exact liveF_len rs
/-- What Cut gives of a document's text. -/
theorem cut_text {rs : List MR} (hm : mayF rs) {a b : Nat} (hab : a ≤ b) (hb : b ≤ liveM rs) :
    cutE (docText rs) a b = 0 ∧ cutL (docText rs) a b = encs (((liveU (flat rs)).drop a).take (b - a)) := by
  have hp := parse_encs (liveU_good (L := flat rs) hm)
  have ht : isText (docText rs) = true := by rw [docText_live hm]; unfold isText; rw [hp]; rfl
  have hc : (parse (docText rs)).1 = liveU (flat rs) := by rw [docText_live hm, hp]
  unfold cutE cutL
  rw [ht, hc, liveU_len, if_pos rfl, if_pos rfl, if_pos (by omega), if_pos (by omega)]
  refine ⟨rfl, ?_⟩
  congr 2
  omega
theorem gtK_no {t : Int} {c : List UInt8} {i : Int} {e : E1} (h : e.1.1 < t) : ¬ gtK (t, c, i) e = true := by
  unfold gtK
  rw [decide_eq_true_eq]
  have := keys_cases e.1.1 e.1.2.1 e.1.2.2 t c i
  show ¬ 0 < keysCmp e.1.1 e.1.2.1 e.1.2.2 t c i
  omega
theorem scan_front {k : KV} {X : List E1} : ∀ {L : List E1}, (∀ e ∈ L, ¬ gtK k e = true) → scan k X L = X ++ L
  | [], _ => by simp [scan]
  | e :: L, h => by rw [scan, if_neg (h e (by simp))]
theorem insA_split {a k : KV} {X B : List E1} {e : E1} (he : e.1 = a) (hB : ∀ x ∈ B, ¬ gtK k x = true) : ∀ {A : List E1}, (∀ x ∈ A, x.1 ≠ a) → insA a k X (A ++ e :: B) = A ++ e :: (X ++ B)
  | [], _ => by
    rw [List.nil_append, insA, if_pos he, scan_front hB, List.nil_append]
  | x :: A, h => by
    rw [List.cons_append, insA, if_neg (h x (by simp)), insA_split he hB (fun y hy => h y (by simp [hy])), List.cons_append]
theorem liveU_run (k : KV) (us : List Int) : liveU (elemsR (k, us, false)) = us := by
  unfold liveU elemsR
  simp only
  rw [live_run]
  simp only [Bool.false_eq_true, if_false]
  generalize k.2.2 = i
  induction us generalizing i with
  | nil => rfl
  | cons u us ih => simp only [elemsAt, List.map_cons, ih]
/-- Live elements: where number n stands among all. -/
theorem filter_split {p : E1 → Bool} {e : E1} : ∀ {L : List E1} {n : Nat}, (L.filter p)[n]? = some e → ∃ A B, L = A ++ e :: B ∧ p e = true ∧ (A.filter p).length = n
  | [], n, h => by simp at h
  | x :: L, n, h => by
    by_cases hx : p x = true
    · rw [List.filter_cons_of_pos hx] at h
      cases n with
      | zero =>
        simp only [List.getElem?_cons_zero, Option.some.injEq] at h
        subst h
        exact ⟨[], L, rfl, hx, rfl⟩
      | succ n =>
        rw [List.getElem?_cons_succ] at h
        obtain ⟨A, B, rfl, h1, h2⟩ := filter_split h
        exact ⟨x :: A, B, rfl, h1, by rw [List.filter_cons_of_pos hx, List.length_cons, h2]⟩
    · rw [List.filter_cons_of_neg hx] at h
      obtain ⟨A, B, rfl, h1, h2⟩ := filter_split h
      exact ⟨x :: A, B, rfl, h1, by rw [List.filter_cons_of_neg hx, h2]⟩
/-- A key behind all others is new. -/
theorem fresh_new {rs : List MR} {t : Int} {c : List UInt8} {i n : Int} (h : ∀ r ∈ rs, r.1.1 < t) : freshM rs (t, c, i) n = 0 := by
  unfold freshM
  rw [if_neg]
  intro hh
  obtain ⟨r, hr, hm⟩ := List.any_eq_true.1 hh
  have := h r hr
  unfold meetsM meetsB at hm
  simp only [Bool.and_eq_true, decide_eq_true_eq] at hm
  simp only [asV] at hm
  omega
theorem time_flat {rs : List MR} (h : ∀ r ∈ rs, idxOk r) {t : Int} (ht : ∀ r ∈ rs, r.1.1 < t) : ∀ e ∈ flat rs, e.1.1 < t := by
  intro e he
  obtain ⟨r, hr, he'⟩ := List.mem_flatMap.1 he
  obtain ⟨j, hj, h1, _⟩ := mem_elemsAt he'
  rw [h1]
  exact ht r hr
theorem text_ins {rs : List MR} (h : ∀ r ∈ rs, idxOk r) (hm : mayF rs) {k a : KV} (ha : rng a.2.2) {first : Bool} {s : List UInt8} (h0 : insE rs k a first s = 0) :
    docText (insL rs k a first s) = encs (liveU (insF first a k (elemsR (k, runesL s, false)) (flat rs))) := by
  rw [docText_live (ins_may h ha hm), flat_ins h ha h0]
theorem runes_back {s : List UInt8} (h : isText s = true) : encs (runesL s) = s := by
  unfold runesL
  rw [h, if_pos rfl]
  exact (isText_iff.1 h).symm
theorem insBad_not {s : List UInt8} {t : Int} {c : List UInt8} (h : isText s = true) (h0 : 0 < (runesL s).length) (hl : (runesL s).length ≤ 1000) : insBad s (t, c, 0) = false := by
  unfold insBad
  rw [h]
  simp only [Bool.not_true, Bool.false_or, Bool.or_eq_false_iff, decide_eq_false_iff_not]
  omega
/-- Typed at the beginning. -/
theorem typed_first {rs : List MR} (h : ∀ r ∈ rs, idxOk r) (hm : mayF rs) {t : Int} {c : List UInt8} (ht : ∀ r ∈ rs, r.1.1 < t) {a : KV} (ha : rng a.2.2) {s : List UInt8} (hs : isText s = true) (hp : 0 < (runesL s).length) (hl : (runesL s).length ≤ 1000) :
    insE rs (t, c, 0) a true s = 0 ∧ docText (insL rs (t, c, 0) a true s) = s ++ encs (liveU (flat rs)) := by
  have h0 : insE rs (t, c, 0) a true s = 0 := by
    unfold insE
    rw [insBad_not hs hp hl]
    simp only [Bool.false_eq_true, if_false, if_true]
    exact fresh_new ht
  refine ⟨h0, ?_⟩
  rw [text_ins h hm ha h0]
  unfold insF
  rw [if_pos rfl, scan_front (fun e he => gtK_no (time_flat h ht e he)), liveU_app, liveU_run, encs_append, runes_back hs]
/-- Typed behind a live element. -/
theorem typed_at {rs : List MR} (h : ∀ r ∈ rs, idxOk r) (hm : mayF rs) (hn : ND rs) (hb : liveM rs ≤ 100000) {t : Int} {c : List UInt8} (ht : ∀ r ∈ rs, r.1.1 < t) {n : Nat} (hlt : n < liveM rs) :
    ∃ a, atM rs n = (a, 0) ∧ (∃ e ∈ flat rs, a = e.1) ∧ ∀ {s : List UInt8}, isText s = true → 0 < (runesL s).length → (runesL s).length ≤ 1000 → insE rs (t, c, 0) a false s = 0 ∧ docText (insL rs (t, c, 0) a false s) = encs ((liveU (flat rs)).take (n + 1)) ++ s ++ encs ((liveU (flat rs)).drop (n + 1)) := by
  obtain ⟨e, he, hat⟩ := atM_live h hlt hb
  have hr := key_rng h (live_mem (List.mem_of_getElem? he))
  have htf := time_flat h ht
  have hmem : e ∈ flat rs := live_mem (List.mem_of_getElem? he)
  refine ⟨e.1, hat, ⟨e, hmem, rfl⟩, fun {s} hs hp hl => ?_⟩
  have h0 : insE rs (t, c, 0) e.1 false s = 0 := by
    unfold insE
    rw [insBad_not hs hp hl]
    simp only [Bool.false_eq_true, if_false]
    cases hf : findM rs e.1 with
    | none => exact absurd rfl ((findM_none h hr).1 hf e hmem)
    | some i =>
      have := gtK_no (t := t) (c := c) (i := 0) (htf e hmem)
      unfold gtK at this
      rw [decide_eq_true_eq] at this
      have h3 := keys_cases e.1.1 e.1.2.1 e.1.2.2 t c 0
      have h4 := htf e hmem
      have h5 : ¬ 0 ≤ cmpK e.1 (t, c, 0) := by
        show ¬ 0 ≤ keysCmp e.1.1 e.1.2.1 e.1.2.2 t c 0
        omega
      simp only [if_neg h5]
      exact fresh_new ht
  refine ⟨h0, ?_⟩
  rw [text_ins h hm hr h0]
  obtain ⟨A, B, hAB, hlive, hlen⟩ := filter_split (show ((flat rs).filter fun e => !e.2.2)[n]? = some e from he)
  have hnd : ND rs := hn
  unfold ND at hnd
  rw [hAB, List.map_append, List.map_cons] at hnd
  have hA : ∀ x ∈ A, x.1 ≠ e.1 := by
    intro x hx hxe
    have := (List.nodup_append.1 hnd).2.2 x.1 (List.mem_map_of_mem hx) e.1 (by simp)
    exact this hxe
  have hB : ∀ x ∈ B, ¬ gtK (t, c, 0) x = true := fun x hx => gtK_no (htf x (by rw [hAB]; simp [hx]))
  unfold insF
  simp only [Bool.false_eq_true, if_false]
  rw [hAB, insA_split rfl hB hA]
  have hle : (liveU A).length = n := by unfold liveU; rw [List.length_map]; exact hlen
  have hl1 : liveU [e] = [e.2.1] := by unfold liveU; rw [List.filter_cons_of_pos (p := fun e : E1 => !e.2.2) hlive]; rfl
  have e1 : liveU (A ++ e :: (elemsR ((t, c, 0), runesL s, false) ++ B)) = (liveU A ++ [e.2.1]) ++ runesL s ++ liveU B := by
    rw [show A ++ e :: (elemsR ((t, c, 0), runesL s, false) ++ B) = A ++ [e] ++ elemsR ((t, c, 0), runesL s, false) ++ B by simp, liveU_app, liveU_app, liveU_app, liveU_run, hl1]
  have e2 : liveU (A ++ e :: B) = (liveU A ++ [e.2.1]) ++ liveU B := by
    rw [show A ++ e :: B = A ++ [e] ++ B by simp, liveU_app, liveU_app, hl1]
  have h3 : (liveU A ++ [e.2.1]).length = n + 1 := by rw [List.length_append, hle]; rfl
  rw [e1, e2, List.take_left' h3, List.drop_left' h3, encs_append, encs_append, runes_back hs]
/-- Not a text: nothing is done. -/
theorem typed_bad {rs : List MR} {k a : KV} {first : Bool} {s : List UInt8} (hs : isText s = false) : insE rs k a first s = 1 ∧ insL rs k a first s = rs := by
  have h0 : insE rs k a first s = 1 := by
    unfold insE insBad
    rw [hs]
    simp
  refine ⟨h0, ?_⟩
  unfold insL
  rw [h0]
  simp
/-- All elements have times below some time. -/
def TM (t : Int) (rs : List MR) : Prop := ∀ e ∈ flat rs, e.1.1 < t
theorem ins_tm {rs : List MR} (h : ∀ r ∈ rs, idxOk r) {t : Int} {k a : KV} (ht : k.1 < t) (ha : rng a.2.2) {first : Bool} {s : List UInt8} (hm : TM t rs) : TM t (insL rs k a first s) := by
  by_cases h0 : insE rs k a first s = 0
  · intro e he
    rw [flat_ins h ha h0] at he
    rcases (mem_insF (ins_facts h ha h0).at_).1 he with he | he
    · obtain ⟨j, hj, h1, _, _⟩ := mem_elemsAt he
      rw [h1]
      exact ht
    · exact hm e he
  · unfold insL
    rw [if_neg h0]
    exact hm
theorem del_tm {rs : List MR} (h : ∀ r ∈ rs, idxOk r) {t : Int} {k : KV} (hk : rng k.2.2) {n : Int} (hm : TM t rs) : TM t (delR rs k n) := by
  by_cases h0 : delE rs k n = 0
  · intro e he
    rw [(del_facts h hk.2 h0).2] at he
    obtain ⟨x, hx, rfl⟩ := List.mem_map.1 he
    rw [killK_key]
    exact hm x hx
  · unfold delR delL
    rw [if_neg h0]
    exact hm
theorem act_tm {rs : List MR} (h : ∀ r ∈ rs, idxOk r) {t : Int} {x : AV} (ht : x.2.1.1 < t) (hx : actRng x) (hm : TM t rs) : TM t (actM rs x) := by
  unfold actM
  split
  · exact ins_tm h ht hx.ai hm
  · split
    · exact del_tm h hx.ki hm
    · exact hm
theorem acts_tm {t : Int} : ∀ (l : List AV) (rs : List MR), (∀ r ∈ rs, idxOk r) → (∀ x ∈ l, actRng x) → (∀ x ∈ l, x.2.1.1 < t) → TM t rs → TM t (actsM rs l)
  | [], rs, h, hl, ht, hm => hm
  | x :: l, rs, h, hl, ht, hm => acts_tm l (actM rs x) (actM_facts h x).1 (fun y hy => hl y (by simp [hy])) (fun y hy => ht y (by simp [hy])) (act_tm h (ht x (by simp)) (hl x (by simp)) hm)
theorem tm_runs {rs : List MR} (h : ∀ r ∈ rs, idxOk r) {t : Int} (hm : TM t rs) : ∀ r ∈ rs, r.1.1 < t := by
  intro r hr
  obtain ⟨h0, h1, h2⟩ := h r hr
  have hl : 0 < (elemsR r).length := by rw [elemsR_len]; exact h2
  have h3 := hm (elemsR r)[0] (List.mem_flatMap.2 ⟨r, hr, List.getElem_mem hl⟩)
  rw [(elemsAt_get _ _ _ _ _ _ _ (List.getElem?_eq_getElem hl)).1] at h3
  exact h3
end Go.Proofs.Ytcgioboiebanpaa
