/- Plain: no key stands twice; the live elements, and which stands at a place. -/
import Derived.Test.YtcgioboiebanpaaPf
namespace Go.Proofs.Ytcgioboiebanpaa
open Go.RowKit
set_option linter.unusedVariables false

theorem scan_perm (k : KV) (X : List E1) : ∀ L, (scan k X L).Perm (X ++ L)
  | [] => by simp [scan]
  | e :: L => by
    by_cases h : gtK k e = true
    · rw [scan_go h]
      exact ((scan_perm k X L).cons e).trans List.perm_middle.symm
    · rw [scan_stop h]
theorem insA_perm (a k : KV) (X : List E1) : ∀ L, (∃ x ∈ L, x.1 = a) → (insA a k X L).Perm (X ++ L)
  | [], h => by obtain ⟨x, hx, _⟩ := h; simp at hx
  | e :: L, h => by
    rw [insA]
    by_cases hb : e.1 = a
    · rw [if_pos hb]
      exact ((scan_perm k X L).cons e).trans List.perm_middle.symm
    · have hF : ∃ x ∈ L, x.1 = a := by
        obtain ⟨x, hx, hxa⟩ := h
        rcases List.mem_cons.1 hx with rfl | hx
        · exact absurd hxa hb
        · exact ⟨x, hx, hxa⟩
      rw [if_neg hb]
      exact ((insA_perm a k X L hF).cons e).trans List.perm_middle.symm
theorem insF_perm {first : Bool} {a k : KV} {X L : List E1} (h : first = false → ∃ x ∈ L, x.1 = a) : (insF first a k X L).Perm (X ++ L) := by
  unfold insF
  cases first with
  | true => exact scan_perm k X L
  | false => exact insA_perm a k X L (h rfl)
/-- No key stands twice. -/
def ND (rs : List MR) : Prop := ((flat rs).map (·.1)).Nodup
theorem elemsAt_nd (t : Int) (c : List UInt8) (d : Bool) : ∀ (us : List Int) (i : Int), ((elemsAt t c d i us).map (·.1)).Nodup
  | [], i => by simp [elemsAt]
  | u :: us, i => by
    rw [elemsAt, List.map_cons, List.nodup_cons]
    refine ⟨fun hm => ?_, elemsAt_nd t c d us (i + 1)⟩
    obtain ⟨e, he, hek⟩ := List.mem_map.1 hm
    obtain ⟨j, hj, h1, _⟩ := mem_elemsAt he
    rw [h1] at hek
    simp only [Prod.mk.injEq, true_and] at hek
    omega
theorem ins_nd {rs : List MR} (h : ∀ r ∈ rs, idxOk r) {k a : KV} (ha : rng a.2.2) {first : Bool} {s : List UInt8} (hn : ND rs) : ND (insL rs k a first s) := by
  by_cases h0 : insE rs k a first s = 0
  · have i1 := ins_facts h ha h0
    unfold ND
    rw [flat_ins h ha h0]
    rw [((insF_perm i1.at_).map (·.1)).nodup_iff, List.map_append, List.nodup_append]
    refine ⟨elemsAt_nd _ _ _ _ _, hn, ?_⟩
    intro x hx y hy hxy
    obtain ⟨e, he, rfl⟩ := List.mem_map.1 hx
    obtain ⟨e', he', rfl⟩ := List.mem_map.1 hy
    have h8 := i1.fresh e' he'
    have h9 := run_rng e he
    unfold rngK at h8 h9
    rw [← hxy, h9] at h8
    cases h8
  · unfold insL
    rw [if_neg h0]
    exact hn
theorem del_nd {rs : List MR} (h : ∀ r ∈ rs, idxOk r) {k : KV} (hk : rng k.2.2) {n : Int} (hn : ND rs) : ND (delR rs k n) := by
  by_cases h0 : delE rs k n = 0
  · unfold ND
    rw [(del_facts h hk.2 h0).2, List.map_map]
    have : (fun e : E1 => e.1) ∘ killK k n = fun e => e.1 := funext fun e => killK_key k n e
    rw [this]
    exact hn
  · unfold delR delL
    rw [if_neg h0]
    exact hn
theorem act_nd {rs : List MR} (h : ∀ r ∈ rs, idxOk r) {x : AV} (hx : actRng x) (hm : ND rs) : ND (actM rs x) := by
  unfold actM
  split
  · exact ins_nd h hx.ai hm
  · split
    · exact del_nd h hx.ki hm
    · exact hm
theorem acts_nd : ∀ (l : List AV) (rs : List MR), (∀ r ∈ rs, idxOk r) → (∀ x ∈ l, actRng x) → ND rs → ND (actsM rs l)
  | [], rs, h, hl, hm => hm
  | x :: l, rs, h, hl, hm => acts_nd l (actM rs x) (actM_facts h x).1 (fun y hy => hl y (by simp [hy])) (act_nd h (hl x (by simp)) hm)
/-- The live elements. -/
def liveF (rs : List MR) : List E1 := (flat rs).filter fun e => !e.2.2
theorem live_run (t : Int) (c : List UInt8) (d : Bool) : ∀ (us : List Int) (i : Int), (elemsAt t c d i us).filter (fun e => !e.2.2) = if d = true then [] else elemsAt t c d i us
  | [], i => by cases d <;> rfl
  | u :: us, i => by
    rw [elemsAt, List.filter_cons, live_run t c d us (i + 1)]
    cases d <;> simp
theorem liveF_cons (r : MR) (rs : List MR) : liveF (r :: rs) = (if r.2.2 = true then [] else elemsR r) ++ liveF rs := by
  unfold liveF
  rw [flat_cons, List.filter_append]
  congr 1
  exact live_run _ _ _ _ _
theorem liveF_len : ∀ rs : List MR, (liveF rs).length = liveM rs
  | [] => rfl
  | r :: rs => by
    rw [liveF_cons, List.length_append, liveF_len rs, liveM_cons]
    split
    · rfl
    · rw [elemsR_len]
end Go.Proofs.Ytcgioboiebanpaa
