/- light. -/
import Derived.Test.YtmmmimkikakalaaMm
namespace Go.Proofs.Ytmmmimkikakalaa
open Go.RowKit Go.Maps
set_option linter.unusedVariables false

/-- What light says. -/
def lightG (L : List GN) : Bool := decide (L.length ≤ 16) && L.all fun g => decide (g.2.1.length ≤ 10)

set_option maxHeartbeats 2000000 in
set_option maxRecDepth 100000 in
theorem light_any (p : Option Addr) (c : Nat) (L : List GN) (w : World) (hG : RefG w p L) :
    Calls Try.prog 9 #[.slice p L.length c] w fun e w' => e = .returned (.bool (lightG L)) ∧ Below w.heap.size w w' := by
  have HX := Lib.hid hG
  clear hG
  go_enter Try.func9, Try.ntmps9
  by_cases hlen : 16 < L.length
  · have HE := Lib.hid (show lightG L = false by unfold lightG; rw [decide_eq_false (by omega)]; rfl)
    have i0 : (16 : Int) < L.length := by omega
    go_wp2
    go_ret
    exact ⟨ret_bool HE.out.symm, Below.refl _ _⟩
  have HLE := Lib.hid hlen
  have i0 : ¬ (16 : Int) < L.length := by omega
  go_wp2_with fail
  go_loopg [3] L.length (fun g v wr => ∃ k : Nat, g + k = L.length ∧ v = .int .i64 k ∧ (∀ j g, L[j]? = some g → j < k → g.2.1.length ≤ 10) ∧ Below w.heap.size w wr)
  case atStart => exact ⟨0, by omega, rfl, fun j _ _ hj => by omega, Below.refl _ _⟩
  case round =>
    obtain ⟨k, hg, rfl, hall, hbw⟩ := hrel
    have HG := Lib.hid hg
    have HA := Lib.hid hall
    have HB := Lib.hid hbw
    clear hg hall hbw
    by_cases hk : k < L.length
    · have HK := Lib.hid hk
      obtain ⟨b, off, a, c', y, ps, st, rfl, hlt, hget, h32, hat, hsl⟩ := (HX.out.below HB.out).at hk
      have HGT := Lib.hid hget
      clear hget
      have i1 : (k : Int) < L.length := by omega
      have e1 := hat.p
      have q9 : b < wr.heap.size := hlt
      simp only at e1
      clear hat hsl
      by_cases hp : 10 < ps.length
      · have i2 : (10 : Int) < ps.length := by omega
        have HE := Lib.hid (show lightG L = false by
          unfold lightG
          rw [Bool.and_eq_false_iff]
          right
          rw [List.all_eq_false]
          exact ⟨_, List.mem_of_getElem? HGT.out, by simp; omega⟩)
        go_wp2
        go_ret
        exact ⟨ret_bool HE.out.symm, HB.out⟩
      · have i2 : ¬ (10 : Int) < ps.length := by omega
        have HP := Lib.hid hp
        go_wp2
        go_roundg (gk - 1)
        case measure => have := HG.out; have := HK.out; omega
        case rel => exact ⟨k + 1, by have := HG.out; have := HK.out; omega, by go_num, fun j g h hj => by rcases Nat.lt_succ_iff_lt_or_eq.1 hj with h' | rfl; exact HA.out j g h h'; rw [HGT.out] at h; cases h; exact Nat.le_of_not_lt HP.out, HB.out⟩
    · have HE := Lib.hid (show lightG L = true by
        unfold lightG
        rw [decide_eq_true (show L.length ≤ 16 from by have := HLE.out; omega), Bool.true_and, List.all_eq_true]
        intro g hg
        obtain ⟨j, hj, rfl⟩ := List.getElem_of_mem hg
        exact decide_eq_true (HA.out j _ (List.getElem?_eq_getElem hj) (by have := HG.out; omega)))
      go_wp2
      go_ret
      exact ⟨ret_bool HE.out.symm, HB.out⟩
end Go.Proofs.Ytmmmimkikakalaa

namespace Go.Proofs.Ytmmmimkikakalaa
open Go.RowKit Go.Maps
set_option linter.unusedVariables false

theorem rnIn_map {w w' : World} {mb n : Nat} {D : DataW Unit} {p : Option Addr} {rs : List RN} (ho : w.ownsMap Try.prog 24 nodR mb n D) (hg : w.grownBy w' (some mb)) (h : rnR.In w p rs) : rnR.In w' p rs := by
  refine ⟨h.1, ?_⟩
  rcases h.2 with h | ⟨b, off, he, hlt, hc⟩
  · exact .inl h
  · refine .inr ⟨b, off, he, Nat.lt_of_lt_of_le hlt hg.size, fun i y hi => ?_⟩
    obtain ⟨f1, f2⟩ := hc i y hi
    have hne : some b ≠ some mb := fun hh => by
      cases hh
      obtain ⟨es, clock, hb, _⟩ := ho
      obtain ⟨_, cc, e, fr, hcc, _⟩ := f1
      rw [hb] at hcc
      cases hcc
    have e := hg.block b hlt hne
    exact ⟨fits_of_block (a := ⟨b, off + i * rnR.sz, none⟩) e f1, (aggAt_of_block (a := ⟨b, off + i * rnR.sz, none⟩) e).trans f2⟩
theorem refG_map {w w' : World} {mb n : Nat} {D : DataW Unit} {p : Option Addr} {G : List GN} (ho : w.ownsMap Try.prog 24 nodR mb n D) (hg : w.grownBy w' (some mb)) (h : RefG w p G) : RefG w' p G := by
  obtain ⟨rs, h1, h2, h3⟩ := h
  refine ⟨rs, h1, rnIn_map ho hg h2, fun i hi => ?_⟩
  obtain ⟨r, a1, a2, a3, a4, a5⟩ := h3 i hi
  exact ⟨r, a1, a2, a3, a4, slI_map ho hg a5⟩
/-- Node after node, till one is refused by one side and not by the other: they agree, so all are tried; those that err are left out. -/
def builtG (L : List GN) : List GN := L.foldl (fun G g => addG G g.1 g.2.1 g.2.2) []
theorem builtG_snoc (L : List GN) (g : GN) : builtG (L ++ [g]) = addG (builtG L) g.1 g.2.1 g.2.2 := by unfold builtG; rw [List.foldl_append]; rfl
theorem addG_len (G : List GN) (x : List UInt8) (ps : List (List UInt8)) (st : Int) : (addG G x ps st).length ≤ G.length + 1 := by
  unfold addG; split <;> simp
theorem builtG_take (L : List GN) {k : Nat} {g : GN} (h : L[k]? = some g) : builtG (L.take (k + 1)) = addG (builtG (L.take k)) g.1 g.2.1 g.2.2 := by
  rw [List.take_add_one, h, Option.toList_some, builtG_snoc]
theorem builtG_len : ∀ (L : List GN) (k : Nat), (builtG (L.take k)).length ≤ k
  | L, 0 => by simp [builtG]
  | L, k + 1 => by
    cases h : L[k]? with
    | none =>
      rw [List.take_add_one, h, Option.toList_none, List.append_nil]
      have := builtG_len L k; omega
    | some g =>
      rw [builtG_take L h]
      have := builtG_len L k
      have := addG_len (builtG (L.take k)) g.1 g.2.1 g.2.2
      omega
end Go.Proofs.Ytmmmimkikakalaa
