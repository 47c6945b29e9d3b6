/- The reference's Copy: rows in memory of their own. -/
import Derived.Test.YtkapidcgonjbaaaPj
import Derived.Test.YtkapidcgonjbaaaSs
namespace Go.Proofs.Ytkapidcgonjbaaa
open Go.RowKit
open Go.Sort hiding Below
set_option linter.unusedVariables false

theorem hdr29 : hdrR.Ty Try.prog 29 30 24 := ⟨Try.underlying29, by kernel_rfl, by kernel_rfl, by decide⟩
/-- Each header's row is a row of its own. -/
def OwnRows (base : Nat) (hs : List (Option Addr × Nat × Nat)) (rows : List (List Nat)) (w : World) : Prop :=
  ∀ (i : Nat) (h : Option Addr × Nat × Nat) (r : List Nat), hs[i]? = some h → rows[i]? = some r → fltR.row 23 base r (.slice h.1 h.2.1 h.2.2) w
theorem OwnRows.below {base : Nat} {hs : List (Option Addr × Nat × Nat)} {rows : List (List Nat)} {w w' : World} (h : OwnRows base hs rows w) (hb : Below w.heap.size w w') : OwnRows base hs rows w' :=
  fun i hd r h1 h2 => (h i hd r h1 h2).below hb
theorem own_ne {w : World} {b b' : Nat} {r : List Nat} {hs : List (Option Addr × Nat × Nat)} {v v' : Value} (h : fltR.row 23 b r v w) (h' : hdrR.row 30 b' hs v' w) : v.ownBlock = none ∨ v.ownBlock ≠ v'.ownBlock := by
  obtain ⟨_, _, ⟨rfl, _⟩ | ⟨g, cap, cur, rfl, hg, hh, _⟩⟩ := h
  · exact .inl rfl
  · right
    obtain ⟨_, _, ⟨rfl, _⟩ | ⟨g', cap', cur', rfl, hg', hh', _⟩⟩ := h'
    · intro e; cases e
    · intro e
      simp only [Value.ownBlock, Option.some.injEq] at e
      subst e
      rw [hh] at hh'
      injection hh' with h1
      injection h1 with _ h2
      cases h2
theorem OwnRows.grown {base b' : Nat} {hs hs' : List (Option Addr × Nat × Nat)} {rows : List (List Nat)} {w w' : World} {v' : Value} (h : OwnRows base hs rows w) (h' : hdrR.row 30 b' hs' v' w) (hg : w.grownBy w' v'.ownBlock) : OwnRows base hs rows w' :=
  fun i hd r h1 h2 => ⟨(h i hd r h1 h2).1, (h i hd r h1 h2).2.kept hg (own_ne (h i hd r h1 h2) h')⟩
theorem OwnRows.snoc {base : Nat} {hs : List (Option Addr × Nat × Nat)} {rows : List (List Nat)} {w : World} {hd : Option Addr × Nat × Nat} {r : List Nat} (h : OwnRows base hs rows w) (hr : rows[hs.length]? = some r) (h1 : fltR.row 23 base r (.slice hd.1 hd.2.1 hd.2.2) w) : OwnRows base (hs ++ [hd]) rows w := by
  intro i x y hx hy
  by_cases hi : i < hs.length
  · rw [List.getElem?_append_left hi] at hx
    exact h i x y hx hy
  · have hl := (List.getElem?_eq_some_iff.1 hx).1
    simp at hl
    have : i = hs.length := by omega
    subst this
    simp at hx
    rw [hr] at hy
    cases hy
    subst hx
    exact h1

set_option maxHeartbeats 2000000 in
set_option maxRecDepth 100000 in
theorem copyM_any (am : Option Addr) (cap : Nat) (rows : List (List Nat)) (w : World) (hm : MatW w am rows) (hsm : small rows) :
    Calls Try.prog 20 #[.slice am rows.length cap] w fun e w' => ∃ a c, e = .returned (.slice a rows.length c) ∧ MatW w' a rows ∧ Below w.heap.size w w' := by
  have HM := Lib.hid hm
  have HS := Lib.hid hsm
  have hrl : rows.length ≤ 30 := hsm.1
  clear hm hsm
  go_enter Try.func20, Try.ntmps20
  go_wp2_with fail
  go_loopg [3, 4] rows.length (fun g v3 v4 wr => ∃ (k : Nat) (hs : List (Option Addr × Nat × Nat)), g + k = rows.length ∧ v4 = .int .i64 k ∧ hs.length = k ∧ hdrR.row 30 w.heap.size hs v3 wr ∧ OwnRows w.heap.size hs rows wr ∧ Below w.heap.size w wr)
  case atStart => exact ⟨0, [], by omega, rfl, rfl, Rec.row.nil, fun i h r hx _ => by simp at hx, Below.refl _ _⟩
  case round =>
    obtain ⟨k, hs, hg, rfl, hl, hrow, hown, hb⟩ := hrel
    have HG := Lib.hid hg
    have HL := Lib.hid hl
    have HR := Lib.hid hrow
    have HO := Lib.hid hown
    have HB := Lib.hid hb
    clear hg hl hrow hown hb
    by_cases hk : k < rows.length
    · have hrk : rows[k]? = some rows[k] := List.getElem?_eq_getElem hk
      obtain ⟨r, hr⟩ : ∃ r, r = rows[k] := ⟨_, rfl⟩
      rw [← hr] at hrk
      have hr12 : r.length ≤ 30 := by rw [hr]; exact HS.out.2 _ (List.getElem_mem hk)
      obtain ⟨b, off, rfl⟩ := HM.out.addr hk
      obtain ⟨hb0, a, rc, e0, hrc, hrm, hin, han⟩ := HM.out.row k r hrk
      have e1 := (HB.out.cell (p := ⟨b, off + k, none⟩) hb0).trans e0
      have hblt : b < wr.heap.size := Nat.lt_of_lt_of_le hb0 HB.out.size
      have HN := Lib.hid (show a = none → r = [] ∧ rc = 0 from fun h => by
        obtain ⟨hs', q1, q2, q3⟩ := HM.out
        have hi' : hs'[k]? = some (hs'[k]'(by omega)) := by simp
        obtain ⟨x, y, hxy, _, _, _, hz⟩ := q3 k _ r hi' hrk
        rcases q1.2 with h0 | ⟨b', o', he, _, hc⟩
        · rw [h0] at q2; simp at q2; omega
        · cases he
          have := (hdr_cell (hc k _ hi')).symm.trans e0
          rw [hxy] at this
          cases this
          exact hz h)
      have HRK := Lib.hid hrk
      have HIN := Lib.hid hin
      have hkz : (k : Int) < rows.length := by omega
      clear hr hin hrk han e0
      have hbe := (Below.refl wr.heap.size wr).alloc (Nat.le_refl _) (.cells #[] 23)
      have HBE := Lib.hid hbe
      have HRE := Lib.hid (Rec.row.empty (R := fltR) (e := 23) (w := wr))
      have HIE := Lib.hid ((HIN.out.below HB.out).below hbe)
      have HRH := Lib.hid (HR.out.below hbe)
      have HOH := Lib.hid (HO.out.below hbe)
      clear hbe
      go_wp2_with (at_builtin; refine Rec.wpList_app flt30 rfl _ _ rfl wr.heap.size _ [] r r (by simp) rfl HRE.out a rc rfl HIE.out HN.out (by simp; omega) HBE.out.size ?_)
      rintro v' w2 ho2 _ hb2
      have hb2' := HBE.out.trans hb2
      obtain ⟨a4, c4, rfl, _, _, _, _⟩ := ho2.sl
      have hr2 := HR.out.below hb2'
      have ho2' := HO.out.below hb2'
      have hbn := (Below.refl w2.heap.size w2).alloc (Nat.le_refl _) (.cells #[.slice a4 r.length c4] 30)
      have HB3 := Lib.hid (HB.out.trans ((hb2'.trans (hbn.mono hb2'.size)).mono HB.out.size))
      have HR3 := Lib.hid (hr2.below hbn)
      have HO3 := Lib.hid (ho2'.below hbn)
      have HF3 := Lib.hid ((ho2.base HB.out.size).below hbn)
      have HNEW := Lib.hid (show hdrR.In (w2.alloc (.cells #[.slice a4 r.length c4] 30)) (some ⟨w2.heap.size, 0, none⟩) [(a4, r.length, c4)] from Rec.In.one w2 30 _ trivial)
      have HC := Lib.hid (show hs.length + [(a4, r.length, c4)].length ≤ 100000000 by have := HL.out; simp only [List.length_cons, List.length_nil]; omega)
      obtain ⟨H1, hH1⟩ : ∃ H1, H1 = hs ++ [(a4, r.length, c4)] := ⟨_, rfl⟩
      have HH1 := Lib.hid hH1
      clear ho2 hb2 hb2' hr2 ho2' hbn hH1 e1 HRE HIE HBE HRH HOH
      go_wp2_with (at_builtin; refine Rec.wpList_app hdr29 rfl _ _ rfl w.heap.size _ hs [(a4, r.length, c4)] H1 HH1.out rfl HR3.out _ 1 rfl HNEW.out (fun e => by cases e) HC.out HB3.out.size ?_)
      rintro v' w4 ho4 hg4 hb4
      have HR4 := Lib.hid ho4
      have HO4 := Lib.hid (HO3.out.grown HR3.out hg4)
      have HF4 := Lib.hid (show fltR.row 23 w.heap.size r (.slice a4 r.length c4) w4 from ⟨HF3.out.1, HF3.out.2.kept hg4 (own_ne HF3.out HR3.out)⟩)
      have HB4 := Lib.hid (HB3.out.trans hb4)
      clear ho4 hg4 hb4
      go_wp2
      go_roundg (gk - 1)
      case measure => have := HG.out; omega
      case rel => exact ⟨k + 1, H1, by have := HG.out; omega, by go_num, by rw [HH1.out, List.length_append, HL.out]; rfl, HR4.out, by rw [HH1.out]; exact HO4.out.snoc (by rw [HL.out]; exact HRK.out) HF4.out, HB4.out⟩
    · have HE := Lib.hid (show k = rows.length by have := HG.out; omega)
      obtain ⟨a2, c2, rfl, hc2, hm2, hin2, hn2⟩ := HR.out.sl
      have hl2 : hs.length = rows.length := by rw [HL.out, HE.out]
      have HI2 := Lib.hid hin2
      have HL2 := Lib.hid hl2
      clear hc2 hm2 hin2 hn2
      rw [hl2]
      clear hl2
      go_wp2
      go_ret
      exact ⟨a2, c2, rfl, ⟨hs, HI2.out, HL2.out, fun i h r h1 h2 => (HO.out i h r h1 h2).sl⟩, HB.out⟩
end Go.Proofs.Ytkapidcgonjbaaa
