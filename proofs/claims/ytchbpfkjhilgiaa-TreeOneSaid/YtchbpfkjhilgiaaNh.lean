/- tree.Order. -/
import Derived.Test.YtchbpfkjhilgiaaNg
namespace Go.Proofs.Ytchbpfkjhilgiaa
open Go.RowKit
set_option linter.unusedVariables false

theorem ordN_right {l : List Nd} (h : RightL l) : ordN l = (forest l).ord := by unfold ordN; rw [if_pos h]
theorem ordN_len {l : List Nd} (h : RightL l) : (ordN l).length = l.length := by rw [ordN_right h]; exact Forest.ord_len

def three (w : World) (a f : Value) : World := ((w.alloc (.cells #[a] 59)).alloc (.cells #[.slice none 0 0] 27)).alloc (.cells #[f] 61)
theorem three_below (w : World) (a f : Value) : Below w.heap.size w (three w a f) := (((Below.refl w.heap.size w).alloc (Nat.le_refl _) _).alloc (by simp) _).alloc (by simp; omega) _
theorem three_at (w : World) (a f : Value) : (three w a f).heap[w.heap.size]? = some (.cells #[a] 59 (0, 0)) ∧ (three w a f).heap[w.heap.size + 1]? = some (.cells #[.slice none 0 0] 27 (0, 0)) ∧ (three w a f).heap[w.heap.size + 1 + 1]? = some (.cells #[f] 61 (0, 0)) ∧ (three w a f).heap.size = w.heap.size + 1 + 1 + 1 := by
  have e : (three w a f).heap = ((w.heap.push (.cells #[a] 59)).push (.cells #[.slice none 0 0] 27)).push (.cells #[f] 61) := rfl
  rw [e]
  refine ⟨?_, ?_, ?_, by simp⟩
  · rw [Array.getElem?_push, Array.getElem?_push, Array.getElem?_push]; simp; omega
  · rw [Array.getElem?_push, Array.getElem?_push]; simp
  · rw [Array.getElem?_push]; simp
theorem three_vst {l : List Nd} {base go : Nat} {hs : List Hdr} {w : World} (h : KidRows l.length base go hs (fun q => (forest l).kids (upN l q)) w) :
    VSt l base (w.heap.size + 1 + 1 + 1) go hs w.heap.size (w.heap.size + 1) (w.heap.size + 1 + 1) (.slice none 0 0) [] (three w (.slice (some ⟨go, 0, none⟩) (l.length + 1 : Nat) (l.length + 1 : Nat)) (vclo w.heap.size (w.heap.size + 1) (w.heap.size + 1 + 1))) := by
  obtain ⟨h1, h2, h3, h4⟩ := three_at w (.slice (some ⟨go, 0, none⟩) (l.length + 1 : Nat) (l.length + 1 : Nat)) (vclo w.heap.size (w.heap.size + 1) (w.heap.size + 1 + 1))
  obtain ⟨_, cur, hg⟩ := h.goBlock
  refine ⟨h.below (three_below _ _ _), (Array.getElem?_eq_some_iff.1 hg).1, fun p hp g hgg => (h.block hp hgg).2.1, by omega, by omega, by omega, by rw [h4]; omega, ?_, ?_, h2, Rec.row.nil⟩
  · unfold World.cell?; rw [h1]; rfl
  · unfold World.cell?; rw [h3]; rfl

set_option maxHeartbeats 4000000 in
set_option maxRecDepth 100000 in
theorem torder_any (p : Option Addr) (c : Nat) (l : List Nd) (w : World) (hlen : l.length ≤ 1000) (hin : nodeR.In w p l) :
    Calls Try.prog 12 #[.slice p l.length c] w fun e w' => ∃ v, e = .returned v ∧ intR.row 3 w.heap.size (toI (ordN l)) v w' ∧ Below w.heap.size w w' := by
  have HX := Lib.hid hin
  have HT := Lib.hid (tright_any p c l w hlen hin)
  clear hin
  go_enter Try.func12, Try.ntmps12
  go_wp2_with fail
  refine HT.out.mono ?_
  rintro e w1 ⟨rfl, hb1⟩
  have HB1 := Lib.hid hb1
  clear hb1
  by_cases hR : RightL l
  case neg =>
    have HO := Lib.hid (show ordN l = [] by unfold ordN; rw [if_neg hR])
    have hd : decide (RightL l) = false := decide_eq_false hR
    rw [hd]
    clear hd hR
    go_wp2
    go_ret
    exact ⟨_, rfl, by rw [HO.out]; exact Rec.row.nil, HB1.out⟩
  case pos =>
    have HR := Lib.hid hR
    have hd : decide (RightL l) = true := decide_eq_true hR
    rw [hd]
    have HCH := Lib.hid (children_any p c l w1 hlen (HX.out.below HB1.out) hR)
    clear hd hR
    go_wp2_with fail
    refine HCH.out.mono ?_
    rintro e w2 ⟨go, hs, rfl, hkr, hb2⟩
    have HKR := Lib.hid hkr
    have HB2 := Lib.hid (HB1.out.trans (hb2.mono HB1.out.size))
    clear hkr hb2
    have HUP := Lib.hid (show upN l l.length = none by unfold upN; rw [if_neg (Nat.lt_irrefl _)])
    have HDN := Lib.hid (show (forest l).D none = ordN l by rw [Forest.D_ord HR.out.ok, ordN_right HR.out])
    have HLN := Lib.hid (ordN_len HR.out)
    go_upto_region 7 with fail
    have hvs := three_vst HKR.out
    have hb3 := three_below w2 (.slice (some ⟨go, 0, none⟩) (l.length + 1 : Nat) (l.length + 1 : Nat)) (vclo w2.heap.size (w2.heap.size + 1) (w2.heap.size + 1 + 1))
    unfold three vclo at hvs hb3
    obtain ⟨W3, hW3⟩ : ∃ W3, W3 = ((w2.alloc (.cells #[.slice (some ⟨go, 0, none⟩) (l.length + 1 : Nat) (l.length + 1 : Nat)] 59)).alloc (.cells #[.slice none 0 0] 27)).alloc (.cells #[.func (.func 26) #[] #[.pointer (some ⟨w2.heap.size, 0, none⟩), .pointer (some ⟨w2.heap.size + 1, 0, none⟩), .pointer (some ⟨w2.heap.size + 1 + 1, 0, none⟩)]] 61) := ⟨_, rfl⟩
    rw [← hW3] at hvs hb3 ⊢
    have HB3 := Lib.hid (HB2.out.trans (hb3.mono HB2.out.size))
    have HSZ := Lib.hid hb3.size
    have HV := Lib.hid (visit_root l HR.out _ _ _ _ _ _ _ _ _ _ hvs (by rw [HUP.out, HDN.out, HLN.out]; simp; omega))
    rw [HUP.out, HDN.out] at HV
    have hcv := hvs.cv
    unfold vclo at hcv
    have hN := HB2.out.size
    generalize w2.heap.size = N at *
    have HN := Lib.hid hN
    clear hN
    clear hW3 hvs hb3
    go_wp2_with fail
    refine HV.out.mono ?_
    rintro e w4 ⟨rfl, v4, hs4, hv4⟩
    obtain ⟨c1, _⟩ := hs4.cell
    have HR4 := Lib.hid hs4.row
    have HO3 := Lib.hid hs4.o3
    have HV4 := Lib.hid hv4
    rw [List.nil_append] at HR4
    clear hs4 hv4 hcv
    go_wp2
    go_ret
    have hN : w.heap.size ≤ N := HN.out
    refine ⟨v4, rfl, HR4.out.base (by omega), ?_⟩
    exact ⟨HV4.out.os.trans HB3.out.os, HV4.out.tape.trans HB3.out.tape, HV4.out.output.trans HB3.out.output, Nat.le_trans HB3.out.size HV4.out.size, fun k hk => (HV4.out.block k (by omega) (by omega)).trans (HB3.out.block k hk)⟩
end Go.Proofs.Ytchbpfkjhilgiaa
