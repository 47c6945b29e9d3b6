/- The law TreeOne: walk. -/
import Derived.Test.YtchbpfkjhilgiaaNw
namespace Go.Proofs.Ytchbpfkjhilgiaa
open Go.RowKit Go.WideShapes Go.ChangeShapes Go.ChangeMaps Go.Deep
set_option linter.unusedVariables false

set_option maxRecDepth 100000 in
theorem trod_u8N {H : Type} {enc : TypeId × Value → H} {W : World} {fuel : Nat} {l : List Value} {x : DataW H × List MemPlace} (hx : DataW.trod enc Try.prog W 0 (fun _ => true) true fuel 5 l = some x) : ∃ n, l = [.int .u8 n] ∧ (Lit.int .u8 n).wf = true := by
  cases fuel with
  | zero => simp [DataW.trod] at hx
  | succ m =>
    unfold DataW.trod at hx
    rw [Try.underlying5] at hx
    split at hx <;> simp_all
set_option maxRecDepth 100000 in
theorem trod_rowN {H : Type} {enc : TypeId × Value → H} {W : World} {fuel : Nat} {l : List Value} {x : DataW H × List MemPlace} (hx : DataW.trod enc Try.prog W 0 (fun _ => true) true fuel 22 l = some x) : ∃ a len cap, l = [.slice a len cap] := by
  cases fuel with
  | zero => simp [DataW.trod] at hx
  | succ m =>
    unfold DataW.trod at hx
    rw [Try.underlying22] at hx
    split at hx <;> simp_all
set_option maxRecDepth 100000 in
theorem trod_threeI {H : Type} {enc : TypeId × Value → H} {W : World} {v : Value} {d : DataW H} {p : List MemPlace} (hv : ∃ cs, v = .agg cs) (h : DataW.Trod enc Try.prog W 0 (fun _ => true) true 51 v d p) :
    ∃ s xs a b c, v = .agg #[s, .int .u8 a, .int .u8 b, .int .u8 c] ∧ nodeR.Sl W s xs ∧ (Lit.int .u8 a).wf = true ∧ (Lit.int .u8 b).wf = true ∧ (Lit.int .u8 c).wf = true := by
  obtain ⟨cs, rfl⟩ := hv
  obtain ⟨fuel, h⟩ := h
  obtain ⟨y0, y1, n, _, hl, h0, h1⟩ := trod_struct2 Try.underlying51 h
  obtain ⟨zs, m, _, _, hl1, hn, hf⟩ := DataW.trod_array Try.underlying49 h1
  have c51 : Try.prog.cellsOf 51 = 4 := by kernel_rfl
  have c49 : Try.prog.cellsOf 49 = 3 := by kernel_rfl
  have c22 : Try.prog.cellsOf 22 = 1 := by kernel_rfl
  have c5 : Try.prog.cellsOf 5 = 1 := by kernel_rfl
  rw [c51] at hl
  simp only [c22, c49, c5] at h0 h1 hf hl1
  have g0 := hf 0 (by decide)
  have g1 := hf 1 (by decide)
  have g2 := hf 2 (by decide)
  match zs, hn with
  | [z0, z1, z2], _ =>
  obtain ⟨a, e1, w1⟩ := trod_u8N g0
  obtain ⟨b, e2, w2⟩ := trod_u8N g1
  obtain ⟨c, e3, w3⟩ := trod_u8N g2
  obtain ⟨q, len, cap, e0⟩ := trod_rowN h0
  obtain ⟨xs, hs⟩ := reads_nodes (v := .slice q len cap) (W := W) (enc := enc) (d := y0.1) (p := y0.2) ⟨n, by rw [e0] at h0; exact h0⟩ ⟨_, _, _, rfl⟩
  refine ⟨.slice q len cap, xs, a, b, c, ?_, hs, w1, w2, w3⟩
  have hl' : cs.toList.length = 4 := hl
  clear hl h0 g0 g1 g2 hf h1 h hs
  obtain ⟨L⟩ := cs
  match L, hl' with
  | [x0, x1, x2, x3], _ =>
    simp [Value.cells] at e0 e1 e2 e3
    rw [e0, e1, e2, e3]

/-- The boxed argument. -/
def ThreeAt (w : World) (b : Nat) (s : Value) (a0 a1 a2 : Int) : Prop := w.heap[b]? = some (.cells #[s, .int .u8 a0, .int .u8 a1, .int .u8 a2] 51)
theorem ThreeAt.below {w w' : World} {b : Nat} {s : Value} {a0 a1 a2 : Int} (h : ThreeAt w b s a0 a1 a2) (hb : Below w.heap.size w w') : ThreeAt w' b s a0 a1 a2 :=
  (hb.block b (Array.getElem?_eq_some_iff.1 h).1).trans h
theorem ThreeAt.cells {w : World} {b : Nat} {s : Value} {a0 a1 a2 : Int} (h : ThreeAt w b s a0 a1 a2) :
    w.cell? ⟨b, 0, none⟩ = some s ∧ w.cell? ⟨b, 1, none⟩ = some (.int .u8 a0) ∧ w.cell? ⟨b, 2, none⟩ = some (.int .u8 a1) ∧ w.cell? ⟨b, 3, none⟩ = some (.int .u8 a2) := by
  refine ⟨?_, ?_, ?_, ?_⟩ <;> · rw [Lib.cell_of_heap h]; rfl
theorem i64_wrap {a : Int} (h0 : -(2 : Int) ^ 63 ≤ a) (h1 : a < (2 : Int) ^ 63) : IntKind.i64.wrap a = a := by
  simp [IntKind.wrap, IntKind.bits, IntKind.signed]
  omega
theorem u8_in {a : Int} (h : (Lit.int .u8 a).wf = true) : 0 ≤ a ∧ a < 256 := by
  unfold Lit.wf at h
  rw [Bool.and_eq_true] at h
  obtain ⟨x, y⟩ := h
  have x := of_decide_eq_true x
  have y := of_decide_eq_true y
  have e1 : IntKind.u8.min = 0 := by decide
  have e2 : IntKind.u8.max = 255 := by decide
  omega
theorem rem_le (a : Int) (n : Nat) (h : 0 ≤ a ∧ a < 256) (hn : 0 < n) : 0 ≤ a.tmod n ∧ a.tmod n < n := by
  rw [Int.tmod_eq_emod_of_nonneg h.1]
  exact ⟨Int.emod_nonneg _ (by omega), Int.emod_lt_of_pos _ (by omega)⟩
theorem rem_wrap (a : Int) (n : Nat) (h : 0 ≤ a ∧ a < 256) (hn : 0 < n) (hl : n ≤ 1000) : IntKind.i64.wrap (a.tmod n) = a.tmod n := by
  have := rem_le a n h hn
  exact i64_wrap (by omega) (by omega)

set_option maxHeartbeats 4000000 in
set_option maxRecDepth 100000 in
theorem lawOne_any (p : Option Addr) (c : Nat) (l : List Nd) (a0 a1 a2 : Int) (h0' : 0 ≤ a0 ∧ a0 < 256) (h1' : 0 ≤ a1 ∧ a1 < 256) (h2' : 0 ≤ a2 ∧ a2 < 256) (w : World) (hin : nodeR.In w p l) :
    Calls Try.prog 8 #[.agg #[.slice p l.length c, .int .u8 a0, .int .u8 a1, .int .u8 a2]] w fun e w' => e = .returned (.bool true) ∧ Below w.heap.size w w' := by
  have k0 : ThreeAt (w.alloc (.cells #[.slice p l.length c, .int .u8 a0, .int .u8 a1, .int .u8 a2] 51)) w.heap.size (.slice p l.length c) a0 a1 a2 := (MapKept.heap_alloc w _).1
  have hb0 := (Below.refl w.heap.size w).alloc (Nat.le_refl _) (.cells #[.slice p l.length c, .int .u8 a0, .int .u8 a1, .int .u8 a2] 51)
  obtain ⟨W, hW⟩ : ∃ W, W = w.alloc (.cells #[.slice p l.length c, .int .u8 a0, .int .u8 a1, .int .u8 a2] 51) := ⟨_, rfl⟩
  rw [← hW] at k0 hb0
  obtain ⟨blk, hblk⟩ : ∃ b, b = w.heap.size := ⟨_, rfl⟩
  have HX := Lib.hid hin
  have HB0 := Lib.hid hb0
  have HK0 := Lib.hid k0
  clear hin hb0 k0
  go_enter Try.func8, Try.ntmps8
  go_upto_region 1 with fail
  rw [← hW]
  clear hW
  have HBL := Lib.hid hblk
  rw [← hblk] at HK0 ⊢
  clear hblk
  by_cases h1 : 60 < l.length
  · obtain ⟨c0, _⟩ := HK0.out.cells
    have hh : (60 : Int) < l.length := by omega
    go_wp2_with fail
    refine (awake_any _).mono ?_
    rintro e w9 ⟨rfl, hb9⟩
    have HB9 := Lib.hid (HB0.out.trans (hb9.mono HB0.out.size))
    clear hb9
    go_wp2
    go_ret
    exact ⟨rfl, HB9.out⟩
  by_cases h3 : l.length = 0
  · obtain ⟨c0, _⟩ := HK0.out.cells
    have : l = [] := by simpa using h3
    subst this
    clear h1 h3
    go_wp2_with fail
    refine (awake_any _).mono ?_
    rintro e w9 ⟨rfl, hb9⟩
    have HB9 := Lib.hid (HB0.out.trans (hb9.mono HB0.out.size))
    clear hb9
    go_wp2
    go_ret
    exact ⟨rfl, HB9.out⟩
  have hlen : l.length ≤ 1000 := by omega
  have hn0 : 0 < l.length := by omega
  have hA : decide (60 < (l.length : Int)) = false := decide_eq_false (by omega)
  have hB : ((l.length : Int) == 0) = false := by rw [beq_eq_false_iff_ne]; omega
  have HTD := Lib.hid (fun w' (hb : Below w.heap.size w w') => told_any p c l w' hlen (HX.out.below hb))
  have HCM := Lib.hid (fun p' c' a b w' hi => tcompare_any p' c' l a b w' hlen hi)
  have HTR := Lib.hid (fun p' c' w' hi => tright_any p' c' l w' hlen hi)
  obtain ⟨c0, _⟩ := HK0.out.cells
  go_wp2_with fail
  refine (HTD.out _ HB0.out).mono ?_
  rintro e w2 ⟨v2, rfl, hr2, hb2⟩
  obtain ⟨p2, c2, rfl, _, _, hi2, _⟩ := hr2.sl
  have HI2 := Lib.hid hi2
  have HB2 := Lib.hid (HB0.out.trans (hb2.mono HB0.out.size))
  have HK2 := Lib.hid (HK0.out.below hb2)
  clear hr2 hb2 hi2 c0
  have HC3 := Lib.hid (HTR.out p2 c2 w2 HI2.out)
  go_wp2_with fail
  refine HC3.out.mono ?_
  rintro e w3 ⟨rfl, hb3⟩
  have HB3 := Lib.hid (HB2.out.trans (hb3.mono HB2.out.size))
  have HK3 := Lib.hid (HK2.out.below hb3)
  clear hb3 HC3 HTR
  by_cases hR : RightL l
  case neg =>
    have hd : decide (RightL l) = false := decide_eq_false hR
    rw [hd]
    clear hd hR HTD HCM
    go_wp2_with fail
    refine (awake_any _).mono ?_
    rintro e w9 ⟨rfl, hb9⟩
    have HB9 := Lib.hid (HB3.out.trans (hb9.mono HB3.out.size))
    clear hb9
    go_wp2
    go_ret
    exact ⟨rfl, HB9.out⟩
  have hd : decide (RightL l) = true := decide_eq_true hR
  rw [hd]
  have HR := Lib.hid hR
  clear hd hR
  obtain ⟨c0, _⟩ := HK3.out.cells
  go_wp2_with fail
  refine (HTD.out _ HB3.out).mono ?_
  rintro e w4 ⟨v4, rfl, hr4, hb4⟩
  obtain ⟨p4, c4, rfl, _, _, hi4, _⟩ := hr4.sl
  have HI4 := Lib.hid hi4
  have HB4 := Lib.hid (HB3.out.trans (hb4.mono HB3.out.size))
  have HK4 := Lib.hid (HK3.out.below hb4)
  clear hr4 hb4 hi4 c0 HTD
  obtain ⟨c0, c1, c2', c3⟩ := HK4.out.cells
  go_wp2_with fail
  have r0 : IntKind.i64.wrap a0 = a0 := i64_wrap (by omega) (by omega)
  have r1 : IntKind.i64.wrap a1 = a1 := i64_wrap (by omega) (by omega)
  have r2 : IntKind.i64.wrap a2 = a2 := i64_wrap (by omega) (by omega)
  have t0 : IntKind.i64.wrap (a0.tmod l.length) = a0.tmod l.length := rem_wrap a0 l.length h0' hn0 hlen
  have t1 : IntKind.i64.wrap (a1.tmod l.length) = a1.tmod l.length := rem_wrap a1 l.length h1' hn0 hlen
  have t2 : IntKind.i64.wrap (a2.tmod l.length) = a2.tmod l.length := rem_wrap a2 l.length h2' hn0 hlen
  go_quiet (fail)
  obtain ⟨w5, hw5⟩ : ∃ w5, w5 = w4.drewN nq := ⟨_, rfl⟩
  rw [← hw5]
  have hb5 : Below w4.heap.size w4 w5 := by rw [hw5]; exact below_drewN (Below.refl _ _) _
  have HB5 := Lib.hid (HB4.out.trans (hb5.mono HB4.out.size))
  have HI5 := Lib.hid (HI4.out.below hb5)
  clear hw5 hb5
  have z0 := rem_le a0 l.length h0' hn0
  have z1 := rem_le a1 l.length h1' hn0
  have z2 := rem_le a2 l.length h2' hn0
  rw [Int.tmod_eq_emod_of_nonneg h0'.1] at z0
  rw [Int.tmod_eq_emod_of_nonneg h1'.1] at z1
  rw [Int.tmod_eq_emod_of_nonneg h2'.1] at z2
  clear r0 r1 r2 t0 t1 t2 c0 c1 c2' c3 hA hB h1 h3
  generalize a0 % (l.length : Int) = m0 at *
  generalize a1 % (l.length : Int) = m1 at *
  generalize a2 % (l.length : Int) = m2 at *
  obtain ⟨E, hE⟩ : ∃ E : Int → Int → Int, E = fun a b => (forest l).ec a.toNat b.toNat := ⟨_, rfl⟩
  have hcm : ∀ a b : Int, 0 ≤ a ∧ a < l.length → 0 ≤ b ∧ b < l.length → cmpT l a b = (E a b, true) := by
    intro a b ha hb
    unfold cmpT
    rw [if_pos ⟨HR.out, ha.1, hb.1, ha.2, hb.2⟩, hE]
  have HCE := Lib.hid (fun a b ha hb w' hi => hcm a b ha hb ▸ HCM.out p4 c4 a b w' hi)
  have h3 : ∀ a b : Int, E a b = -1 ∨ E a b = 0 ∨ E a b = 1 := by
    intro a b
    rw [hE]
    have := Forest.wcmp_one (F := forest l) (fun i j => kCmp_three _ _) ((forest l).way a.toNat) ((forest l).way b.toNat)
    change (forest l).ec a.toNat b.toNat = -1 ∨ (forest l).ec a.toNat b.toNat = 0 ∨ (forest l).ec a.toNat b.toNat = 1 at this
    omega
  have hanti : E m1 m0 = - E m0 m1 := by rw [hE]; exact Forest.ec_anti HR.out.ok _ _
  have hzero : E m0 m1 = 0 ↔ m0 = m1 := by
    rw [hE]
    constructor
    · intro h
      have := Forest.ec_eq HR.out.ok (show m0.toNat < (forest l).n by change _ < l.length; omega) (show m1.toNat < (forest l).n by change _ < l.length; omega) h
      omega
    · rintro rfl; exact Forest.ec_self _
  have hle : E m0 m1 ≤ 0 → E m1 m2 ≤ 0 → E m0 m2 ≤ 0 := by
    rw [hE]
    exact Forest.ec_le HR.out.ok (show m0.toNat < (forest l).n by change _ < l.length; omega) (show m1.toNat < (forest l).n by change _ < l.length; omega) (show m2.toNat < (forest l).n by change _ < l.length; omega)
  have HCa := Lib.hid (HCE.out m0 m1 z0 z1)
  have HCb := Lib.hid (HCE.out m1 m2 z1 z2)
  have HCc := Lib.hid (HCE.out m0 m2 z0 z2)
  have HCd := Lib.hid (HCE.out m1 m0 z1 z0)
  have k1 := h3 m0 m1
  have k2 := h3 m1 m2
  have k3 := h3 m0 m2
  rw [hanti] at HCd
  clear hanti h3 hcm HCE hE HCM HR z0 z1 z2 h0' h1' h2' hn0 hlen
  generalize E m0 m1 = x at *
  generalize E m1 m2 = y at *
  generalize E m0 m2 = z at *
  clear E
  have HZ := Lib.hid hzero
  have HL := Lib.hid hle
  have HK := Lib.hid (And.intro k1 (And.intro k2 k3))
  clear hzero hle k1 k2 k3
  go_wp2_with fail
  refine (HCa.out w5 HI5.out).mono ?_
  rintro e w6 ⟨rfl, hb6⟩
  have HB6 := Lib.hid (HB5.out.trans (hb6.mono HB5.out.size))
  have HI6 := Lib.hid (HI5.out.below hb6)
  clear hb6 HCa
  go_wp2_with fail
  refine (HCb.out w6 HI6.out).mono ?_
  rintro e w7 ⟨rfl, hb7⟩
  have HB7 := Lib.hid (HB6.out.trans (hb7.mono HB6.out.size))
  have HI7 := Lib.hid (HI6.out.below hb7)
  clear hb7 HCb
  go_wp2_with fail
  refine (HCc.out w7 HI7.out).mono ?_
  rintro e w8 ⟨rfl, hb8⟩
  have HB8 := Lib.hid (HB7.out.trans (hb8.mono HB7.out.size))
  have HI8 := Lib.hid (HI7.out.below hb8)
  clear hb8 HCc
  go_wp2_with fail
  refine (HCd.out w8 HI8.out).mono ?_
  rintro e w9 ⟨rfl, hb9⟩
  have HB9 := Lib.hid (HB8.out.trans (hb9.mono HB8.out.size))
  clear hb9 HCd
  clear HI2 HI4 HI5 HI6 HI7 HI8 HX HB0 HB2 HB3 HB4 HB5 HB6 HB7
  have HQ := Lib.hid (show x ≠ 0 → (m0 == m1) = false from fun h => by rw [beq_eq_false_iff_ne]; exact fun e => h (HZ.out.2 e))
  obtain ⟨k1, k2, k3⟩ := HK.out
  clear HK
  have HB8 := HB9
  rcases k1 with h | h | h
  · have hq := HQ.out (by omega)
    subst h
    clear HQ HZ
    rcases k2 with h | h | h <;> subst h <;> rcases k3 with h | h | h <;> subst h <;>
    first
    | (exfalso; have := HL.out (by omega) (by omega); omega)
    | (clear HL
       go_wp2_with fail
       refine (awake_any _).mono ?_
       rintro e w10 ⟨rfl, hb10⟩
       have HB10 := Lib.hid (HB9.out.trans (hb10.mono HB9.out.size))
       clear hb10
       go_wp2
       go_ret
       exact ⟨rfl, HB10.out⟩)
  · have hq := HZ.out.1 h
    subst h
    subst hq
    clear HQ HZ
    rcases k2 with h | h | h <;> subst h <;> rcases k3 with h | h | h <;> subst h <;>
    first
    | (exfalso; have := HL.out (by omega) (by omega); omega)
    | (clear HL
       go_wp2_with fail
       refine (awake_any _).mono ?_
       rintro e w10 ⟨rfl, hb10⟩
       have HB10 := Lib.hid (HB9.out.trans (hb10.mono HB9.out.size))
       clear hb10
       go_wp2
       go_ret
       exact ⟨rfl, HB10.out⟩)
  · have hq := HQ.out (by omega)
    subst h
    clear HQ HZ HL k2 k3
    go_wp2_with fail
    refine (awake_any _).mono ?_
    rintro e w10 ⟨rfl, hb10⟩
    have HB10 := Lib.hid (HB9.out.trans (hb10.mono HB9.out.size))
    clear hb10
    go_wp2
    go_ret
    exact ⟨rfl, HB10.out⟩
set_option maxRecDepth 100000 in
theorem treeOne_walk {H : Type} {enc : TypeId × Value → H} {W : World} {b0 : Nat} {v0 : Value} {d0 : DataW H} {p0 : List MemPlace}
    (k0 : Value.okWide Try.prog W .any b0 51 v0) (h0 : DataW.Trod enc Try.prog W 0 (fun _ => true) true 51 v0 d0 p0) :
    Calls Try.prog 8 #[v0] W fun e w' => e = .returned (.bool true) ∧ Below W.heap.size W w' := by
  obtain ⟨s, xs, a, b, c, rfl, ⟨p, q, rfl, hc1, hm1, hi1, hn1⟩, wa, wb, wc⟩ := trod_threeI (ok_agg Try.underlying51 k0) h0
  exact lawOne_any p q xs a b c (u8_in wa) (u8_in wb) (u8_in wc) W hi1
end Go.Proofs.Ytchbpfkjhilgiaa
