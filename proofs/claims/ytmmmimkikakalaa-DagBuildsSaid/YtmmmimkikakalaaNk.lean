/- Whatever reads as a key is an id; the iterator over a map's keys. -/
import Derived.Test.YtmmmimkikakalaaNi
import Derived.Sort.MapsRangeIn
namespace Go.Proofs.Ytmmmimkikakalaa
open Go.RowKit Go.Maps
set_option linter.unusedVariables false

theorem mapM_all {α β : Type} (f : α → Option β) : ∀ (l : List α) (r : List β), l.mapM f = some r → ∀ a ∈ l, ∃ b, f a = some b
  | [], _, _, a, ha => by cases ha
  | x :: l, r, h, a, ha => by
    rw [List.mapM_cons] at h
    cases hx : f x with
    | none => rw [hx] at h; cases h
    | some b =>
      rw [hx] at h
      cases hl : l.mapM f with
      | none => rw [hl] at h; cases h
      | some r' =>
        rcases List.mem_cons.1 ha with rfl | ha
        · exact ⟨b, hx⟩
        · exact mapM_all f l r' hl a ha
theorem u8_of_wf {n : Int} (h : (Lit.int .u8 n).wf = true) : ∃ c : UInt8, n = (c.toNat : Int) := by
  have e1 : IntKind.u8.min = 0 := by decide
  have e2 : IntKind.u8.max = 255 := by decide
  have h' : (decide (IntKind.u8.min ≤ n) && decide (n ≤ IntKind.u8.max)) = true := h
  rw [e1, e2, Bool.and_eq_true] at h'
  have h1 := of_decide_eq_true h'.1
  have h2 := of_decide_eq_true h'.2
  refine ⟨UInt8.ofNat n.toNat, ?_⟩
  rw [UInt8.toNat_ofNat_of_lt' (by show n.toNat < 256; omega)]
  omega
theorem lits5_inv {n : Nat} {v : Value} {ls : List Lit} (h : Try.prog.keyLits (n + 1) 5 [v] = some ls) : ∃ c : UInt8, v = .int .u8 (c.toNat : Int) := by
  unfold Program.keyLits at h
  rw [Try.underlying5] at h
  cases v with
  | int q m =>
    simp only at h
    split at h
    · next hw =>
      obtain ⟨rfl, hw⟩ := hw
      obtain ⟨c, rfl⟩ := u8_of_wf hw
      exact ⟨c, rfl⟩
    · cases h
  | _ => cases h
theorem key24_inv {key : Value} {kl : Lit} (h : keyOf Try.prog 24 key = some kl) : ∃ x : List UInt8, key = .agg (idB x) ∧ x.length = 32 ∧ kl = kL x := by
  have h0 := h
  unfold keyOf at h
  rw [Try.underlying24] at h
  simp only [kt24, Bool.true_and] at h
  split at h
  · next hf =>
    cases key with
    | agg cs =>
      unfold Value.formed at hf
      simp only [Try.underlying24, cells24, beq_iff_eq] at hf
      simp only [Value.cells, Option.map_eq_some_iff] at h
      obtain ⟨ls, hls, rfl⟩ := h
      obtain ⟨n, hn⟩ := size_two
      rw [hn] at hls
      unfold Program.keyLits at hls
      rw [Try.underlying24] at hls
      simp only [cells24, cells5, Array.length_toList, hf, if_true, Option.map_eq_some_iff] at hls
      obtain ⟨rs, hrs, _⟩ := hls
      have hall := mapM_all _ _ _ hrs
      have hc : ∀ i, (hi : i < cs.size) → ∃ c : UInt8, cs[i] = .int .u8 (c.toNat : Int) := by
        intro i hi
        obtain ⟨b, hb⟩ := hall i (by rw [List.mem_range]; omega)
        have e : (cs.toList.drop (i * 1)).take 1 = [cs[i]] := by
          rw [Nat.mul_one, List.drop_eq_getElem_cons (by simpa using hi)]
          simp
        rw [e] at hb
        exact lits5_inv hb
      let x : List UInt8 := cs.toList.map fun v => match v with | .int _ n => UInt8.ofNat n.toNat | _ => 0
      have hx : cs = idB x := by
        apply Array.ext'
        apply List.ext_getElem
        · simp [idB, Lib.byteCells, x]
        · intro i h1 h2
          obtain ⟨c, hc⟩ := hc i (by simpa using h1)
          simp only [Array.getElem_toList] at *
          simp [idB, Lib.byteCells, x, hc]
      have hl : x.length = 32 := by simp [x, hf]
      refine ⟨x, by rw [← hx], hl, ?_⟩
      have h1 := key24 x hl
      rw [← hx, h0] at h1
      exact Option.some.inj h1
    | _ => unfold Value.formed at hf; simp [Try.underlying24] at hf
  · cases h
end Go.Proofs.Ytmmmimkikakalaa

namespace Go.Proofs.Ytmmmimkikakalaa
open Go.RowKit Go.Maps
set_option linter.unusedVariables false
attribute [local go_sem] Oper.semAt_some
theorem semAt_run (r : Option Nat) (ρ : Operand → Value) (o : Oper) (P : Program) (w : World) (h : ∀ c, o.op ≠ .defer c) : (o.semAt r ρ).run P w = (execOp ρ o).run P w := by
  rw [Oper.semAt_eq r ρ o h]
attribute [local go_sem ↓] semAt_run

/-- An id, of 32 bytes. -/
abbrev Id32 := { x : List UInt8 // x.length = 32 }
def encI (x : Id32) : Array Value := #[.agg (idB x.1)]
def valsI (xs : List Id32) : List (List UInt8) := xs.map (·.1)
theorem valsI_snoc (xs : List Id32) (x : Id32) : valsI (xs ++ [x]) = valsI xs ++ [x.1] := by simp [valsI]

theorem ranges_of {H : Type} {P : Program} {k : TypeId} {R : Value → Option (DataW H × List MemPlace)} {w w' : World} {b r n : Nat} {D : DataW H} {left : Lit → Bool} {cnt : Nat} (h : w.ranges P k R b r n D left cnt) (hb : w'.heap[b]? = w.heap[b]?) (hr : w'.heap[r]? = w.heap[r]?) : w'.ranges P k R b r n D left cnt := by
  obtain ⟨es, clock, since, seen, c0, h1, F, hs, hD, h2, rest⟩ := h
  exact ⟨es, clock, since, seen, c0, hb.trans h1, F, hs, hD, hr.trans h2, rest⟩
theorem ranges_iter {H : Type} {P : Program} {k : TypeId} {R : Value → Option (DataW H × List MemPlace)} {w : World} {b r n : Nat} {D : DataW H} {left : Lit → Bool} {cnt : Nat} (h : w.ranges P k R b r n D left cnt) : ∃ o, w.heap[r]? = some o := by
  obtain ⟨es, clock, since, seen, c0, h1, F, hs, hD, h2, rest⟩ := h
  exact ⟨_, h2⟩
theorem sameKey_self (x : List UInt8) : (kL x).sameKey (kL x) = true := by simp [kL, Lit.sameKey]
theorem sameKey_ne {x y : List UInt8} (hx : x.length = 32) (hy : y.length = 32) (h : ¬ x = y) : (kL x).sameKey (kL y) = false := by
  have : ¬ kL x = kL y := fun e => h (kL_inj hx hy e)
  unfold kL at this ⊢
  simpa [Lit.sameKey] using this

set_option maxHeartbeats 2000000 in
set_option maxRecDepth 100000 in
theorem keys1_any (Bm mb nn : Nat) (D : DataW Unit) (G : List GN) (hg32 : ∀ g ∈ G, g.1.length = 32) (hsz : Maps.size D = G.length) (hhas : ∀ x : List UInt8, x.length = 32 → Maps.has D (kL x) = decide (x ∈ G.map (·.1))) (w : World) (hBm : Bm < w.heap.size)
    (hm : w.cell? ⟨Bm, 0, none⟩ = some (.map (some mb))) (hown : w.ownsMap Try.prog 24 nodR mb nn D) :
    SeqO Try.prog 55 #[.pointer (some ⟨Bm, 0, none⟩)] encI (fun xs => (valsI xs).Nodup ∧ ∀ x, x ∈ valsI xs ↔ x ∈ G.map (·.1)) (fun _ => True) G.length w := by
  intro n l J Jx W U hW hJ hU hY h0
  refine callsIn_wide.2 ?_
  have e0 : W.cell? ⟨Bm, 0, none⟩ = some (.map (some mb)) := (hW.cell (p := ⟨Bm, 0, none⟩) hBm).trans hm
  have HOW := Lib.hid (ownsMap_below hown hW)
  have HJ := Lib.hid hJ
  have HU := Lib.hid hU
  have HY := Lib.hid hY
  have H0 := Lib.hid h0
  have HMB := Lib.hid hown.lt
  have HSZ := Lib.hid hsz
  have HHAS := Lib.hid hhas
  have HWB := Lib.hid hW
  clear hJ hU hY h0 hown hsz hhas hm hW
  go_enter Try.func55, Try.ntmps55
  go_wp2_with (at_range; refine wpList_range_own _ rfl _ 59 rfl 24 58 keyed24 Try.underlying59 nodR mb nn D rfl HOW.out ?_; intro w0 hrg0 hg0 hs0)
  have HG0 := Lib.hid hg0
  have HS0 := Lib.hid hs0
  have HRG0 := Lib.hid hrg0
  clear hrg0 hg0 hs0 e0
  go_frame
  go_loopg [3] (Maps.size D) (fun g v3 wr => ∃ (left : Lit → Bool) (xs : List Id32) (V : Nat → Prop), wr.ranges Try.prog 24 nodR mb W.heap.size nn D left g ∧ xs.length + g ≤ Maps.size D ∧ (valsI xs).Nodup ∧ (∀ x : List UInt8, x.length = 32 → (x ∈ valsI xs ↔ (Maps.has D (kL x) = true ∧ left (kL x) = false))) ∧ J xs V wr ∧ ¬ V W.heap.size ∧ W.heap.size ≤ wr.heap.size)
  case atStart =>
    refine ⟨_, [], U, HRG0.out, by simp, by simp [valsI], fun x hx => ?_, ?_, ?_, by have := HS0.out; omega⟩
    · cases Maps.has D (kL x) <;> simp [valsI]
    · exact HJ.out [] U W w0 H0.out ⟨HG0.out.os, HG0.out.tape, HG0.out.output, HG0.out.size, fun k hk _ => HG0.out.block k hk (fun h => by cases h)⟩
    · exact fun h => by have := (HU.out [] U W H0.out _ h).1; omega
  case round =>
    obtain ⟨left, xs, V, hrg, hlen, hnd, hmem, hj, hv, hws⟩ := hrel
    have HRG := Lib.hid hrg
    have HLN := Lib.hid hlen
    have HND := Lib.hid hnd
    have HMEM := Lib.hid hmem
    have HJS := Lib.hid hj
    have HV := Lib.hid hv
    have HWS := Lib.hid hws
    clear hrg hlen hnd hmem hj hv hws
    go_wp2_with (at_next; refine wpList_next_ranges _ rfl _ rfl 24 keyed24 nodR (fun x : Id32 => .agg (idB x.1)) id (fun key kl hk => by obtain ⟨x, hx, h32, _⟩ := key24_inv hk; exact ⟨⟨x, h32⟩, hx⟩) (fun v _ _ => ⟨v, rfl⟩) mb W.heap.size nn D left gk rfl HRG.out ?_ ?_)
    · intro hc0 hl0
      have HL0 := Lib.hid hl0
      clear hc0 hl0
      go_wp2
      go_end0
      refine ⟨⟨_, rfl⟩, .inl ⟨xs, V, ⟨HND.out, fun x => ?_⟩, HJS.out⟩⟩
      constructor
      · intro hx
        have h32 : x.length = 32 := by obtain ⟨y, _, rfl⟩ := List.mem_map.1 hx; exact y.2
        have := ((HMEM.out x h32).1 hx).1
        rw [HHAS.out x h32] at this
        exact of_decide_eq_true this
      · intro hx
        have h32 : x.length = 32 := by obtain ⟨g, hg, rfl⟩ := List.mem_map.1 hx; exact hg32 g hg
        exact (HMEM.out x h32).2 ⟨by rw [HHAS.out x h32]; exact decide_eq_true hx, HL0.out _⟩
    · intro x hx c kl yd yp w2 cnt2 hkey hlk hvv hat hrg2 hlt hg2 hs2 hen
      have hkl : kl = kL x := by rw [key24 x hx] at hkey; exact (Option.some.inj hkey).symm
      subst hkl
      have hxD : Maps.has D (kL x) = true := has_true_of_atKey hat
      have hx32 : idOk (.agg (idB x)) := idOk_agg x hx
      have HNX := Lib.hid (show ¬ x ∈ valsI xs from fun h => by have := ((HMEM.out x hx).1 h).2; rw [hlk] at this; cases this)
      have HXD := Lib.hid hxD
      have HAT := Lib.hid hat
      have hjv2 : J xs V w2 := HJ.out xs V wr w2 HJS.out ⟨hg2.os, hg2.tape, hg2.output, hg2.size, fun k hk hn => hg2.block k hk (fun h => by cases h; exact hn ⟨Nat.le_refl _, HV.out⟩)⟩
      have hbn := (Below.refl w2.heap.size w2).alloc (Nat.le_refl _) (.cells (idB x) 24)
      have hj3 : J xs V (w2.alloc (.cells (idB x) 24)) := HJ.out xs V w2 _ hjv2 (.of_below hbn _)
      obtain ⟨fn, tmps, assign, body, hy, hR⟩ := HY.out xs ⟨x, hx⟩ _ V hj3 (by have := HLN.out; have := HSZ.out; omega)
      have f1 := fits_new w2 (idB x) 24 32 (by rw [idB_size, hx])
      have f2 := aggAt_new w2 (idB x) 24 32 (by rw [idB_size, hx])
      change (Instr.yield l #[.agg (idB x)]).run Try.prog _ = _ at hy
      have HRG2 := Lib.hid hrg2
      have HBN := Lib.hid hbn
      have HLT := Lib.hid hlt
      have HS2 := Lib.hid hs2
      have HJ2 := Lib.hid hj3
      have HVL := Lib.hid (fun k hk => (HU.out xs V w2 hjv2 k hk))
      clear hkey hlk hvv hat hrg2 hlt hg2 hs2 hbn hj3 hjv2 hxD
      go_upto_region 3 with fail
      refine (wpIn_wide (n := n + 1)).1 ?_
      gi_wp2
      refine hR.mono ?_
      clear hR hy f1 f2
      rintro e W3 (⟨rfl, V', hj3, ht3, hsub⟩ | ⟨rfl, V', hjx⟩)
      · have HB3 := Lib.hid hj3
        have HT3 := Lib.hid ht3
        have HSUB := Lib.hid hsub
        clear hj3 ht3 hsub
        gi_wp2
        go_wp2
        have hv' : ¬ V W.heap.size := HV.out
        have hmbV : ¬ V mb := fun h => by have := (HVL.out _ h).2; have := HMB.out; omega
        have hsz2 : W.heap.size < w2.heap.size := by
          obtain ⟨o, ho⟩ := ranges_iter HRG2.out
          exact (Array.getElem?_eq_some_iff.1 ho).1
        have hmb2 : mb < w2.heap.size := HRG2.out.owns.lt
        have hrg3 : W3.ranges Try.prog 24 nodR mb W.heap.size nn D (fun z => left z && !z.sameKey (kL x)) cnt2 :=
          ranges_of HRG2.out ((HT3.out.block mb (by simp; omega) hmbV).trans (HBN.out.block mb hmb2)) ((HT3.out.block _ (by simp; omega) hv').trans (HBN.out.block _ hsz2))
        go_roundg cnt2
        case measure => exact HLT.out
        case rel =>
          refine ⟨_, xs ++ [⟨x, hx⟩], V', hrg3, by have := HLN.out; have := HLT.out; simp only [List.length_append, List.length_cons, List.length_nil]; omega, ?_, ?_, HB3.out, ?_, ?_⟩
          · rw [valsI_snoc]; exact nodup_snoc HND.out HNX.out
          · intro y hy
            rw [valsI_snoc, List.mem_append, List.mem_singleton, HMEM.out y hy]
            by_cases he : y = x
            · subst he
              simp [HXD.out, sameKey_self]
            · simp [he, sameKey_ne hy hx he]
          · intro h
            rcases HSUB.out _ h with h | h
            · exact hv' h
            · simp at h; omega
          · have h9 := HT3.out.size
            simp at h9; omega
      · have HJX := Lib.hid hjx
        clear hjx
        gi_wp2
        go_wp2
        refine bodyPost_ret (results_none rfl _ _ _) rfl ?_
        exact ⟨⟨_, rfl⟩, .inr ⟨_, V', trivial, HJX.out⟩⟩
end Go.Proofs.Ytmmmimkikakalaa
