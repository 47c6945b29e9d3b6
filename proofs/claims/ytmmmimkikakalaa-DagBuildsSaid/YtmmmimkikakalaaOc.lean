/- What arguments hold: ids, keys, slices of them. -/
import Derived.Test.YtmmmimkikakalaaNz
import Derived.Lib.SmallJoins
import Derived.ProofKit
import Derived.OpenShut
import Derived.ChangeArms
import Derived.ChangeSlices
import Derived.Deep.Slices
import Derived.Deep.Strs
namespace Go.Proofs.Ytmmmimkikakalaa
open Go.RowKit Go.WideShapes Go.ChangeShapes Go.ChangeMaps Go.Deep
set_option linter.unusedVariables false

theorem fits_of_cells {w : World} {b off n : Nat} {sp : Option Nat} {cs : List Value} (hn : 0 < n) (h : w.cells? 0 ⟨b, off, none⟩ n = some cs) :
    fits w ⟨b, off, none⟩ n ∧ (aggAt w ⟨b, off, none⟩ n).toList = cs ∧ cs.length = n := by
  obtain ⟨_, hlen, hc⟩ := World.cells?_some h
  have hadd : ∀ j, (⟨b, off, none⟩ : Addr).add j = ⟨b, off + j, none⟩ := fun j => by unfold Addr.add; split <;> simp_all
  have hl := hc (n - 1) (by omega)
  rw [hadd] at hl
  have hf : fits w ⟨b, off, none⟩ n := by
    have hx : ∃ v, w.cell? ⟨b, off + (n - 1), none⟩ = some v := by
      refine ⟨cs[n - 1]'(by omega), ?_⟩
      rw [hl]; simp
    obtain ⟨v, hv⟩ := hx
    unfold World.cell? at hv
    split at hv
    · rename_i c t fr hh
      simp at hv
      have := (Array.getElem?_eq_some_iff.1 hv).1
      exact ⟨rfl, c, t, fr, hh, by simp; omega⟩
    · cases hv
  refine ⟨hf, ?_, hlen⟩
  apply List.ext_getElem?
  intro j
  by_cases hj : j < n
  · have h1 := aggAt_get hf hj
    have h2 := hc j hj
    rw [hadd, h1] at h2
    simpa using h2
  · rw [List.getElem?_eq_none (by rw [Array.length_toList, aggAt_size hf]; omega), List.getElem?_eq_none (by omega)]

theorem slice_reads {H : Type} {enc : TypeId × Value → H} {P : Program} {W : World} {t e : TypeId} {n : Nat} {v : Value} {d : DataW H} {p : List MemPlace} {α : Type} [Inhabited α] (Is : List Value → α → Prop)
    (ht : P.underlying t = some (.slice e)) (hc : P.cellsOf e = n) (hn : 0 < n)
    (hIs : ∀ fuel cs x, DataW.trod enc P W 0 (fun _ => true) true fuel e cs = some x → ∃ a, Is cs a)
    (h : DataW.Trod enc P W 0 (fun _ => true) true t v d p) (hok : ∃ a len cap, v = .slice a len cap) :
    ∃ (a : Option Addr) (cap : Nat) (xs : List α), v = .slice a xs.length cap ∧ xs.length ≤ cap ∧ cap ≤ maxLen ∧ (a = none → xs = [] ∧ cap = 0) ∧
      (xs = [] ∨ ∃ b off, a = some ⟨b, off, none⟩ ∧ ∀ i, i < xs.length → fits W ⟨b, off + i * n, none⟩ n ∧ Is (aggAt W ⟨b, off + i * n, none⟩ n).toList (xs.getD i default)) := by
  obtain ⟨a0, len0, cap0, rfl⟩ := hok
  obtain ⟨fuel, hf⟩ := h
  rcases open_slice ht hf with ⟨hcs, _⟩ | ⟨a, len, cap, m, n', D, Pl, hcs, _, hl, hm, hmm, _, hx⟩
  · simp [Value.cells] at hcs
    obtain ⟨rfl, rfl, rfl⟩ := hcs
    exact ⟨none, 0, [], rfl, by simp, by unfold maxLen; omega, fun _ => ⟨rfl, rfl⟩, .inl rfl⟩
  · simp [Value.cells] at hcs
    obtain ⟨rfl, rfl, rfl⟩ := hcs
    simp only [if_true] at hmm
    subst hmm
    obtain ⟨V, hV⟩ := choose_lt (α := α) (n := len0) (p := fun i x => ∃ cs', W.cells? 0 (a.add (i * n)) n = some cs' ∧ Is cs' x) (fun i hi => by
      obtain ⟨cs', h1, h2⟩ := hx i (by omega)
      obtain ⟨x, hx⟩ := hIs _ _ _ h2
      rw [hc] at h1
      exact ⟨x, cs', h1, hx⟩)
    refine ⟨some a, m, (List.range len0).map V, by simp, by simpa using hl, hm, (fun h => by cases h), ?_⟩
    by_cases h0 : len0 = 0
    · subst h0; exact .inl (by simp)
    right
    obtain ⟨b, off, sp⟩ := a
    have hsp : sp = none := by
      obtain ⟨cs', h1, _⟩ := hV 0 (by omega)
      obtain ⟨_, hlen, hcc⟩ := World.cells?_some h1
      have h2 := hcc 0 hn
      have h3 : cs'[0]? = some (cs'[0]'(by omega)) := by simp
      rw [h3] at h2
      cases sp with
      | none => rfl
      | some s => simp [World.cell?, Addr.add] at h2; split at h2 <;> simp at h2
    subst hsp
    have hadd : ∀ j, (⟨b, off, none⟩ : Addr).add j = ⟨b, off + j, none⟩ := fun j => by unfold Addr.add; split <;> simp_all
    refine ⟨b, off, rfl, fun i hi => ?_⟩
    simp only [List.length_map, List.length_range] at hi
    obtain ⟨cs', h1, h2⟩ := hV i hi
    rw [hadd] at h1
    obtain ⟨h3, h4, h5⟩ := fits_of_cells (sp := none) hn h1
    refine ⟨h3, ?_⟩
    rw [h4]
    simpa [hi] using h2


theorem trod_id {H : Type} {enc : TypeId × Value → H} {W : World} {fuel : Nat} {cs : List Value} {x : DataW H × List MemPlace}
    (h : DataW.trod enc Try.prog W 0 (fun _ => true) true fuel 24 cs = some x) : ∃ z : List UInt8, z.length = 32 ∧ cs = Lib.byteCells z := by
  obtain ⟨xs, m, _, _, hl, hx, hi⟩ := DataW.trod_array Try.underlying24 h
  rw [cells24] at hl
  rw [cells5] at hi
  have hb : ∀ i, i < 32 → ∃ c : UInt8, cs[i]? = some (.int .u8 c.toNat) := fun i h32 => by
    have h1 := hi i h32
    have hc : cs[i]? = some (cs[i]'(by omega)) := by simp
    have hd : (cs.drop (i * 1)).take 1 = [cs[i]'(by omega)] := by
      rw [Nat.mul_one, List.drop_eq_getElem_cons (by omega), List.take_succ_cons, List.take_zero]
    rw [hd] at h1
    generalize cs[i]'(by omega) = u at *
    have h3 : xs[i]? = some (xs[i]'(by omega)) := by simp
    rw [h3] at h1
    have h2 : ∃ n, u = .int .u8 n ∧ (Lit.int .u8 n).wf = true := by
      cases m with
      | zero => simp [DataW.trod] at h1
      | succ m =>
        unfold DataW.trod at h1
        rw [Try.underlying5] at h1
        split at h1 <;> simp_all
    obtain ⟨n, rfl, hw⟩ := h2
    have hb := bounds_u8 hw
    exact ⟨UInt8.ofNat n.toNat, by rw [hc]; simp; omega⟩
  obtain ⟨V, hV⟩ := choose_lt (α := UInt8) (n := 32) (p := fun i c => cs[i]? = some (.int .u8 c.toNat)) hb
  refine ⟨(List.range 32).map V, by simp, ?_⟩
  apply List.ext_getElem?
  intro j
  by_cases hj : j < 32
  · rw [hV j hj]; simp [Lib.byteCells, hj]
  · rw [List.getElem?_eq_none (by omega), List.getElem?_eq_none (by simp [Lib.byteCells]; omega)]

/-- An argument that is an id. -/
theorem reads_id {H : Type} {enc : TypeId × Value → H} {W : World} {v : Value} {d : DataW H} {p : List MemPlace}
    (hok : ∃ cs, v = .agg cs) (h : DataW.Trod enc Try.prog W 0 (fun _ => true) true 24 v d p) : ∃ z : List UInt8, z.length = 32 ∧ v = .agg (idB z) := by
  obtain ⟨cs, rfl⟩ := hok
  obtain ⟨fuel, hf⟩ := h
  obtain ⟨z, hl, hz⟩ := trod_id hf
  refine ⟨z, hl, ?_⟩
  simp only [Value.cells] at hz
  unfold idB
  rw [← hz]
theorem reads_ids {H : Type} {enc : TypeId × Value → H} {W : World} {v : Value} {d : DataW H} {p : List MemPlace}
    (hok : ∃ a len cap, v = .slice a len cap) (h : DataW.Trod enc Try.prog W 0 (fun _ => true) true 30 v d p) :
    ∃ (a : Option Addr) (cap : Nat) (xs : List (List UInt8)), v = .slice a xs.length cap ∧ xs.length ≤ cap ∧ cap ≤ maxLen ∧ IdsIn W a xs ∧ (a = none → xs = [] ∧ cap = 0) := by
  obtain ⟨a, cap, xs, rfl, h1, h2, h3, h4⟩ := slice_reads (α := List UInt8) (fun cs z => z.length = 32 ∧ cs = Lib.byteCells z) Try.underlying30 cells24 (by decide) (fun fuel cs x hx => trod_id hx) h hok
  refine ⟨a, cap, xs, rfl, h1, h2, ⟨fun x hx => ?_, ?_⟩, h3⟩
  · rcases h4 with rfl | ⟨b, off, rfl, hc⟩
    · simp at hx
    · obtain ⟨i, hi, rfl⟩ := List.getElem_of_mem hx
      have := (hc i hi).2.1
      simpa [List.getD_eq_getElem?_getD, hi] using this
  · rcases h4 with rfl | ⟨b, off, rfl, hc⟩
    · exact .inl rfl
    · refine .inr ⟨b, off, rfl, fun i hi => ⟨(hc i hi).1, ?_⟩⟩
      have := (hc i hi).2.2
      apply Array.ext'
      rw [this]
      unfold idB
      simp only [show (default : List UInt8) = [] from rfl]

set_option maxRecDepth 100000 in
theorem trod_int {H : Type} {enc : TypeId × Value → H} {W : World} {fuel : Nat} {l : List Value} {x : DataW H × List MemPlace} (hx : DataW.trod enc Try.prog W 0 (fun _ => true) true fuel 3 l = some x) : ∃ n, l = [.int .i64 n] ∧ (Lit.int .i64 n).wf = true := by
  cases fuel with
  | zero => simp [DataW.trod] at hx
  | succ m =>
    unfold DataW.trod at hx
    rw [Try.underlying3] at hx
    split at hx <;> simp_all
/-- A node as an argument holds it, its parents with it. -/
def rnW (W : World) : Rec (RN × List (List UInt8)) where
  enc x := rnR.enc x.1
  sz := 34
  ok x := x.1.1.length = 32 ∧ x.1.2.1.2.1 = x.2.length ∧ SlI W (.slice x.1.2.1.1 x.1.2.1.2.1 x.1.2.1.2.2) x.2
  pos := by decide
  len x h := rnR.len x.1 h.1
  one x h := rnR.one x.1 h.1
set_option maxRecDepth 100000 in
theorem trod_gn {H : Type} {enc : TypeId × Value → H} {W : World} {fuel : Nat} {cs : List Value} {x : DataW H × List MemPlace}
    (h : DataW.trod enc Try.prog W 0 (fun _ => true) true fuel 51 cs = some x) : ∃ e, (rnW W).ok e ∧ cs = (rnW W).enc e := by
  obtain ⟨y0, y1, y2, n, _, hl, h0, h1, h2⟩ := trod_struct3 Try.underlying51 h
  obtain ⟨z, hz, e0⟩ := trod_id h0
  obtain ⟨st, e2, _⟩ := trod_int h2
  have c24 : Try.prog.cellsOf 24 = 32 := by kernel_rfl
  have c30 : Try.prog.cellsOf 30 = 1 := by kernel_rfl
  have c3 : Try.prog.cellsOf 3 = 1 := by kernel_rfl
  have c51 : Try.prog.cellsOf 51 = 34 := by kernel_rfl
  rw [c51] at hl
  simp only [c24, c30, c3, List.drop_zero] at e0 h1 e2
  have hv : ∃ v ps, (cs.drop 32).take 1 = [v] ∧ ∃ a k, v = .slice a ps.length k ∧ SlI W (.slice a ps.length k) ps := by
    obtain ⟨v, hv⟩ : ∃ v, (cs.drop 32).take 1 = [v] := by
      have : ((cs.drop 32).take 1).length = 1 := by simp; omega
      match hd : (cs.drop 32).take 1, this with
      | [a], _ => exact ⟨a, rfl⟩
    rw [hv] at h1
    have hsl : ∃ a l k, v = .slice a l k := by
      rcases open_slice Try.underlying30 h1 with ⟨hcs, _⟩ | ⟨a, len, cap, m, n', D, Pl, hcs, _⟩
      · simp at hcs; exact ⟨_, _, _, hcs⟩
      · simp at hcs; exact ⟨_, _, _, hcs⟩
    obtain ⟨a, cap, xs, rfl, q1, q2, q3, q4⟩ := reads_ids (enc := enc) (d := y1.1) (p := y1.2) hsl ⟨n, by obtain ⟨a, l, k, rfl⟩ := hsl; simpa [Value.cells] using h1⟩
    exact ⟨_, xs, hv, a, cap, rfl, a, cap, rfl, q1, q2, q3, q4⟩
  obtain ⟨v, ps, e1, a, k, rfl, hps⟩ := hv
  refine ⟨((z, (a, ps.length, k), st), ps), ⟨hz, rfl, hps⟩, ?_⟩
  have a0 : (cs.drop 32).length = 2 := by simp; omega
  have b2 : ((cs.drop 32).drop 1).take 1 = [.int .i64 st] := by rw [List.drop_drop]; exact e2
  have hfin : cs.drop 32 = [.slice a ps.length k, .int .i64 st] := by
    match hd : cs.drop 32, a0 with
    | [a', b'], _ =>
      rw [hd] at e1 b2
      simp at e1 b2
      rw [e1, b2]
  have hall : cs = cs.take 32 ++ cs.drop 32 := (List.take_append_drop 32 cs).symm
  rw [e0, hfin] at hall
  rw [hall]
  show _ = (idB z).toList ++ _
  simp [idB]
set_option maxRecDepth 100000 in
/-- What a list of nodes holds. -/
theorem reads_gn {H : Type} {enc : TypeId × Value → H} {W : World} {v : Value} {d : DataW H} {p : List MemPlace} (h : DataW.Trod enc Try.prog W 0 (fun _ => true) true 22 v d p) (hok : ∃ a len cap, v = .slice a len cap) :
    ∃ (a : Option Addr) (c : Nat) (L : List GN), v = .slice a L.length c ∧ RefG W a L := by
  obtain ⟨xs, a, c, rfl, _, _, hi, _⟩ := Rec.reads (R := rnW W) Try.underlying22 (by kernel_rfl) (fun fuel cs y hy => trod_gn hy) h hok
  refine ⟨a, c, xs.map fun x => (x.1.1, x.2, x.1.2.2), by rw [List.length_map], xs.map (·.1), by simp, ⟨fun r hr => ?_, ?_⟩, fun i hi' => ?_⟩
  · obtain ⟨x, hx, rfl⟩ := List.mem_map.1 hr
    exact (hi.1 x hx).1
  · rcases hi.2 with rfl | ⟨b, off, rfl, hlt, hc⟩
    · exact .inl rfl
    · refine .inr ⟨b, off, rfl, hlt, fun i r hr => ?_⟩
      rw [List.getElem?_map] at hr
      obtain ⟨x, hx, rfl⟩ := Option.map_eq_some_iff.1 hr
      exact hc i x hx
  · rw [List.length_map] at hi'
    have h9 := hi.1 xs[i] (List.getElem_mem hi')
    refine ⟨xs[i].1, by simp [List.getElem?_eq_getElem hi'], by simp, by simp, by simpa using h9.2.1, by simpa using h9.2.2⟩
end Go.Proofs.Ytmmmimkikakalaa

namespace Go.Proofs.Ytmmmimkikakalaa
open Go.RowKit Go.Maps
set_option linter.unusedVariables false

def codeE (G : List GN) (x : List UInt8) : Int := if isNode G x = true then 0 else 12
noncomputable def pastE (G : List GN) (x : List UInt8) : List (List UInt8) := if isNode G x = true then pastL G x else []
noncomputable def logE (G : List GN) (x : List UInt8) : List (List UInt8) := if isNode G x = true then logL G x else []
def code2E (G : List GN) (a b : List UInt8) : Int := if (isNode G a && isNode G b) = true then 0 else 12
noncomputable def basesE (G : List GN) (a b : List UInt8) : List (List UInt8) := if (isNode G a && isNode G b) = true then basesL G a b else []
theorem SlI.in {w : World} {p : Option Addr} {n c : Nat} {L : List (List UInt8)} (h : SlI w (.slice p n c) L) : IdsIn w p L := by
  obtain ⟨a, c', he, _, _, h3, _⟩ := h
  injection he with e1 e2 e3
  rw [e1]; exact h3
theorem slI_nil (w : World) : SlI w (.slice none 0 0) [] := ⟨none, 0, rfl, Nat.le_refl _, by decide, ⟨by simp, .inl rfl⟩, fun _ => ⟨rfl, rfl⟩⟩
theorem row_sl {base : Nat} {L : List (List UInt8)} {v : Value} {w : World} (h32 : ∀ x ∈ L, x.length = 32) (h : rowI base L v w) : ∃ p c, v = .slice p L.length c ∧ SlI w (.slice p L.length c) L := by
  obtain ⟨a, c, rfl, h1, h2, h3, h4⟩ := SlI_row h32 h
  exact ⟨a, c, rfl, a, c, rfl, h1, h2, h3, h4⟩
theorem isNode_and {G : List GN} {a b : List UInt8} (h : (isNode G a && isNode G b) = true) : isNode G a = true ∧ isNode G b = true := by simpa using h
theorem basesL_32 {G : List GN} (hG : Wf G) {a b : List UInt8} : ∀ x ∈ basesL G a b, x.length = 32 := fun x hx => by
  unfold basesL at hx
  rw [setL_mem, List.mem_filter] at hx
  exact pastL_32 hG x (commonL_mem.1 hx.1).1
theorem basesL_len (G : List GN) (a b : List UInt8) : (basesL G a b).length ≤ G.length := nodes_len (strict_nodup (setL_strict _)) (fun y hy => by
  unfold basesL at hy
  rw [setL_mem, List.mem_filter] at hy
  exact pastL_node y (commonL_mem.1 hy.1).1)
theorem basesE_len (G : List GN) (a b : List UInt8) : (basesE G a b).length ≤ G.length := by
  unfold basesE
  split
  · exact basesL_len G a b
  · simp
theorem pastE_len (G : List GN) (x : List UInt8) : (pastE G x).length ≤ G.length := by
  unfold pastE
  split
  · exact pastL_len G x
  · simp
theorem logE_len (G : List GN) (x : List UInt8) : (logE G x).length ≤ G.length := by
  unfold logE
  split
  · rw [logL, logN_len]; exact pastL_len G x
  · simp
theorem idsL_len (G : List GN) : (idsL G).length ≤ G.length := nodes_len (strict_nodup (setL_strict _)) (fun y hy => by
  unfold idsL at hy
  rw [setL_mem] at hy
  exact isNode_mem.2 hy)
theorem headsL_len (G : List GN) : (headsL G).length ≤ G.length := nodes_len (strict_nodup (setL_strict _)) (fun y hy => by
  unfold headsL at hy
  rw [setL_mem, List.mem_filter] at hy
  exact isNode_mem.2 hy.1)
theorem idsL_32 {G : List GN} (hG : Wf G) : ∀ x ∈ idsL G, x.length = 32 := fun x hx => by
  unfold idsL at hx
  rw [setL_mem] at hx
  exact isNode_len hG (isNode_mem.2 hx)
theorem headsL_32 {G : List GN} (hG : Wf G) : ∀ x ∈ headsL G, x.length = 32 := fun x hx => by
  unfold headsL at hx
  rw [setL_mem, List.mem_filter] at hx
  exact isNode_len hG (isNode_mem.2 hx.1)
theorem logL_mem {G : List GN} (hG : Wf G) {x : List UInt8} : ∀ y ∈ logL G x, y ∈ pastL G x := by
  have key : ∀ n, n ≤ (pastL G x).length → LogIs G (pastL G x) n := by
    intro n
    induction n with
    | zero => intro _; exact LogIs.zero _ _
    | succ n ih =>
      intro hn
      have h := ih (by omega)
      obtain ⟨z, hz, hc⟩ := cand_ex hG (some_left (O := logN G (pastL G x) n) (strict_nodup (pastL_strict G x)) (by rw [logN_len]; omega))
      have hex : ∃ y, IsBest G (pastL G x) (logN G (pastL G x) n) y := by
        have : ∀ i, i ≤ (pastL G x).length → ∃ m, BestTo G (pastL G x) (logN G (pastL G x) n) i m := by
          intro i
          induction i with
          | zero => intro _; exact ⟨none, fun j hj => by omega⟩
          | succ i ih2 =>
            intro hi
            obtain ⟨m, hm⟩ := ih2 (by omega)
            by_cases hcc : candB G (pastL G x) (logN G (pastL G x) n) ((pastL G x).getD i []) = true
            · cases m with
              | none => exact ⟨_, hm.first (by omega) hcc⟩
              | some k =>
                by_cases hs : stampOf G ((pastL G x).getD k []) < stampOf G ((pastL G x).getD i [])
                · exact ⟨_, hm.more (by omega) hcc hs⟩
                · exact ⟨_, hm.less hs⟩
            · exact ⟨_, hm.skip (by simpa using hcc)⟩
        obtain ⟨m, hm⟩ := this _ (Nat.le_refl _)
        obtain ⟨k, _, _, hk⟩ := hm.all (pastL_strict G x) ⟨z, hz, hc⟩
        exact ⟨_, hk⟩
      obtain ⟨y, hy⟩ := hex
      exact (h.step hy).2
  exact (key _ (Nat.le_refl _)).sub
theorem logL_32 {G : List GN} (hG : Wf G) {x : List UInt8} : ∀ y ∈ logL G x, y.length = 32 := fun y hy => pastL_32 hG y (logL_mem hG y hy)
theorem parsOf_32 {G : List GN} (hG : Wf G) {x : List UInt8} : ∀ y ∈ parsOf G x, y.length = 32 := fun y hy => isNode_len hG (par_up hG hy).2.1

/-- What a call answers: a slice of ids and a code. -/
def Ans (w : World) (L : List (List UInt8)) (er : Int) (e : Ending) (w' : World) : Prop := ∃ p c, e = .returned (.tuple #[.slice p L.length c, .int .i64 er]) ∧ SlI w' (.slice p L.length c) L ∧ Below w.heap.size w w'
/-- What a call answers: a slice of ids. -/
def Ans1 (w : World) (L : List (List UInt8)) (e : Ending) (w' : World) : Prop := ∃ p c, e = .returned (.slice p L.length c) ∧ SlI w' (.slice p L.length c) L ∧ Below w.heap.size w w'
theorem ans_no {w : World} {er : Int} {e : Ending} {w' : World} (h : e = .returned (.tuple #[.slice none 0 0, .int .i64 er]) ∧ Below w.heap.size w w') : Ans w [] er e w' := ⟨none, 0, h.1, slI_nil w', h.2⟩
theorem ans_row {w : World} {L : List (List UInt8)} (h32 : ∀ x ∈ L, x.length = 32) {er : Int} {e : Ending} {w' : World} (h : ∃ v, e = .returned (.tuple #[v, .int .i64 er]) ∧ rowI w.heap.size L v w' ∧ Below w.heap.size w w') : Ans w L er e w' := by
  obtain ⟨v, rfl, hr, hb⟩ := h
  obtain ⟨p, c, rfl, hs⟩ := row_sl h32 hr
  exact ⟨p, c, rfl, hs, hb⟩
theorem ans1_row {w : World} {L : List (List UInt8)} (h32 : ∀ x ∈ L, x.length = 32) {e : Ending} {w' : World} (h : ∃ v, e = .returned v ∧ rowI w.heap.size L v w' ∧ Below w.heap.size w w') : Ans1 w L e w' := by
  obtain ⟨v, rfl, hr, hb⟩ := h
  obtain ⟨p, c, rfl, hs⟩ := row_sl h32 hr
  exact ⟨p, c, rfl, hs, hb⟩

theorem bases_all (gb mb : Nat) (G : List GN) (a b : List UInt8) (ha : a.length = 32) (hb : b.length = 32) (w : World) (hlen : G.length ≤ 400) (hwf : Wf G) (hG : GraphAt w gb mb G) :
    Calls Try.prog 11 #[.pointer (some ⟨gb, 0, none⟩), .agg (idB a), .agg (idB b)] w (Ans w (basesE G a b) (code2E G a b)) := by
  unfold basesE code2E
  by_cases h : (isNode G a && isNode G b) = true
  · rw [if_pos h, if_pos h]
    exact (bases_any gb mb G a b w hlen hwf hG (isNode_and h).1 (isNode_and h).2).mono fun _ _ h' => ans_row (basesL_32 hwf) h'
  · rw [if_neg h, if_neg h]
    exact (bases_no gb mb G a b ha hb w hG (by simpa using h)).mono fun _ _ h' => ans_no h'
theorem rbases_all (p : Option Addr) (c : Nat) (G : List GN) (a b : List UInt8) (ha : a.length = 32) (hb : b.length = 32) (w : World) (hlen : G.length ≤ 400) (hwf : Wf G) (hG : RefG w p G) :
    Calls Try.prog 12 #[.slice p G.length c, .agg (idB a), .agg (idB b)] w (Ans w (basesE G a b) (code2E G a b)) := by
  unfold basesE code2E
  by_cases h : (isNode G a && isNode G b) = true
  · rw [if_pos h, if_pos h]
    exact (rbases_any p c G a b w (by omega) hwf hG (isNode_and h).1 (isNode_and h).2).mono fun _ _ h' => ans_row (basesL_32 hwf) h'
  · rw [if_neg h, if_neg h]
    exact (rbases_no p c G a b ha hb w (by omega) hG (by simpa using h)).mono fun _ _ h' => ans_no h'
theorem past_all (gb mb : Nat) (G : List GN) (x : List UInt8) (hx : x.length = 32) (w : World) (hlen : G.length ≤ 400) (hwf : Wf G) (hG : GraphAt w gb mb G) :
    Calls Try.prog 19 #[.pointer (some ⟨gb, 0, none⟩), .agg (idB x)] w (Ans w (pastE G x) (codeE G x)) := by
  unfold pastE codeE
  by_cases h : isNode G x = true
  · rw [if_pos h, if_pos h]
    exact (past_any gb mb G x w (by omega) hwf hG h).mono fun _ _ h' => ans_row (pastL_32 hwf) h'
  · rw [if_neg h, if_neg h]
    exact (past_no gb mb G x hx w hG (by simpa using h)).mono fun _ _ h' => ans_no h'
theorem rpast_all (p : Option Addr) (c : Nat) (G : List GN) (x : List UInt8) (hx : x.length = 32) (w : World) (hlen : G.length ≤ 400) (hwf : Wf G) (hG : RefG w p G) :
    Calls Try.prog 29 #[.slice p G.length c, .agg (idB x)] w (Ans w (pastE G x) (codeE G x)) := by
  unfold pastE codeE
  by_cases h : isNode G x = true
  · rw [if_pos h, if_pos h]
    exact (rpast_any p c G x w (by omega) hwf hG h).mono fun _ _ h' => ans_row (pastL_32 hwf) h'
  · rw [if_neg h, if_neg h]
    exact (rpast_no p c G x hx w (by omega) hG (by simpa using h)).mono fun _ _ h' => ans_no h'
theorem log_all (gb mb : Nat) (G : List GN) (x : List UInt8) (hx : x.length = 32) (w : World) (hlen : G.length ≤ 400) (hwf : Wf G) (hG : GraphAt w gb mb G) :
    Calls Try.prog 18 #[.pointer (some ⟨gb, 0, none⟩), .agg (idB x)] w (Ans w (logE G x) (codeE G x)) := by
  unfold logE codeE
  by_cases h : isNode G x = true
  · rw [if_pos h, if_pos h]
    exact (log_any gb mb G x w hlen hwf hG h).mono fun _ _ h' => ans_row (logL_32 hwf) h'
  · rw [if_neg h, if_neg h]
    exact (log_err (some ⟨gb, 0, none⟩) 12 (by decide) x hx w (fun W hb => past_no gb mb G x hx W (hG.below hb) (by simpa using h))).mono fun _ _ h' => ans_no h'
theorem rlog_all (p : Option Addr) (c : Nat) (G : List GN) (x : List UInt8) (hx : x.length = 32) (w : World) (hlen : G.length ≤ 400) (hwf : Wf G) (hG : RefG w p G) :
    Calls Try.prog 30 #[.slice p G.length c, .agg (idB x)] w (Ans w (logE G x) (codeE G x)) := by
  unfold logE codeE
  by_cases h : isNode G x = true
  · rw [if_pos h, if_pos h]
    exact (rlog_any p c G x w (by omega) hwf hG h).mono fun _ _ h' => ans_row (logL_32 hwf) h'
  · rw [if_neg h, if_neg h]
    exact (rlog_no p c G x hx w (by omega) hG (by simpa using h)).mono fun _ _ h' => ans_no h'
theorem parents_all (gb mb : Nat) (G : List GN) (x : List UInt8) (hx : x.length = 32) (w : World) (hwf : Wf G) (hG : GraphAt w gb mb G) :
    Calls Try.prog 21 #[.pointer (some ⟨gb, 0, none⟩), .agg (idB x)] w (Ans w (parsOf G x) (codeE G x)) := by
  unfold codeE
  by_cases h : isNode G x = true
  · rw [if_pos h]
    exact (parents_any gb mb G x hx w hG h (by have := pars_len hwf x; omega)).mono fun _ _ h' => ans_row (parsOf_32 hwf) h'
  · rw [if_neg h, parsOf_no (by simpa using h)]
    exact (parents_no gb mb G x hx w hG (by simpa using h)).mono fun _ _ h' => ans_no h'
theorem ids_all (gb mb : Nat) (G : List GN) (w : World) (hlen : G.length ≤ 400) (hwf : Wf G) (hG : GraphAt w gb mb G) : Calls Try.prog 17 #[.pointer (some ⟨gb, 0, none⟩)] w (Ans1 w (idsL G)) :=
  (ids_any gb mb G w (by omega) hG).mono fun _ _ h' => ans1_row (idsL_32 hwf) h'
theorem rids_all (p : Option Addr) (c : Nat) (G : List GN) (w : World) (hlen : G.length ≤ 400) (hwf : Wf G) (hG : RefG w p G) : Calls Try.prog 27 #[.slice p G.length c] w (Ans1 w (idsL G)) :=
  (rids_any p c G w (by omega) hwf hG).mono fun _ _ h' => ans1_row (idsL_32 hwf) h'
theorem heads_all (gb mb : Nat) (G : List GN) (w : World) (hlen : G.length ≤ 400) (hwf : Wf G) (hG : GraphAt w gb mb G) : Calls Try.prog 26 #[.pointer (some ⟨gb, 0, none⟩)] w (Ans1 w (headsL G)) :=
  (heads_any gb mb G w hlen hwf hG).mono fun _ _ h' => ans1_row (headsL_32 hwf) h'
theorem rheads_all (p : Option Addr) (c : Nat) (G : List GN) (w : World) (hlen : G.length ≤ 400) (hwf : Wf G) (hG : RefG w p G) : Calls Try.prog 28 #[.slice p G.length c] w (Ans1 w (headsL G)) :=
  (rheads_any p c G w (by omega) hwf hG).mono fun _ _ h' => ans1_row (headsL_32 hwf) h'

theorem light_len {L : List GN} (h : lightG L = true) : L.length ≤ 16 ∧ ∀ g ∈ L, g.2.1.length ≤ 1000000 := by
  unfold lightG at h
  simp only [Bool.and_eq_true, decide_eq_true_eq, List.all_eq_true] at h
  exact ⟨h.1, fun g hg => by have := h.2 g hg; omega⟩
theorem builtG_16 {L : List GN} (h : L.length ≤ 16) : (builtG L).length ≤ 16 := by
  have := builtG_len L L.length
  rw [List.take_length] at this
  omega
theorem RefG.len32 {w : World} {p : Option Addr} {L : List GN} (h : RefG w p L) : ∀ g ∈ L, g.1.length = 32 := fun g hg => by
  obtain ⟨i, hi, rfl⟩ := List.getElem_of_mem hg
  obtain ⟨b, off, a, c, x, ps, st, _, _, h3, h4, _⟩ := h.at hi
  rw [List.getElem?_eq_getElem hi] at h3
  injection h3 with h3
  rw [h3]; exact h4
/-- A graph built on both sides, of an argument. -/
theorem built_all (p : Option Addr) (c : Nat) (L : List GN) (w : World) (hl : lightG L = true) (hL : RefG w p L) :
    Calls Try.prog 10 #[.slice p L.length c] w fun e w' => ∃ gb mb p' c' G, e = .returned (.tuple #[.pointer (some ⟨gb, 0, none⟩), .slice p' G.length c', .bool true]) ∧ G.length ≤ 16 ∧ Wf G ∧ GraphAt w' gb mb G ∧ RefG w' p' G ∧ Below w.heap.size w w' := by
  refine (built_any p c L w (by have := (light_len hl).1; omega) (light_len hl).2 hL).mono ?_
  rintro e w' ⟨gb, mb, p', c', rfl, _, _, _, hG, hR, _, hb⟩
  exact ⟨gb, mb, p', c', builtG L, rfl, builtG_16 (light_len hl).1, builtG_wf L hL.len32, hG, hR, hb⟩
end Go.Proofs.Ytmmmimkikakalaa
