/- Heads; what a graph that is not there says of Is. -/
import Derived.Test.YtmmmimkikakalaaNs
namespace Go.Proofs.Ytmmmimkikakalaa
open Go.RowKit Go.Maps
set_option linter.unusedVariables false

theorem nodeOf_self {G : List GN} (h : Wf G) {g : GN} (hg : g ∈ G) : nodeOf G g.1 = g := by
  have hn : isNode G g.1 = true := isNode_mem.2 (List.mem_map_of_mem hg)
  obtain ⟨h1, h2⟩ := nodeOf_mem hn
  obtain ⟨i, hi, e1⟩ := List.getElem_of_mem h1
  obtain ⟨j, hj, e2⟩ := List.getElem_of_mem hg
  have hm := h.nodup
  have : i = j := by
    refine nodup_idx hm (by simpa using hi) (by simpa using hj) ?_
    simp only [List.getElem_map]
    rw [e1, e2, h2]
  subst this
  rw [← e1, e2]
theorem parsOf_self {G : List GN} (h : Wf G) {g : GN} (hg : g ∈ G) : parsOf G g.1 = g.2.1 := by unfold parsOf; rw [nodeOf_self h hg]
theorem heap_new2 (w : World) (a b : Value) (t : TypeId) : (w.alloc (.cells #[a, b] t)).cell? ⟨w.heap.size, 0, none⟩ = some a := by
  rw [Lib.cell_of_heap (World.alloc_heap_new w _)]; rfl
/-- The heads are the nodes less all parents. -/
theorem heads_less {G : List GN} (h : Wf G) {xs : List (List UInt8)} (hx : ∀ x, x ∈ xs ↔ x ∈ G.map (·.1)) : setL ((idsL G).filter fun z => !decide (z ∈ (xs.map (parsOf G)).flatten)) = headsL G := by
  unfold headsL
  refine setL_congr (fun y => ?_)
  rw [List.mem_filter, List.mem_filter]
  unfold idsL
  rw [setL_mem]
  refine and_congr_right fun hy => ?_
  unfold headB
  rw [List.all_eq_true]
  simp only [Bool.not_eq_true', decide_eq_false_iff_not, List.mem_flatten, List.mem_map, not_exists, not_and]
  constructor
  · intro hn g hg hyg
    exact hn _ ⟨g.1, (hx g.1).2 (List.mem_map_of_mem hg), rfl⟩ (by rw [parsOf_self h hg]; exact hyg)
  · rintro hn l ⟨x, hxx, rfl⟩ hyl
    obtain ⟨g, hg, rfl⟩ := List.mem_map.1 ((hx x).1 hxx)
    rw [parsOf_self h hg] at hyl
    exact hn g hg hyl
/-- What stands in the graph's map at a node. -/
theorem graph_entry {w : World} {G : List GN} {D : DataW Unit} (h : GraphD w G D) (hwf : Wf G) {x : List UInt8} (hx : isNode G x = true) {c : Value} {d : DataW Unit} {ps : List MemPlace} (hc : nodR c = some (d, ps)) (hat : ∀ z, D.atKey (kL x) z = d) :
    ∃ a cap, c = .agg #[.slice a (parsOf G x).length cap, .int .i64 (stampOf G x)] ∧ SlI w (.slice a (parsOf G x).length cap) (parsOf G x) := by
  obtain ⟨hm, he⟩ := nodeOf_mem hx
  obtain ⟨h32, a, cap, hs, hat2, ha⟩ := h.node _ hm
  rw [he] at hat2
  rw [hat] at hat2
  obtain ⟨a', n', c', s', hv, hdd, _, ha'⟩ := nodR_inv hc
  rw [hat2] at hdd
  obtain ⟨rfl, rfl, rfl, rfl⟩ := ndD_inj ha ha' hdd
  exact ⟨a, cap, hv, hs⟩

set_option maxHeartbeats 4000000 in
set_option maxRecDepth 100000 in
theorem heads_any (gb mb : Nat) (G : List GN) (w : World) (hlen : G.length ≤ 400) (hwf : Wf G) (hG : GraphAt w gb mb G) :
    Calls Try.prog 26 #[.pointer (some ⟨gb, 0, none⟩)] w fun e w' => ∃ v, e = .returned v ∧ rowI w.heap.size (headsL G) v w' ∧ Below w.heap.size w w' := by
  have e0 := hG.cell
  obtain ⟨D, n, hn, ho, hd⟩ := hG.map
  have HO := Lib.hid ho
  have HD := Lib.hid hd
  have HG := Lib.hid hG
  have HWF := Lib.hid hwf
  have HLEN := Lib.hid hlen
  have HMB := Lib.hid ho.lt
  have HSZ := Lib.hid hd.size
  obtain ⟨HL, hHL⟩ : ∃ HL, HL = headsL G := ⟨_, rfl⟩
  have HHL := Lib.hid hHL
  rw [← hHL]
  clear hn ho hd hG hwf hHL
  go_enter Try.func26, Try.ntmps26
  go_wp2_with (at_range; refine wpList_range_own _ rfl _ 59 rfl 24 58 keyed24 Try.underlying59 nodR mb n D rfl HO.out ?_; intro w0 hrg0 hg0 hs0)
  have HG0 := Lib.hid (show Below w.heap.size w w0 from ⟨hg0.os, hg0.tape, hg0.output, hg0.size, fun k hk => hg0.block k hk (fun h => by cases h)⟩)
  have HS0 := Lib.hid hs0
  have HRG0 := Lib.hid hrg0
  clear hrg0 hg0 hs0 e0
  go_frame
  go_loopg [3] (Maps.size D) (fun g v3 wr => ∃ (left : Lit → Bool) (xs : List (List UInt8)) (O : List (List UInt8)), wr.ranges Try.prog 24 nodR mb w.heap.size n D left g ∧ xs.length + g ≤ Maps.size D ∧ (∀ x ∈ xs, x.length = 32) ∧ (∀ x : List UInt8, x.length = 32 → (x ∈ xs ↔ (Maps.has D (kL x) = true ∧ left (kL x) = false))) ∧ rowI (w.heap.size + 1) O v3 wr ∧ O = (xs.map (parsOf G)).flatten ∧ Below w.heap.size w wr ∧ w.heap.size + 1 ≤ wr.heap.size)
  case atStart =>
    refine ⟨_, [], [], HRG0.out, by simp, by simp, fun x hx => ?_, ⟨by simp [idsC], .inl ⟨rfl, rfl⟩⟩, by simp, HG0.out, by have := HS0.out; omega⟩
    cases Maps.has D (kL x) <;> simp
  case round =>
    obtain ⟨left, xs, O, hrg, hlen', h32, hmem, hrow, hO, hb, hws⟩ := hrel
    have HRG := Lib.hid hrg
    have HLN := Lib.hid hlen'
    have HX32 := Lib.hid h32
    have HMEM := Lib.hid hmem
    have HR := Lib.hid hrow
    have HOE := Lib.hid hO
    have HB := Lib.hid hb
    have HWS := Lib.hid hws
    have H32 := Lib.hid (show ∀ z ∈ O, z.length = 32 from fun z hz => by
      rw [hO] at hz
      obtain ⟨l, hl, hz⟩ := List.mem_flatten.1 hz
      obtain ⟨y, _, rfl⟩ := List.mem_map.1 hl
      exact isNode_len HWF.out (par_up HWF.out hz).2.1)
    have HOL := Lib.hid (show O.length ≤ 2 * xs.length by rw [hO]; exact flat_len (fun y => pars_len HWF.out y) _ (Nat.le_refl _))
    clear hrg hlen' h32 hmem hrow hO hb hws
    go_wp2_with (at_next; refine wpList_next_ranges _ rfl _ rfl 24 keyed24 nodR (fun x : Id32 => .agg (idB x.1)) id (fun key kl hk => by obtain ⟨x, hx, h32, _⟩ := key24_inv hk; exact ⟨⟨x, h32⟩, hx⟩) (fun v _ _ => ⟨v, rfl⟩) mb w.heap.size n D left gk rfl HRG.out ?_ ?_)
    · intro hc0 hl0
      have hmx : ∀ x, x ∈ xs ↔ x ∈ G.map (·.1) := fun x => by
        constructor
        · intro hx
          have := ((HMEM.out x (HX32.out x hx)).1 hx).1
          rw [HD.out.has x (HX32.out x hx)] at this
          exact of_decide_eq_true this
        · intro hx
          have h32 : x.length = 32 := by obtain ⟨g, hg, rfl⟩ := List.mem_map.1 hx; exact HWF.out.len g hg
          exact (HMEM.out x h32).2 ⟨by rw [HD.out.has x h32]; exact decide_eq_true hx, hl0 _⟩
      have HE := Lib.hid (show setL ((idsL G).filter fun z => !decide (z ∈ O)) = HL by rw [HOE.out, HHL.out]; exact heads_less HWF.out hmx)
      have HIDS := Lib.hid (ids_any gb mb G wr (by have := HLEN.out; omega) (HG.out.below HB.out))
      obtain ⟨a2, c2, rfl, p1, p2, p3, p4⟩ := SlI_row H32.out HR.out
      have HP := Lib.hid (And.intro p1 (And.intro p2 (And.intro p3 p4)))
      clear hc0 hl0 hmx p1 p2 p3 p4
      go_wp2_with fail
      refine HIDS.out.mono ?_
      rintro e w6 ⟨v6, rfl, hr6, hb6⟩
      have HB6 := Lib.hid (HB.out.trans (hb6.mono HB.out.size))
      obtain ⟨a1, c1, rfl, s1, s2, s3, s4⟩ := SlI_row (fun z hz => (show z.length = 32 from by unfold idsL at hz; rw [setL_mem] at hz; obtain ⟨g, hg, rfl⟩ := List.mem_map.1 hz; exact HWF.out.len g hg)) hr6
      have hil : (idsL G).length ≤ 1000 := by unfold idsL; have := setL_length (G.map (·.1)); have := HLEN.out; simp only [List.length_map] at *; omega
      have HMI := Lib.hid (minus_any a1 a2 c1 c2 (idsL G) O w6 s1 s2 hil s3 s4 HP.out.1 HP.out.2.1 (by have := HOL.out; have := HLEN.out; have := HLN.out; have := HSZ.out; omega) (HP.out.2.2.1.below hb6) HP.out.2.2.2)
      rw [HE.out] at HMI
      generalize idsL G = IL at *
      clear hr6 hb6 s1 s2 s3 s4 hil
      go_wp2_with fail
      refine HMI.out.mono ?_
      rintro e w7 ⟨v7, rfl, hr7, hb7⟩
      have HR7 := Lib.hid (ownsRow_base hr7 HB6.out.size)
      have HB7 := Lib.hid (HB6.out.trans (hb7.mono HB6.out.size))
      clear hr7 hb7
      go_wp2
      go_ret
      exact ⟨v7, rfl, HR7.out, HB7.out⟩
    · intro x hx c kl yd yp w2 cnt2 hkey hlk hvv hat hrg2 hlt hg2 hs2 hen
      have hkl : kl = kL x := by rw [key24 x hx] at hkey; exact (Option.some.inj hkey).symm
      subst hkl
      have hxD : Maps.has D (kL x) = true := has_true_of_atKey hat
      have hnx : isNode G x = true := by rw [HD.out.has x hx] at hxD; exact hxD
      obtain ⟨a', c', rfl, hsl⟩ := graph_entry HD.out HWF.out hnx hvv hat
      have HXD := Lib.hid hxD
      have HX := Lib.hid hx
      have HNX := Lib.hid (show ¬ x ∈ xs from fun h => by have := ((HMEM.out x hx).1 h).2; rw [hlk] at this; cases this)
      have hB2 : Below w.heap.size w w2 := HB.out.trans ⟨hg2.os, hg2.tape, hg2.output, hg2.size, fun k hk => hg2.block k (by have := HB.out.size; omega) (fun h => by have := Option.some.inj h; omega)⟩
      have HB2 := Lib.hid hB2
      have HRG2 := Lib.hid hrg2
      have HLT := Lib.hid hlt
      have HS2 := Lib.hid hs2
      have HSL := Lib.hid hsl
      have HR2 := Lib.hid (rowI_same HR.out (fun k hk => hg2.block k (rowI_lt HR.out hk).1 (fun h => by have := Option.some.inj h; have := (rowI_lt HR.out hk).2.1; omega)))
      have HPA := Lib.hid (pars_len HWF.out x)
      obtain ⟨ps, hps⟩ : ∃ ps, ps = parsOf G x := ⟨_, rfl⟩
      have HPS := Lib.hid hps
      rw [← hps] at HSL HPA hen
      generalize stampOf G x = st' at *
      clear hkey hlk hvv hat hrg2 hlt hg2 hs2 hxD hB2 hsl hps hnx
      go_upto_region 7 with fail
      have hbn := (Below.refl w2.heap.size w2).alloc (Nat.le_refl _) (.cells #[.slice a' ps.length c', .int .i64 st'] 58)
      have HBN := Lib.hid hbn
      have HBW := Lib.hid (HB2.out.trans (hbn.mono HB2.out.size))
      have HRN := Lib.hid (rowI_st _ _ _ _ _ HR2.out hbn)
      have hn1 := heap_new2 w2 (.slice a' ps.length c') (.int .i64 st') 58
      have hsl2 := HSL.out
      obtain ⟨_, _, he, _, _, _, hn'⟩ := hsl2
      have HAPN := Lib.hid (show a' = none → ps = [] ∧ c' = 0 by injection he with h1 _ h3; subst h1 h3; exact hn')
      have HIA := Lib.hid (show IdsIn (w2.alloc (.cells #[.slice a' ps.length c', .int .i64 st'] 58)) a' ps by
        obtain ⟨_, _, he2, _, _, hi2, _⟩ := SlI_below HSL.out HBW.out
        injection he2 with h1 _ _; subst h1; exact hi2)
      have HAPC := Lib.hid (show O.length + ps.length ≤ 4000000 by have := HOL.out; have := HPA.out; have := HLN.out; have := HSZ.out; have := HLEN.out; omega)
      have HAPB := Lib.hid (show w.heap.size + 1 ≤ (w2.alloc (.cells #[.slice a' ps.length c', .int .i64 st'] 58)).heap.size by have := HWS.out; have := HS2.out; simp; omega)
      clear hbn he hn'
      go_wp2_with (at_builtin; refine wpList_app_any rfl _ _ rfl (w.heap.size + 1) _ O ps rfl HRN.out a' c' rfl HIA.out HAPN.out HAPC.out HAPB.out ?_)
      rintro v' w' r1 r2 r3
      have HR1 := Lib.hid r1
      have HR2' := Lib.hid r2
      clear r1 r2 r3 hn1
      go_wp2
      have hown : ∀ k, u3.ownBlock = some k → w.heap.size + 1 ≤ k ∧ k < w2.heap.size := fun k hk => ⟨(rowI_lt HR2.out hk).2.1, (rowI_lt HR2.out hk).1⟩
      have hmb : mb < w2.heap.size := HRG2.out.owns.lt
      have hit : w.heap.size < w2.heap.size := by have := HWS.out; have := HS2.out; omega
      have hrg3 : w'.ranges Try.prog 24 nodR mb w.heap.size n D (fun z => left z && !z.sameKey (kL x)) cnt2 :=
        ranges_of HRG2.out ((HR2'.out.block mb (by simp; omega) (fun h => by have := (hown mb h.symm).1; have := HMB.out; omega)).trans (HBN.out.block mb hmb)) ((HR2'.out.block _ (by simp; omega) (fun h => by have := (hown _ h.symm).1; omega)).trans (HBN.out.block _ hit))
      go_roundg cnt2
      case measure => exact HLT.out
      case rel =>
        refine ⟨_, xs ++ [x], O ++ ps, hrg3, by have := HLN.out; have := HLT.out; simp only [List.length_append, List.length_cons, List.length_nil]; omega, ?_, ?_, HR1.out, by rw [HOE.out, HPS.out]; simp, ?_, ?_⟩
        · intro y hy
          rcases List.mem_append.1 hy with hy | hy
          · exact HX32.out y hy
          · rw [List.mem_singleton.1 hy]; exact HX.out
        · intro y hy
          rw [List.mem_append, List.mem_singleton, HMEM.out y hy]
          by_cases he : y = x
          · subst he
            simp [HXD.out, sameKey_self]
          · simp [he, sameKey_ne hy HX.out he]
        · exact HBW.out.trans ⟨HR2'.out.os, HR2'.out.tape, HR2'.out.output, HR2'.out.size, fun k hk => HR2'.out.block k (by have := HBW.out.size; omega) (fun h => by have := (hown k h.symm).1; omega)⟩
        · have := HR2'.out.size; have := HS2.out; have := HWS.out; simp at *; omega
end Go.Proofs.Ytmmmimkikakalaa
