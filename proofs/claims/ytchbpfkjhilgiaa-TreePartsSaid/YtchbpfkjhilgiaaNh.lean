/- The walk in depth: Order's closure. -/
import Derived.Test.YtchbpfkjhilgiaaNf
import Derived.Laws.EntriesVeiled
namespace Go.Proofs.Ytchbpfkjhilgiaa
open Go.RowKit
set_option linter.unusedVariables false

def vclo (pk po pv : Nat) : Value := .func (.func 26) #[] #[.pointer (some ⟨pk, 0, none⟩), .pointer (some ⟨po, 0, none⟩), .pointer (some ⟨pv, 0, none⟩)]
/-- Blocks below B are kept, but for one. -/
structure Vis (B po : Nat) (w w' : World) : Prop where
  os : w'.os = w.os
  tape : w'.tape = w.tape
  output : w'.output = w.output
  size : w.heap.size ≤ w'.heap.size
  block : ∀ k, k < B → k ≠ po → w'.heap[k]? = w.heap[k]?
theorem Vis.refl (B po : Nat) (w : World) : Vis B po w w := ⟨rfl, rfl, rfl, Nat.le_refl _, fun _ _ _ => rfl⟩
theorem Vis.trans {B po : Nat} {a b c : World} (h : Vis B po a b) (k : Vis B po b c) : Vis B po a c :=
  ⟨k.os.trans h.os, k.tape.trans h.tape, k.output.trans h.output, Nat.le_trans h.size k.size, fun i hi hn => (k.block i hi hn).trans (h.block i hi hn)⟩
theorem Vis.of_below {B po : Nat} {w w' : World} (h : Below B w w') : Vis B po w w' := ⟨h.os, h.tape, h.output, h.size, fun k hk _ => h.block k hk⟩
/-- What the walk finds. -/
structure VSt (l : List Nd) (base B go : Nat) (hs : List Hdr) (pk po pv : Nat) (v : Value) (O : List Nat) (w : World) : Prop where
  kr : KidRows l.length base go hs (fun q => (forest l).kids (upN l q)) w
  gl : go < pk
  rl : ∀ p, p ≤ l.length → ∀ g, (hvl (hs.getD p hdr0)).ownBlock = some g → g < pk
  o1 : pk < po
  o2 : po < pv
  o3 : pv < B
  bs : B ≤ w.heap.size
  ck : w.cell? ⟨pk, 0, none⟩ = some (.slice (some ⟨go, 0, none⟩) (l.length + 1 : Nat) (l.length + 1 : Nat))
  cv : w.cell? ⟨pv, 0, none⟩ = some (vclo pk po pv)
  co : w.heap[po]? = some (.cells #[v] 27 (0, 0))
  row : intR.row 3 B (toI O) v w
theorem KidRows.same {n base go pk : Nat} {hs : List Hdr} {K : Nat → List Nat} {w w' : World} (h : KidRows n base go hs K w) (gl : go < pk) (rl : ∀ p, p ≤ n → ∀ g, (hvl (hs.getD p hdr0)).ownBlock = some g → g < pk) (hk : ∀ g, g < pk → w'.heap[g]? = w.heap[g]?) : KidRows n base go hs K w' :=
  ⟨h.len, row_same h.hd (fun g hg => by cases hg; exact hk go gl), fun p hp => row_same (h.row p hp) (fun g hg => hk g (rl p hp g hg)), h.dis⟩
section
variable {l : List Nd} {base B go : Nat} {hs : List Hdr} {pk po pv : Nat} {v v' : Value} {O O' : List Nat} {w w' : World}
theorem VSt.next (h : VSt l base B go hs pk po pv v O w) (hv : Vis B po w w') (hco : w'.heap[po]? = some (.cells #[v'] 27 (0, 0))) (hrow : intR.row 3 B (toI O') v' w') : VSt l base B go hs pk po pv v' O' w' := by
  obtain ⟨kr, gl, rl, o1, o2, o3, bs, ck, cv, co, row⟩ := h
  refine ⟨kr.same gl rl (fun g hg => hv.block g (by omega) (by omega)), gl, rl, o1, o2, o3, Nat.le_trans bs hv.size, ?_, ?_, hco, hrow⟩
  · unfold World.cell?; rw [hv.block pk (by omega) (by omega)]; exact ck
  · unfold World.cell?; rw [hv.block pv o3 (by omega)]; exact cv
theorem VSt.cell (h : VSt l base B go hs pk po pv v O w) : w.cell? ⟨po, 0, none⟩ = some v ∧ w.frozen? ⟨po, 0, none⟩ = false := by
  refine ⟨?_, ?_⟩
  · unfold World.cell?; rw [h.co]; rfl
  · unfold World.frozen?; rw [h.co]; simp
/-- What was appended is stored. -/
theorem VSt.app {i : Nat} (h : VSt l base B go hs pk po pv v O w) (hr : intR.row 3 B (toI (O ++ [i])) v' w') (hb : Below B w w') :
    VSt l base B go hs pk po pv v' (O ++ [i]) (w'.setCell ⟨po, 0, none⟩ v') ∧ w'.frozen? ⟨po, 0, none⟩ = false ∧ w'.cell? ⟨po, 0, none⟩ = some v ∧ Vis B po w (w'.setCell ⟨po, 0, none⟩ v') := by
  have hpo : po < B := by have := h.o2; have := h.o3; omega
  have hh : w'.heap[po]? = some (.cells #[v] 27 (0, 0)) := (hb.block po hpo).trans h.co
  have hset : (w'.setCell ⟨po, 0, none⟩ v').heap[po]? = some (.cells #[v'] 27 (0, 0)) := by
    rw [setCell_eq_setRow w' po 0 #[v] 27 (0, 0) v' hh, setRow_heap w' po #[v] _ 27 (0, 0) hh]
    rfl
  have hvis : Vis B po w (w'.setCell ⟨po, 0, none⟩ v') := by
    refine (Vis.of_below hb).trans ⟨?_, ?_, ?_, ?_, fun k hk hne => Below.heap_setCell w' ⟨po, 0, none⟩ v' k hne⟩
    · rw [setCell_eq_setRow w' po 0 #[v] 27 (0, 0) v' hh]; rfl
    · rw [setCell_eq_setRow w' po 0 #[v] 27 (0, 0) v' hh]; rfl
    · rw [setCell_eq_setRow w' po 0 #[v] 27 (0, 0) v' hh]; rfl
    · rw [setCell_eq_setRow w' po 0 #[v] 27 (0, 0) v' hh]; simp
  refine ⟨h.next hvis hset (row_same hr (fun g hg => Below.heap_setCell w' ⟨po, 0, none⟩ v' g ?_)), ?_, ?_, hvis⟩
  · have := (row_block hr g hg).1
    intro he
    have he' : g = po := he
    omega
  · unfold World.frozen?; rw [hh]; simp
  · unfold World.cell?; rw [hh]; rfl
end
/-- The walk below an element does what it should. -/
def VOk (l : List Nd) (p : Nat) : Prop := ∀ (base B go : Nat) (hs : List Hdr) (pk po pv : Nat) (v : Value) (O : List Nat) (w : World), VSt l base B go hs pk po pv v O w → O.length + ((forest l).D (upN l p)).length ≤ 1000000 →
  Calls Try.prog 26 #[.int .i64 (p : Int), .pointer (some ⟨pk, 0, none⟩), .pointer (some ⟨po, 0, none⟩), .pointer (some ⟨pv, 0, none⟩)] w fun e w' => e = .returned (.tuple #[]) ∧ ∃ v', VSt l base B go hs pk po pv v' (O ++ (forest l).D (upN l p)) w' ∧ Vis B po w w'

theorem flat_len {α : Type} (f : α → List α) : ∀ K : List α, K.length ≤ (K.flatMap fun i => i :: f i).length
  | [] => by simp
  | x :: K => by have := flat_len f K; simp only [List.flatMap_cons, List.length_append, List.length_cons] at *; omega
theorem nat_step {g k n : Nat} (h1 : g + k = n) (h2 : k < n) : g - 1 + (k + 1) = n := by omega

set_option maxHeartbeats 4000000 in
set_option maxRecDepth 100000 in
theorem visit_step (l : List Nd) (hR : RightL l) (p : Nat) (hp : p ≤ l.length) (hsub : ∀ i, i ∈ (forest l).kids (upN l p) → VOk l i) : VOk l p := by
  intro base B go hs pk po pv v O w hst hlen
  have HD := Lib.hid ((forest l).D_eq hR.ok (upN l p))
  obtain ⟨KQ, hKQ⟩ : ∃ KQ, KQ = (forest l).kids (upN l p) := ⟨_, rfl⟩
  have HST := Lib.hid hst
  have hcellp := hst.kr.at hp
  have hrowp := hst.kr.row p hp
  have hrl := hst.rl p hp
  have hck := hst.ck
  obtain ⟨⟨ha, hn, hc⟩, hh⟩ : ∃ h, h = hs.getD p hdr0 := ⟨_, rfl⟩
  rw [← hh] at hcellp hrowp hrl
  unfold hvl at hcellp hrowp hrl
  simp only at hcellp hrowp hrl
  rw [← hKQ] at hrowp hsub
  have HKL := Lib.hid (fun i (hi : i ∈ KQ) => (show i < l.length from (Forest.kids_mem.1 (hKQ ▸ hi)).1))
  rw [← hKQ] at HD
  obtain ⟨a0, c0, he0, _, _, hin0, _⟩ := hrowp.sl
  injection he0 with e1 e2 e3
  subst e1 e2 e3
  rw [toI_len] at hcellp hrl
  have HIN := Lib.hid hin0
  have HRL := Lib.hid hrl
  have HSUB := Lib.hid hsub
  have HLEN := Lib.hid hlen
  have i1 : (p : Int) < (l.length : Int) + 1 := by omega
  have i2 : (p : Int) < ((l.length + 1 : Nat) : Int) := by omega
  clear hst hrowp hin0 hsub hlen hrl hh hKQ
  have hkq : KQ.length ≤ 1000000 := by
    have h1 := HLEN.out
    rw [HD.out] at h1
    have h2 := flat_len (fun i => (forest l).D (some i)) KQ
    omega
  go_enter Try.func26, Try.ntmps26
  go_wp2_with fail
  go_loopg [12] KQ.length (fun g v12 wr => ∃ (k : Nat) (v : Value), g + k = KQ.length ∧ v12 = .int .i64 k ∧ VSt l base B go hs pk po pv v (O ++ (KQ.take k).flatMap fun i => i :: (forest l).D (some i)) wr ∧ Vis B po w wr)
  case atStart => exact ⟨0, v, by omega, rfl, by simpa using HST.out, Vis.refl _ _ _⟩
  case round =>
    obtain ⟨k, vk, hg, rfl, hst, hvis⟩ := hrel
    have HG := Lib.hid hg
    have HS := Lib.hid hst
    have HV := Lib.hid hvis
    clear hg hst hvis
    by_cases hk : k < KQ.length
    · have HKK := Lib.hid hk
      obtain ⟨x, hx⟩ : ∃ x, x = KQ.getD k 0 := ⟨_, rfl⟩
      have hxk : KQ[k]? = some x := by rw [hx]; simp [List.getD_eq_getElem?_getD, hk]
      have hxm : x ∈ KQ := List.mem_of_getElem? hxk
      have hxl := HKL.out x hxm
      have htk : KQ.take (k + 1) = KQ.take k ++ [x] := by
        rw [List.take_succ_eq_append_getElem hk]
        congr 2
        rw [List.getElem?_eq_getElem hk] at hxk
        exact Option.some.inj hxk
      have hxI : (toI KQ)[k]? = some (x : Int) := by unfold toI; rw [List.getElem?_map, hxk]; rfl
      rcases HIN.out.2 with h | ⟨b, off, rfl, hlt, hcl⟩
      · rw [h] at hxI; simp at hxI
      have q1 := int_cell (hcl k _ hxI)
      have hbl : b < pk := HRL.out b rfl
      have q2 : wr.cell? ⟨b, off + k, none⟩ = some (.int .i64 (x : Int)) := by
        unfold World.cell? at q1 ⊢
        rw [HV.out.block b (by have := HST.out.o1; have := HST.out.o2; have := HST.out.o3; omega) (by have := HST.out.o1; omega)]; exact q1
      have i3 : (k : Int) < KQ.length := by omega
      have HTK := Lib.hid (show (KQ.take (k + 1)).flatMap (fun i => i :: (forest l).D (some i)) = (KQ.take k).flatMap (fun i => i :: (forest l).D (some i)) ++ x :: (forest l).D (some x) by rw [htk, List.flatMap_append]; simp)
      have HDL := Lib.hid (show O.length + ((KQ.take (k + 1)).flatMap (fun i => i :: (forest l).D (some i))).length ≤ 1000000 by
        have h1 := HLEN.out
        rw [HD.out] at h1
        have h2 : KQ.flatMap (fun i => i :: (forest l).D (some i)) = (KQ.take (k + 1)).flatMap (fun i => i :: (forest l).D (some i)) ++ (KQ.drop (k + 1)).flatMap (fun i => i :: (forest l).D (some i)) := by
          rw [← List.flatMap_append, List.take_append_drop]
        rw [h2, List.length_append] at h1
        omega)
      have HVX := Lib.hid (HSUB.out x hxm)
      have HUP := Lib.hid (show upN l x = some x by unfold upN; rw [if_pos hxl])
      obtain ⟨T, hT⟩ : ∃ T, T = O ++ (KQ.take k).flatMap fun i => i :: (forest l).D (some i) := ⟨_, rfl⟩
      have HTE := Lib.hid hT
      rw [← hT] at HS
      obtain ⟨c1, c2⟩ := HS.out.cell
      have hcv := HS.out.cv
      unfold vclo at hcv
      have hrw := HS.out.row
      obtain ⟨av, cv, rfl, _, _, _, _⟩ := hrw.sl
      have hba := (Below.refl wr.heap.size wr).alloc (Nat.le_refl _) (.cells #[.int .i64 (x : Int)] 3)
      have HRW := Lib.hid (hrw.below hba)
      have HINx := Lib.hid (show intR.In (wr.alloc (.cells #[.int .i64 (x : Int)] 3)) (some ⟨wr.heap.size, 0, none⟩) [(x : Int)] from Rec.In.one (R := intR) wr 3 (x : Int) trivial)
      have HBA := Lib.hid hba
      have HTL := Lib.hid (show (toI T).length + 1 ≤ 100000000 by
        have h1 := HDL.out
        rw [HTK.out, List.length_append, List.length_cons] at h1
        have h2 := congrArg List.length HTE.out
        rw [List.length_append] at h2
        rw [toI_len]; omega)
      have HBS := Lib.hid (show B ≤ (wr.alloc (.cells #[.int .i64 (x : Int)] 3)).heap.size from Nat.le_trans HS.out.bs hba.size)
      clear hba hrw hx hxk htk hxI hcl q1 hT hcellp hck
      go_wp2_with (at_builtin; refine Rec.wpList_app int27 rfl _ _ rfl B _ (toI T) [(x : Int)] (toI (T ++ [x])) (toI_snoc _ _) rfl HRW.out (some ⟨wr.heap.size, 0, none⟩) 1 rfl HINx.out (fun h => by cases h) HTL.out HBS.out ?_)
      rintro v7 w7 hr7 _ hb7
      obtain ⟨a7, c7, rfl, _, _, _, _⟩ := hr7.sl
      obtain ⟨hs7, hf7, hc7, hv7⟩ := HS.out.app (i := x) hr7 ((HBA.out.mono HS.out.bs).trans hb7)
      have HS7 := Lib.hid hs7
      have HV7 := Lib.hid (HV.out.trans hv7)
      have hcv7 := hs7.cv
      unfold vclo at hcv7
      have HCX := Lib.hid (HVX.out base B go hs pk po pv _ (T ++ [x]) _ hs7 (by
        have h1 := HDL.out
        rw [HTK.out, List.length_append, List.length_cons] at h1
        have h2 := congrArg List.length HTE.out
        rw [List.length_append] at h2
        rw [HUP.out, List.length_append, List.length_singleton]; omega))
      rw [HUP.out] at HCX
      generalize (toI (T ++ [x])).length = n7 at *
      clear hr7 hb7 hs7 hv7 c1 c2 hcv
      go_wp2_with fail
      refine HCX.out.mono ?_
      rintro e w8 ⟨rfl, v8, hs8, hv8⟩
      have HS8 := Lib.hid hs8
      have HV8 := Lib.hid (HV7.out.trans hv8)
      clear hs8 hv8
      go_wp2
      go_roundg (gk - 1)
      case measure => have := HG.out; have := HKK.out; omega
      case rel => exact ⟨k + 1, v8, nat_step HG.out HKK.out, by go_num, by
        have := HS8.out
        rw [HTE.out] at this
        rw [HTK.out]
        simpa using this, HV8.out⟩
    · have HKE := Lib.hid (show k = KQ.length by have := HG.out; omega)
      go_wp2
      go_end0
      refine ⟨rfl, vk, ?_, HV.out⟩
      have := HS.out
      rw [HKE.out, List.take_length] at this
      rw [HD.out]; exact this
/-- All below any element. -/
theorem visit_all (l : List Nd) (hR : RightL l) : ∀ k p, (forest l).top p < k → p < l.length → VOk l p := by
  intro k
  induction k with
  | zero => intro p hp; omega
  | succ k ih =>
    intro p hp hl
    refine visit_step l hR p (by omega) (fun i hi => ?_)
    obtain ⟨h1, h2⟩ := Forest.kids_mem.1 hi
    have hu : upN l p = some p := by unfold upN; rw [if_pos hl]
    rw [hu] at h2
    have := Forest.top_par hR.ok h1 h2
    exact ih i (by omega) h1
theorem visit_root (l : List Nd) (hR : RightL l) : VOk l l.length := visit_step l hR _ (Nat.le_refl _) fun i hi => visit_all l hR _ i (Nat.lt_succ_self _) (Forest.kids_mem.1 hi).1
end Go.Proofs.Ytchbpfkjhilgiaa

namespace Go.Proofs.Ytchbpfkjhilgiaa
open Go.RowKit
set_option linter.unusedVariables false

theorem ordN_right {l : List Nd} (h : RightL l) : ordN l = (forest l).ord := by unfold ordN; rw [if_pos h]
theorem ordN_len {l : List Nd} (h : RightL l) : (ordN l).length = l.length := by rw [ordN_right h]; exact Forest.ord_len

def three (w : World) (a f : Value) : World := ((w.alloc (.cells #[a] 59)).alloc (.cells #[.slice none 0 0] 27)).alloc (.cells #[f] 61)
theorem three_below (w : World) (a f : Value) : Below w.heap.size w (three w a f) := (((Below.refl w.heap.size w).alloc (Nat.le_refl _) _).alloc (by simp) _).alloc (by simp; omega) _
theorem three_at (w : World) (a f : Value) : (three w a f).heap[w.heap.size]? = some (.cells #[a] 59 (0, 0)) ∧ (three w a f).heap[w.heap.size + 1]? = some (.cells #[.slice none 0 0] 27 (0, 0)) ∧ (three w a f).heap[w.heap.size + 1 + 1]? = some (.cells #[f] 61 (0, 0)) ∧ (three w a f).heap.size = w.heap.size + 1 + 1 + 1 := by
  have e : (three w a f).heap = ((w.heap.push (.cells #[a] 59)).push (.cells #[.slice none 0 0] 27)).push (.cells #[f] 61) := rfl
  rw [e]
  refine ⟨?_, ?_, ?_, by simp⟩
  · rw [Array.getElem?_push, Array.getElem?_push, Array.getElem?_push]; simp; omega
  · rw [Array.getElem?_push, Array.getElem?_push]; simp
  · rw [Array.getElem?_push]; simp
theorem three_vst {l : List Nd} {base go : Nat} {hs : List Hdr} {w : World} (h : KidRows l.length base go hs (fun q => (forest l).kids (upN l q)) w) :
    VSt l base (w.heap.size + 1 + 1 + 1) go hs w.heap.size (w.heap.size + 1) (w.heap.size + 1 + 1) (.slice none 0 0) [] (three w (.slice (some ⟨go, 0, none⟩) (l.length + 1 : Nat) (l.length + 1 : Nat)) (vclo w.heap.size (w.heap.size + 1) (w.heap.size + 1 + 1))) := by
  obtain ⟨h1, h2, h3, h4⟩ := three_at w (.slice (some ⟨go, 0, none⟩) (l.length + 1 : Nat) (l.length + 1 : Nat)) (vclo w.heap.size (w.heap.size + 1) (w.heap.size + 1 + 1))
  obtain ⟨_, cur, hg⟩ := h.goBlock
  refine ⟨h.below (three_below _ _ _), (Array.getElem?_eq_some_iff.1 hg).1, fun p hp g hgg => (h.block hp hgg).2.1, by omega, by omega, by omega, by rw [h4]; omega, ?_, ?_, h2, Rec.row.nil⟩
  · unfold World.cell?; rw [h1]; rfl
  · unfold World.cell?; rw [h3]; rfl

set_option maxHeartbeats 4000000 in
set_option maxRecDepth 100000 in
theorem torder_any (p : Option Addr) (c : Nat) (l : List Nd) (w : World) (hlen : l.length ≤ 1000) (hin : nodeR.In w p l) :
    Calls Try.prog 12 #[.slice p l.length c] w fun e w' => ∃ v, e = .returned v ∧ intR.row 3 w.heap.size (toI (ordN l)) v w' ∧ Below w.heap.size w w' := by
  have HX := Lib.hid hin
  have HT := Lib.hid (tright_any p c l w hlen hin)
  clear hin
  go_enter Try.func12, Try.ntmps12
  go_wp2_with fail
  refine HT.out.mono ?_
  rintro e w1 ⟨rfl, hb1⟩
  have HB1 := Lib.hid hb1
  clear hb1
  by_cases hR : RightL l
  case neg =>
    have HO := Lib.hid (show ordN l = [] by unfold ordN; rw [if_neg hR])
    have hd : decide (RightL l) = false := decide_eq_false hR
    rw [hd]
    clear hd hR
    go_wp2
    go_ret
    exact ⟨_, rfl, by rw [HO.out]; exact Rec.row.nil, HB1.out⟩
  case pos =>
    have HR := Lib.hid hR
    have hd : decide (RightL l) = true := decide_eq_true hR
    rw [hd]
    have HCH := Lib.hid (children_any p c l w1 hlen (HX.out.below HB1.out) hR)
    clear hd hR
    go_wp2_with fail
    refine HCH.out.mono ?_
    rintro e w2 ⟨go, hs, rfl, hkr, hb2⟩
    have HKR := Lib.hid hkr
    have HB2 := Lib.hid (HB1.out.trans (hb2.mono HB1.out.size))
    clear hkr hb2
    have HUP := Lib.hid (show upN l l.length = none by unfold upN; rw [if_neg (Nat.lt_irrefl _)])
    have HDN := Lib.hid (show (forest l).D none = ordN l by rw [Forest.D_ord HR.out.ok, ordN_right HR.out])
    have HLN := Lib.hid (ordN_len HR.out)
    go_upto_region 7 with fail
    have hvs := three_vst HKR.out
    have hb3 := three_below w2 (.slice (some ⟨go, 0, none⟩) (l.length + 1 : Nat) (l.length + 1 : Nat)) (vclo w2.heap.size (w2.heap.size + 1) (w2.heap.size + 1 + 1))
    unfold three vclo at hvs hb3
    obtain ⟨W3, hW3⟩ : ∃ W3, W3 = ((w2.alloc (.cells #[.slice (some ⟨go, 0, none⟩) (l.length + 1 : Nat) (l.length + 1 : Nat)] 59)).alloc (.cells #[.slice none 0 0] 27)).alloc (.cells #[.func (.func 26) #[] #[.pointer (some ⟨w2.heap.size, 0, none⟩), .pointer (some ⟨w2.heap.size + 1, 0, none⟩), .pointer (some ⟨w2.heap.size + 1 + 1, 0, none⟩)]] 61) := ⟨_, rfl⟩
    rw [← hW3] at hvs hb3 ⊢
    have HB3 := Lib.hid (HB2.out.trans (hb3.mono HB2.out.size))
    have HSZ := Lib.hid hb3.size
    have HV := Lib.hid (visit_root l HR.out _ _ _ _ _ _ _ _ _ _ hvs (by rw [HUP.out, HDN.out, HLN.out]; simp; omega))
    rw [HUP.out, HDN.out] at HV
    have hcv := hvs.cv
    unfold vclo at hcv
    have hN := HB2.out.size
    generalize w2.heap.size = N at *
    have HN := Lib.hid hN
    clear hN
    clear hW3 hvs hb3
    go_wp2_with fail
    refine HV.out.mono ?_
    rintro e w4 ⟨rfl, v4, hs4, hv4⟩
    obtain ⟨c1, _⟩ := hs4.cell
    have HR4 := Lib.hid hs4.row
    have HO3 := Lib.hid hs4.o3
    have HV4 := Lib.hid hv4
    rw [List.nil_append] at HR4
    clear hs4 hv4 hcv
    go_wp2
    go_ret
    have hN : w.heap.size ≤ N := HN.out
    refine ⟨v4, rfl, HR4.out.base (by omega), ?_⟩
    exact ⟨HV4.out.os.trans HB3.out.os, HV4.out.tape.trans HB3.out.tape, HV4.out.output.trans HB3.out.output, Nat.le_trans HB3.out.size HV4.out.size, fun k hk => (HV4.out.block k (by omega) (by omega)).trans (HB3.out.block k hk)⟩
end Go.Proofs.Ytchbpfkjhilgiaa
