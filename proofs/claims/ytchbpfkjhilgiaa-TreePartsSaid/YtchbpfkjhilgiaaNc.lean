/- The children's order: its closure, and a row sorted by it. -/
import Derived.Test.YtchbpfkjhilgiaaNb
import Derived.Test.YtchbpfkjhilgiaaGv
import Derived.Test.YtchbpfkjhilgiaaRs
import Derived.Test.YtchbpfkjhilgiaaSo
import Derived.Shelf.SlSortCmp.NoneTotal
namespace Go.Proofs.Ytchbpfkjhilgiaa
open Go.RowKit
open Go.Sort hiding Below
set_option linter.unusedVariables false

/-- What the closure finds. -/
def CloN (pb : Nat) (l : List Nd) (w : World) : Prop := pb < w.heap.size ∧ ∃ b off c, w.cell? ⟨pb, 0, none⟩ = some (.slice (some ⟨b, off, none⟩) l.length c) ∧ nodeR.In w (some ⟨b, off, none⟩) l

set_option maxHeartbeats 1000000 in
set_option maxRecDepth 100000 in
theorem cclo_any (pb : Nat) (l : List Nd) (w : World) (h : CloN pb l w) (x y : Nat) (hx : x < l.length) (hy : y < l.length) :
    Calls Try.prog 40 #[.int .i64 (x : Int), .int .i64 (y : Int), .pointer (some ⟨pb, 0, none⟩)] w fun e w' => e = .returned (.int .i64 (kCmp (keyN l y) (keyN l x))) ∧ Gr w w' := by
  obtain ⟨hp, b, off, c, hcell, hin⟩ := h
  obtain ⟨b1, o1, he1, hlt, h321, hat1⟩ := node_at hin hx
  obtain ⟨b2, o2, he2, _, h322, hat2⟩ := node_at hin hy
  cases he1
  cases he2
  have s1 := hat1.kf
  have s2 := hat1.ka
  have s3 := hat2.kf
  have s4 := hat2.ka
  have HK := Lib.hid (show kCmp (keyN l y) (keyN l x) = keysCmp (l.getD y nd0).1.1 (l.getD y nd0).1.2.1 (l.getD y nd0).1.2.2 (l.getD x nd0).1.1 (l.getD x nd0).1.2.1 (l.getD x nd0).1.2.2 from rfl)
  generalize l.getD x nd0 = kx at *
  generalize l.getD y nd0 = ky at *
  generalize kCmp (keyN l y) (keyN l x) = cc at *
  obtain ⟨⟨t1, c1, i1⟩, _⟩ := kx
  obtain ⟨⟨t2, c2, i2⟩, _⟩ := ky
  simp only at s2 s4 h321 h322 HK
  have HC := Lib.hid (fun W => keys_gr t2 c2 i2 t1 c1 i1 h322 h321 W)
  rw [← HK.out] at HC
  have j1 : (x : Int) < l.length := by omega
  have j2 : (y : Int) < l.length := by omega
  clear hat1 hat2 hin HK
  go_enter Try.func40, Try.ntmps40
  go_wp2_with fail
  refine wp_region_gv (by kernel_rfl) (by kernel_rfl) ?_
  repeat (go_big_quiet_step ((go_at_call 19; exact Calls.gv_of (HC.out _))))
  refine wpQuiet_nil ?_
  rintro _ ⟨z0, rfl⟩
  have HG := Lib.hid (gv_gr w z0)
  clear s1 s2 s3 s4 hcell
  go_wp2
  go_ret
  exact ⟨rfl, HG.out⟩

/-- Places sorted by their keys, the last ahead. -/
def sortK (l : List Nd) (K : List Nat) : List Nat := K.mergeSort fun i j => decide ((forest l).kc j i ≤ 0)
def toI (K : List Nat) : List Int := K.map fun (k : Nat) => (k : Int)
theorem toI_cells (K : List Nat) : intR.cells (toI K) = K.map (fun (k : Nat) => Value.int .i64 (k : Int)) := by
  unfold toI
  induction K with
  | nil => rfl
  | cons k K ih => rw [List.map_cons, Rec.cells_cons, ih]; rfl
theorem toI_len (K : List Nat) : (toI K).length = K.length := by simp [toI]
theorem enters40 : ∀ args w, (callFunc 40 args).run Try.prog w = .ok (.enter 40 args) w := enters_of Try.func40 (by kernel_rfl) rfl

theorem sortRow (pb base : Nat) (l : List Nd) (hR : RightL l) (K : List Nat) (hK : ∀ k ∈ K, k < l.length) (v : Value) (w : World) (h : intR.row 3 base (toI K) v w) (hlen : l.length ≤ 1000) (hKl : K.length ≤ 1000000) (hpb : pb < base) (hc : l.length ≠ 0 → CloN pb l w)
    (hb : l.length ≠ 0 → ∀ b off c, w.cell? ⟨pb, 0, none⟩ = some (.slice (some ⟨b, off, none⟩) l.length c) → b < base) :
    Calls Try.prog 39 #[v, .func (.func 40) #[] #[.pointer (some ⟨pb, 0, none⟩)]] w fun e w' => e = .returned (.tuple #[]) ∧ intR.row 3 base (toI (sortK l K)) v w' ∧ w.grownBy w' v.ownBlock := by
  by_cases h0 : K = []
  · subst h0
    have hs : sortK l [] = [] := by simp [sortK]
    rw [hs]
    obtain ⟨p, cap, rfl⟩ : ∃ p cap, v = .slice p 0 cap := by
      obtain ⟨_, _, ⟨rfl, _⟩ | ⟨g, cap, cur, rfl, _⟩⟩ := h
      · exact ⟨_, _, rfl⟩
      · exact ⟨_, _, rfl⟩
    exact (AnyF.slices_SortFunc_none Try.sortI0 p cap _ w).mono fun e w' ⟨he, hw⟩ => ⟨he, by rw [hw]; exact h, by rw [hw]; exact ⟨rfl, rfl, rfl, Nat.le_refl _, fun _ _ _ => rfl⟩⟩
  · have h0' : toI K ≠ [] := by intro he; exact h0 (by simpa [toI] using he)
    obtain ⟨g, cap, rfl, hcap, hcm, hg, hlt⟩ := h.some h0'
    rw [toI_len] at hcap
    obtain ⟨k0, hk0⟩ := List.exists_mem_of_ne_nil K h0
    haveI : Inhabited { i : Nat // i < l.length } := ⟨⟨k0, hK k0 hk0⟩⟩
    have hn0 : l.length ≠ 0 := by have := hK k0 hk0; omega
    let enc : { i : Nat // i < l.length } → Value := fun i => .int .i64 (i.1 : Int)
    let cf : { i : Nat // i < l.length } → { i : Nat // i < l.length } → Int := fun x y => kCmp (keyN l y.1) (keyN l x.1)
    let L : List { i : Nat // i < l.length } := K.pmap (fun k hk => ⟨k, hk⟩) hK
    have hLv : L.map (·.1) = K := by simp [L, List.map_pmap]
    have hLl : L.length = K.length := by simp [L]
    have hok := hR.ok
    have hSWO : SWO (ltOf cf) := {
      irrefl := fun x => decide_eq_false (fun h => by simp only [cf, kCmp_self] at h; omega)
      trans := fun x y z h1 h2 => by
        simp only [ltOf, cf, decide_eq_true_eq] at *
        exact kCmp_lt _ _ _ h2 h1
      ntrans := fun x y z h1 h2 => by
        simp only [ltOf, cf, decide_eq_false_iff_not] at *
        have a1 := kCmp_anti (keyN l y.1) (keyN l x.1)
        have a2 := kCmp_anti (keyN l z.1) (keyN l y.1)
        have a3 := kCmp_anti (keyN l z.1) (keyN l x.1)
        have := kCmp_le (keyN l x.1) (keyN l y.1) (keyN l z.1) (by omega) (by omega)
        omega }
    have hTot : ∀ x y, (ltOf cf) x y = false → (ltOf cf) y x = false → x = y := by
      intro x y h1 h2
      simp only [ltOf, cf, decide_eq_false_iff_not] at h1 h2
      have a1 := kCmp_anti (keyN l y.1) (keyN l x.1)
      exact Subtype.ext (hok.eq x.1 y.1 x.2 y.2 (by show kCmp (keyN l x.1) (keyN l y.1) = 0; omega))
    have hH : Holds enc w g 0 L.toArray := row.holds enc L.toArray h (by
      rw [toI_cells, List.toList_toArray]
      conv => lhs; rw [← hLv]
      rw [List.map_map]; rfl)
    have hcmp : CmpLays1 Try.prog 40 #[.pointer (some ⟨pb, 0, none⟩)] enc cf g 0 L.toArray.size w := by
      intro m os dk _ x y
      obtain ⟨h1, b, off, c, h2, h3⟩ := hc hn0
      have hbl := hb hn0 b off c h2
      have hbk : b < w.heap.size := by
        rcases h3.2 with h | ⟨b', off', he, hlt', _⟩
        · rw [h] at hn0; exact absurd rfl hn0
        · cases he; exact hlt'
      have hs := size_sortWorld enc w g 0 m dk os
      have hW : CloN pb l (sortWorld enc w g 0 m dk os) := by
        refine ⟨by omega, b, off, c, ?_, ?_⟩
        · rw [cell_other (heap_sortWorld enc w g 0 m dk os pb h1 (by omega))]; exact h2
        · refine ⟨h3.1, ?_⟩
          rcases h3.2 with h | ⟨b', off', he, hlt', hx⟩
          · exact .inl h
          · cases he
            refine .inr ⟨b, off, rfl, by omega, fun i z hz => ?_⟩
            obtain ⟨f1, f2⟩ := hx i z hz
            have e := heap_sortWorld enc w g 0 m dk os b hbk (by omega)
            exact ⟨fits_of_block (a := ⟨b, off + i * nodeR.sz, none⟩) e f1, (aggAt_of_block (a := ⟨b, off + i * nodeR.sz, none⟩) e).trans f2⟩
      exact cclo_any pb l _ hW x.1 y.1 x.2 y.2
    have hs := Any.slices_SortFunc_total Try.sortI enc (fun _ => rfl) cf hSWO 40 #[.pointer (some ⟨pb, 0, none⟩)] g 0 cap L.toArray w enters40 hcmp hH hlt (by simp [hLl]; omega) hTot
    rw [show L.toArray.size = (toI K).length from by simp [hLl, toI]] at hs
    refine hs.mono fun e w' ⟨he, n, os, hw⟩ => ⟨he, ?_, ?_⟩
    · rw [hw]
      have hm : sortK l K = ((L.mergeSort fun x y => !(ltOf cf) y x).map (·.1)) := by
        have h1 := List.map_mergeSort (r := fun x y => !(ltOf cf) y x) (s := fun i j => decide ((forest l).kc j i ≤ 0)) (f := fun x : { i : Nat // i < l.length } => x.1) (l := L) (fun a _ b _ => by
          have a1 := kCmp_anti (keyN l a.1) (keyN l b.1)
          show (!decide (kCmp (keyN l a.1) (keyN l b.1) < 0)) = decide (kCmp (keyN l b.1) (keyN l a.1) ≤ 0)
          by_cases hh : kCmp (keyN l a.1) (keyN l b.1) < 0
          · rw [decide_eq_true hh, decide_eq_false (by omega)]; rfl
          · rw [decide_eq_false hh, decide_eq_true (by omega)]; rfl)
        rw [hLv] at h1
        exact h1.symm
      refine row.sorted enc _ n os h ?_ (fun _ _ => trivial) ?_
      · rw [toI_cells, hm, List.map_map, List.toList_toArray]; rfl
      · rw [toI_len, toI_len]; exact List.length_mergeSort _
    · rw [hw]
      exact grownBy_sortWorld enc w g 0 n _ os
end Go.Proofs.Ytchbpfkjhilgiaa
