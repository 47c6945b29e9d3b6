/- The walk of MyersMoves. -/
import Derived.Test.YtipoifokcnbfnaaKs
import Derived.Test.YtipoifokcnbfnaaKj
import Derived.SizedLaws
namespace Go.Proofs.Ytipoifokcnbfnaa
open Go.RowKit Go.WideShapes Go.ChangeShapes Go.ChangeMaps Go.Deep
set_option linter.unusedVariables false

/-- append(s, x...), of many. -/
theorem wpList_appB {α : Type} {R : Rec α} {P : Program} {t e : TypeId} {bytes : Nat} (hT : R.Ty P t e bytes) {w : World} {ops : Array Oper} {rest : List Oper} {o : Oper} {a : Act} {Q : Exit → Act → World → Prop} (hgd : o.guard = none) (s x : Operand)
    (ho : o.op = .call { callee := .builtin .append, args := #[s, x], argTypes := #[t, t] })
    (base : Nat) (v : Value) (O A O' : List α) (hO' : O' = O ++ A) (hs : a.eval s = v) (hown : R.row e base O v w)
    (ad : Option Addr) (cap : Nat) (hx : a.eval x = .slice ad A.length cap) (hA : R.In w ad A) (hn : ad = none → A = [] ∧ cap = 0) (hlen : O.length + A.length ≤ maxLen) (hb : (O.length + A.length) * bytes ≤ 140737488355328) (hbase : base ≤ w.heap.size)
    (h : ∀ v' w', R.row e base O' v' w' → w.grownBy w' v.ownBlock → Below base w w' → wpList P ops Q rest (a.put o.dst v') w') : wpList P ops Q (o :: rest) a w := by
  subst hO'
  obtain ⟨i, z, hi, hz0, hz1, hz2, hz3⟩ := hT.info
  have hall : ∀ y ∈ O ++ A, R.ok y := fun y hy => (List.mem_append.1 hy).elim (hown.1 y) (hA.1 y)
  cases ad with
  | none =>
    obtain ⟨rfl, rfl⟩ := hn rfl
    refine wpList_append_own_none hgd s x t ho base e i R.sz hT.u hi v O.length (R.cells O) hs hown.2 hx ?_
    exact h v w (by simpa using hown) ⟨rfl, rfl, rfl, Nat.le_refl _, fun _ _ _ => rfl⟩ (Below.refl _ _)
  | some ad =>
    have hc : ∀ j u, (R.cells A)[j]? = some u → w.cell? (ad.add j) = some u := by
      rcases hA.2 with rfl | ⟨b, off, he, _, hc⟩
      · intro j u hj; simp [Rec.cells] at hj
      · cases he
        exact Rec.In.cells hA.1 hc
    refine wpList_append_own w hgd s x t ho base e i z R.sz bytes hT.u hi hz0 hz1 hz2 hz3 R.pos v O.length (R.cells O) hs hown.2 ad A.length cap (R.cells A) hx (R.cells_length A hA.1) hc (R.cells_one A hA.1) hlen hb hbase ?_
    intro v' w' h1 h2 _
    refine h v' w' ⟨hall, by rw [List.length_append, R.cells_append]; exact h1⟩ h2 ((Below.refl _ _).grown h2 hbase (fun k hk => ?_))
    obtain ⟨_, _, ⟨rfl, _⟩ | ⟨g, cap', cur, rfl, hg, _⟩⟩ := hown
    · cases hk
    · simp only [Value.ownBlock, Option.some.injEq] at hk; omega
theorem conv_num {w : World} {base : Nat} {xs : List Int} {v : Value} (h : (numR .u8).row 5 base xs v w) : (convert 23 9 v).run Try.prog w = .ok (.string (strOfNums xs)) w := by
  obtain ⟨a, c, rfl, h1, h2, h3, h4⟩ := h.sl
  cases a with
  | none =>
    obtain ⟨rfl, rfl⟩ := h4 rfl
    exact run_convert_bytes_nil w 23 5 Try.underlying23 Try.underlying5 0 0 9 Try.underlying9
  | some ad =>
    rcases h3.2 with rfl | ⟨b, off, he, hlt, hc⟩
    · obtain ⟨b, off, sp⟩ := ad
      obtain ⟨_, _, ⟨hh, _⟩ | ⟨g, cap, cur, hh, _⟩⟩ := h
      · cases hh
      · cases hh
        exact run_convert_bytes_arg w 23 5 Try.underlying23 Try.underlying5 b 0 0 c [] rfl (fun i hi => by simp at hi) 9 Try.underlying9
    · cases he
      refine run_convert_bytes_arg w 23 5 Try.underlying23 Try.underlying5 b off xs.length c xs rfl (fun i hi => ?_) 9 Try.underlying9
      have hx : xs[i]? = some (xs.getD i 0) := by simp [List.getD_eq_getElem?_getD, hi]
      have := num_cell (hc i _ hx)
      simpa [List.getD_eq_getElem?_getD, hi] using this
theorem conv_nil (w : World) : (convert 23 9 (.slice none 0 0)).run Try.prog w = .ok (.string ByteArray.empty) w := run_convert_bytes_nil w 23 5 Try.underlying23 Try.underlying5 0 0 9 Try.underlying9

set_option maxHeartbeats 4000000 in
set_option maxRecDepth 100000 in
theorem lawMoves_any (pa pb : Option Addr) (ca cb : Nat) (a b : List Int) (w : World) (hia : (numR .i32).In w pa a) (hib : (numR .i32).In w pb b) (hna : pa = none → a = [] ∧ ca = 0) (hnb : pb = none → b = [] ∧ cb = 0)
    (ha : a.length ≤ maxLen) (hb : b.length ≤ maxLen) (hra : a.length * 4 ≤ 140737488351232) (hrb : b.length * 4 ≤ 140737488351232) :
    Calls Try.prog 3 #[.slice pa a.length ca, .slice pb b.length cb] w fun e w' => e = .returned (.bool true) ∧ Below w.heap.size w w' := by
  by_cases hA : (150 < a.length ∨ 150 < b.length) ∧ a.length ≤ 4096 ∧ b.length ≤ 4096
  · have h1 : ¬ 4096 < a.length := by omega
    by_cases h2 : 150 < a.length
    · have h3 : decide (a.length ≤ 4096) = true := decide_eq_true (by omega)
      have h4 : decide (b.length ≤ 4096) = true := decide_eq_true (by omega)
      have h3' : a.length ≤ 4096 := by omega
      have h4' : b.length ≤ 4096 := by omega
      clear hA
      go_enter Try.func3, Try.ntmps3
      go_wp2
      go_ret
      exact ⟨rfl, Below.refl _ _⟩
    · have h5 : 150 < b.length := by omega
      have h3' : a.length ≤ 4096 := by omega
      have h4' : b.length ≤ 4096 := by omega
      clear hA
      go_enter Try.func3, Try.ntmps3
      go_wp2
      go_ret
      exact ⟨rfl, Below.refl _ _⟩
  have HIA := Lib.hid hia
  have HIB := Lib.hid hib
  have HNA := Lib.hid hna
  have HNB := Lib.hid hnb
  have HCASE := Lib.hid (show (a.length ≤ 150 ∧ b.length ≤ 150) ∨ (4096 < a.length ∨ 4096 < b.length) by omega)
  have hbe := (Below.refl w.heap.size w).alloc (Nat.le_refl _) (.cells #[] 21)
  have HBE := Lib.hid hbe
  have HRE := Lib.hid (Rec.row.empty (R := numR .i32) (e := 21) (w := w))
  have HI1 := Lib.hid (hia.below hbe)
  have HI2 := Lib.hid (hib.below hbe)
  have HLA := Lib.hid (show ([] : List Int).length + a.length ≤ maxLen by simpa using ha)
  have HLB := Lib.hid (show ([] : List Int).length + b.length ≤ maxLen by simpa using hb)
  have HRA := Lib.hid (show (([] : List Int).length + a.length) * 4 ≤ 140737488355328 by simp; omega)
  have HRB := Lib.hid (show (([] : List Int).length + b.length) * 4 ≤ 140737488355328 by simp; omega)
  go_enter Try.func3, Try.ntmps3
  go_upto_region 1 with fail
  go_cut [26] (fun v26 wx => v26 = .bool false ∧ w = wx)
  case first =>
    rcases HCASE.out with ⟨h1, h2⟩ | h1 | h1
    · have g1 : ¬ 150 < a.length := by omega
      have g2 : ¬ 150 < b.length := by omega
      clear hA hia hib hna hnb ha hb
      go_wp2_with fail
      go_meet
      exact ⟨rfl, rfl⟩
    · have g1 : 150 < a.length := by omega
      have g2 : ¬ a.length ≤ 4096 := by omega
      clear hA hia hib hna hnb ha hb
      go_wp2_with fail
      go_meet
      exact ⟨rfl, rfl⟩
    · by_cases g0 : 150 < a.length
      · by_cases g3 : a.length ≤ 4096
        · have g2 : ¬ b.length ≤ 4096 := by omega
          clear hA hia hib hna hnb ha hb
          go_wp2_with fail
          go_meet
          exact ⟨by rw [Value.bool.injEq]; simp; omega, rfl⟩
        · clear hA hia hib hna hnb ha hb
          go_wp2_with fail
          go_meet
          exact ⟨rfl, rfl⟩
      · have g1 : 150 < b.length := by omega
        have g3 : a.length ≤ 4096 := by omega
        have g2 : ¬ b.length ≤ 4096 := by omega
        clear hA hia hib hna hnb ha hb
        go_wp2_with fail
        go_meet
        exact ⟨by rw [Value.bool.injEq]; simp; omega, rfl⟩
  case rest =>
  obtain ⟨rfl, rfl⟩ := hcut
  clear hA hia hib hna hnb ha hb hbe
  go_wp2_with (at_builtin; refine wpList_appB rune22 rfl _ _ rfl w.heap.size _ [] a a (by simp) rfl HRE.out pa ca rfl HI1.out HNA.out HLA.out HRA.out HBE.out.size ?_)
  rintro v1 w1 ho1 _ hb1
  obtain ⟨p1, c1, rfl, _, _, hin1, hn1⟩ := ho1.sl
  have HX1 := Lib.hid hin1
  have HB1 := Lib.hid (HBE.out.trans hb1)
  have hbe := (Below.refl w1.heap.size w1).alloc (Nat.le_refl _) (.cells #[] 21)
  have HBE1 := Lib.hid hbe
  have HRE1 := Lib.hid (Rec.row.empty (R := numR .i32) (e := 21) (w := w1))
  have HI2' := Lib.hid ((HIB.out.below HB1.out).below hbe)
  clear ho1 hb1 hin1 hbe hn1
  go_wp2_with (at_builtin; refine wpList_appB rune22 rfl _ _ rfl w1.heap.size _ [] b b (by simp) rfl HRE1.out pb cb rfl HI2'.out HNB.out HLB.out HRB.out HBE1.out.size ?_)
  rintro v2 w2 ho2 _ hb2
  obtain ⟨p2, c2, rfl, _, _, hin2, hn2⟩ := ho2.sl
  have HX2 := Lib.hid hin2
  have hb12 := HBE1.out.trans hb2
  have HX1b := Lib.hid (HX1.out.below hb12)
  have HB2 := Lib.hid (HB1.out.trans (hb12.mono HB1.out.size))
  have HIA2 := Lib.hid (HIA.out.below HB2.out)
  have HIB2 := Lib.hid (HIB.out.below HB2.out)
  clear ho2 hb2 hin2 hb12 hn2 HX1 HBE HBE1 HRE HRE1 HI1 HI2 HI2' HNA HNB HLA HLB HRA HRB
  rcases HCASE.out with ⟨ha, hb⟩ | hlong
  · have HM := Lib.hid (moves_any p1 p2 c1 c2 a b w2 (by omega) (by omega) HX1b.out HX2.out)
    have HRM := Lib.hid (fun w3 (hb3 : Below w2.heap.size w2 w3) => rmoves_any pa pb ca cb a b w3 (by omega) (by omega) (HIA2.out.below hb3) (HIB2.out.below hb3))
    obtain ⟨M, hM⟩ : ∃ M, M = script a b := ⟨_, rfl⟩
    rw [← hM] at HM HRM
    clear hM ha hb hra hrb
    go_wp2_with fail
    refine HM.out.mono ?_
    rintro e w3 ⟨v3, rfl, hr3, hb3⟩
    have HR3 := Lib.hid hr3
    have HB3 := Lib.hid (HB2.out.trans (hb3.mono HB2.out.size))
    have HRM3 := Lib.hid (HRM.out w3 hb3)
    clear hr3 hb3
    go_wp2_with fail
    refine HRM3.out.mono ?_
    rintro e w4 ⟨v4, rfl, hr4, hb4⟩
    have hcv1 := conv_num (HR3.out.below hb4)
    have hcv2 := conv_num hr4
    have HB4 := Lib.hid (HB3.out.trans (hb4.mono HB3.out.size))
    obtain ⟨st, hst⟩ : ∃ st, st = strOfNums M := ⟨_, rfl⟩
    rw [← hst] at hcv1 hcv2
    obtain ⟨a3, n3, c3, rfl⟩ := row_slice HR3.out
    obtain ⟨a4, n4, c4, rfl⟩ := row_slice hr4
    clear hr4 hb4 hst
    go_wp2_with fail
    refine (awake_any _).mono ?_
    rintro e w9 ⟨rfl, hb9⟩
    have HB9 := Lib.hid (HB4.out.trans (hb9.mono HB4.out.size))
    clear hb9
    go_wp2
    go_ret
    exact ⟨rfl, HB9.out⟩
  · have HM := Lib.hid (moves_long p1 p2 c1 c2 a b w2 hlong)
    have HRM := Lib.hid (fun w3 => rmoves_long pa pb ca cb a b w3 hlong)
    clear hlong hra hrb
    go_wp2_with fail
    refine HM.out.mono ?_
    rintro e w3 ⟨rfl, rfl⟩
    go_wp2_with fail
    refine (HRM.out _).mono ?_
    rintro e w4 ⟨rfl, rfl⟩
    have hcv := conv_nil
    go_wp2_with fail
    refine (awake_any _).mono ?_
    rintro e w9 ⟨rfl, hb9⟩
    have HB9 := Lib.hid (HB2.out.trans (hb9.mono HB2.out.size))
    clear hb9
    go_wp2
    go_ret
    exact ⟨rfl, HB9.out⟩
/-- What a slice's length may be. -/
theorem slice_len {H : Type} {enc : TypeId × Value → H} {W : World} {v : Value} {d : DataW H} {p : List MemPlace} {ts : List TypeId} {ds : List (DataW H)} {j : Nat} (h : DataW.Trod enc Try.prog W 0 (fun _ => true) true 22 v d p)
    (hsz : (DataW.weightsEach Try.prog ts ds).all (· ≤ reachBytes) = true) (ht : ts[j]? = some 22) (hd : ds[j]? = some d) {a : Option Addr} {len cap : Nat} (hv : v = .slice a len cap) : len * 4 ≤ 140737488351232 := by
  obtain ⟨fuel, hf⟩ := h
  rcases open_slice Try.underlying22 hf with ⟨hcs, _⟩ | ⟨a', len', cap', m, n', D, Pl, hcs, _, hl, hm, hmm, hx, _⟩
  · subst hv
    simp [Value.cells] at hcs
    obtain ⟨_, rfl, _⟩ := hcs
    omega
  · subst hv
    simp [Value.cells] at hcs
    obtain ⟨_, rfl, _⟩ := hcs
    have hdd : d = .slice ((List.range len).map D) ((List.range (m - len)).map fun j => D (len + j)) := by
      have := congrArg Prod.fst hx; exact this
    rw [hdd] at hd
    have h1 := sized_slice hsz ht hd Try.underlying22
    have h2 : Try.prog.bytesOf 21 = 4 := by kernel_rfl
    rw [h2] at h1
    simp only [List.length_map, List.length_range] at h1
    have h3 : reachBytes = 140737488351232 := by decide
    rw [h3] at h1
    have : len * 4 ≤ (len + (m - len)) * 4 := Nat.mul_le_mul_right _ (by omega)
    omega
theorem trod_int32 {H : Type} {enc : TypeId × Value → H} {W : World} {base : Nat} {spare : Nat → Bool} {held : Bool} {fuel : Nat} {cs : List Value} {y : DataW H × List MemPlace} (hf : DataW.trod enc Try.prog W base spare held fuel 21 cs = some y) :
    ∃ x, cs = [.int .i32 x] := by
  cases fuel with
  | zero => simp [DataW.trod] at hf
  | succ n =>
    simp only [DataW.trod, Try.underlying21] at hf
    rcases cs with _ | ⟨v, _ | ⟨v2, rest⟩⟩
    · simp at hf
    · cases v <;> simp at hf
      obtain ⟨⟨rfl, _⟩, _⟩ := hf
      exact ⟨_, rfl⟩
    · cases v <;> simp at hf
theorem reads_runes {H : Type} {enc : TypeId × Value → H} {W : World} {v : Value} {d : DataW H} {p : List MemPlace} (h : DataW.Trod enc Try.prog W 0 (fun _ => true) true 22 v d p) (hok : ∃ a len cap, v = .slice a len cap) :
    ∃ xs, (numR .i32).Sl W v xs := Rec.reads (R := numR .i32) Try.underlying22 (by kernel_rfl) (fun fuel cs y hy => by
      obtain ⟨x, hx⟩ := trod_int32 hy
      exact ⟨x, trivial, hx⟩) h hok
theorem myersMoves_walk {H : Type} {enc : TypeId × Value → H} {W : World} {b0 b1 : Nat} {v0 v1 : Value} {d0 d1 : DataW H} {p0 p1 : List MemPlace}
    (k0 : Value.okWide Try.prog W .any b0 22 v0) (h0 : DataW.Trod enc Try.prog W 0 (fun _ => true) true 22 v0 d0 p0) (k1 : Value.okWide Try.prog W .any b1 22 v1) (h1 : DataW.Trod enc Try.prog W 0 (fun _ => true) true 22 v1 d1 p1)
    (hsz : (DataW.weightsEach Try.prog [22, 22] [d0, d1]).all (· ≤ reachBytes) = true) :
    Calls Try.prog 3 #[v0, v1] W fun e w' => e = .returned (.bool true) ∧ Below W.heap.size W w' := by
  obtain ⟨xs, a, ca, rfl, hc1, hm1, hi1, hn1⟩ := reads_runes h0 (okWide_slice Try.underlying22 k0)
  obtain ⟨ys, b, cb, rfl, hc2, hm2, hi2, hn2⟩ := reads_runes h1 (okWide_slice Try.underlying22 k1)
  exact lawMoves_any a b ca cb xs ys W hi1 hi2 hn1 hn2 (by omega) (by omega) (slice_len (j := 0) h0 hsz rfl rfl rfl) (slice_len (j := 1) h1 hsz rfl rfl rfl)
end Go.Proofs.Ytipoifokcnbfnaa
