/- The law TreeParts: walk. -/
import Derived.Test.YtchbpfkjhilgiaaNz
import Derived.Test.YtchbpfkjhilgiaaPe
import Derived.Test.YtchbpfkjhilgiaaWr
namespace Go.Proofs.Ytchbpfkjhilgiaa
open Go.RowKit Go.WideShapes Go.ChangeShapes Go.ChangeMaps Go.Deep
set_option linter.unusedVariables false

@[go_sem ↓] theorem mk27 (n : Nat) (h : n ≤ 1000000) (w : World) : (Instr.makeSlice 27 (.int .i64 (n : Int)) (.int .i64 (n : Int))).run Try.prog w = .ok (.slice (some ⟨w.heap.size, 0, none⟩) n n) (w.alloc (.cells (madeCells #[.int .i64 0] n) 3)) := by
  have h4 := info3
  cases hi : Try.prog.info? 3 with
  | none => rw [hi] at h4; cases h4
  | some i =>
    rw [hi] at h4
    simp at h4
    obtain ⟨z0, z1, z2⟩ := h4
    have := run_make (P := Try.prog) w 27 3 i _ Try.underlying27 hi z0 .i64 .i64 n n (by omega) (Int.le_refl _) (by rw [z2]; omega) (by omega)
    rw [this, z1]
    simp [Value.cells]
theorem irow_made (w : World) (n : Nat) (hn : n ≤ 1000000) : intR.row 3 w.heap.size (List.replicate n 0) (.slice (some ⟨w.heap.size, 0, none⟩) n n) (w.alloc (.cells (madeCells #[.int .i64 0] n) 3)) := by
  have hm : (madeCells #[Value.int .i64 0] n).toList = intR.cells (List.replicate n 0) := by have := made_ints n; rwa [Nat.mul_one] at this
  have hs : (madeCells #[Value.int .i64 0] n).size = n := by
    have := congrArg List.length hm
    rw [Rec.cells_length _ _ (fun _ _ => trivial)] at this
    simpa [intR] using this
  refine ⟨fun _ _ => trivial, by rw [Rec.cells_length _ _ (fun _ _ => trivial)], .inr ⟨w.heap.size, n, madeCells #[.int .i64 0] n, by simp, Nat.le_refl _, (MapKept.heap_alloc w _).1, by simp, by unfold maxLen; omega, by rw [hs]; simp [intR], ?_⟩⟩
  rw [hm, List.take_of_length_le (by rw [Rec.cells_length _ _ (fun _ _ => trivial)]; simp)]
theorem own_in {bt g l c : Nat} (h : (Value.slice (some ⟨bt, 0, none⟩) l c).ownBlock = some g) : g = bt := by
  simp only [Value.ownBlock, Option.some.injEq] at h; exact h.symm
theorem bool_at {w : World} {base g l c k : Nat} {O : List Bool} (hk : k < O.length) (h : boolR.row 4 base O (.slice (some ⟨g, 0, none⟩) l c) w) : w.cell? ⟨g, k, none⟩ = some (.bool (tkB O k)) := by
  have := bool_cell (k := k) (o := 0) (by rw [Nat.zero_add]; exact h.at (k := k) (x := O.getD k false) (by simp [List.getD_eq_getElem?_getD, hk]))
  rwa [Nat.zero_add] at this
theorem int_at {w : World} {base g l c k : Nat} {O : List Int} {x : Int} (hk : O[k]? = some x) (h : intR.row 3 base O (.slice (some ⟨g, 0, none⟩) l c) w) : w.cell? ⟨g, k, none⟩ = some (.int .i64 x) := by
  have := int_cell (k := k) (o := 0) (by rw [Nat.zero_add]; exact h.at (k := k) hk)
  rwa [Nat.zero_add] at this
theorem free_new (n : Nat) : freeT (List.replicate n false) = n := by simp [freeT]
/-- A row of another type is kept where one cell is written. -/
theorem row_set_other {α : Type} {R : Rec α} {e : TypeId} {base : Nat} {O : List α} {v u : Value} {w : World} {g k : Nat} {e' : TypeId} {cur : Array Value} (h : R.row e base O v w) (hg : w.heap[g]? = some (.cells cur e' (0, 0))) (hne : e ≠ e') : R.row e base O v (w.setCell ⟨g, k, none⟩ u) :=
  row_same h fun g' hg' => Below.heap_setCell w ⟨g, k, none⟩ _ g' fun he => by
    have he' : g' = g := he
    subst he'
    exact row_tag h hne g' hg' cur hg
theorem row_heap {α : Type} {R : Rec α} {e : TypeId} {base g l c : Nat} {O : List α} {w : World} (h : R.row e base O (.slice (some ⟨g, 0, none⟩) l c) w) : ∃ cur, w.heap[g]? = some (.cells cur e (0, 0)) := (row_block h g rfl).2
/-- A row of another type is kept by an append. -/
theorem row_app_other {α β : Type} {R : Rec α} {R' : Rec β} {e e' : TypeId} {base base' : Nat} {O : List α} {O' : List β} {v v' : Value} {w w' : World} (h : R.row e base O v w) (h' : R'.row e' base' O' v' w) (hg : w.grownBy w' v'.ownBlock) (hne : e ≠ e') : R.row e base O v w' :=
  row_same h fun g hg' => hg.block g (Array.getElem?_eq_some_iff.1 (row_block h g hg').2.choose_spec).1 fun he => by
    obtain ⟨_, cur, hc⟩ := row_block h' g he.symm
    exact row_tag h hne g hg' cur hc
theorem nd_set34 {T : List Bool} {pn : Nat} {yk : Key} {yr : Int × Bool} (h32 : yk.2.1.length = 32) : nodeR.enc (fixN T (yk, (pn : Int), yr)) = (nodeR.enc (yk, (pn : Int), yr)).set 34 (.int .i64 (inv T pn)) := by
  rw [fixN_pos (by simp only; omega)]
  have hk : (keyB yk.1 yk.2.1 yk.2.2).toList.length = 34 := by rw [Array.length_toList, keyB_size, h32]
  show (ndB _).toList = (ndB _).toList.set 34 _
  rw [ndB_list, ndB_list]
  show (keyB yk.1 yk.2.1 yk.2.2).toList ++ _ = ((keyB yk.1 yk.2.1 yk.2.2).toList ++ _).set 34 _
  rw [List.set_append_right _ _ (by omega), hk]
  simp

set_option maxHeartbeats 8000000 in
set_option maxRecDepth 100000 in
theorem lawParts_any (p : Option Addr) (c : Nat) (l : List Nd) (pk : Option Addr) (ck : Nat) (tk : List Bool) (w : World) (hin : nodeR.In w p l) (hik : boolR.In w pk tk) :
    Calls Try.prog 4 #[.slice p l.length c, .slice pk tk.length ck] w fun e w' => e = .returned (.bool true) ∧ Below w.heap.size w w' := by
  by_cases h1 : 60 < l.length
  · go_enter Try.func4, Try.ntmps4
    go_wp2
    go_ret
    exact ⟨rfl, Below.refl _ _⟩
  have hlen : l.length ≤ 1000 := by omega
  have HX := Lib.hid hin
  have HK := Lib.hid hik
  clear hin hik
  go_enter Try.func4, Try.ntmps4
  go_wp2_with fail
  refine (told_any p c l w hlen HX.out).mono ?_
  rintro e w1 ⟨v5, rfl, hr5, hb1⟩
  obtain ⟨p5, c5, rfl, _, _, hi5, _⟩ := hr5.sl
  have HB1 := Lib.hid hb1
  have HI5 := Lib.hid hi5
  clear hr5 hb1 hi5
  go_wp2_with fail
  refine (tright_any p5 c5 l w1 hlen HI5.out).mono ?_
  rintro e w2 ⟨rfl, hb2⟩
  have HB2 := Lib.hid (HB1.out.trans (hb2.mono HB1.out.size))
  have HI52 := Lib.hid (HI5.out.below hb2)
  clear hb2
  by_cases hR : RightL l
  case neg =>
    have hd : decide (RightL l) = false := decide_eq_false hR
    rw [hd]
    clear hd hR
    go_wp2_with fail
    refine (awake_any _).mono ?_
    rintro e w9 ⟨rfl, hb9⟩
    have HB9 := Lib.hid (HB2.out.trans (hb9.mono HB2.out.size))
    clear hb9
    go_wp2
    go_ret
    exact ⟨rfl, HB9.out⟩
  have hd : decide (RightL l) = true := decide_eq_true hR
  rw [hd]
  have HR := Lib.hid hR
  clear hd hR
  obtain ⟨bi, hbi⟩ : ∃ bi, bi = w2.heap.size := ⟨_, rfl⟩
  obtain ⟨bt, hbt⟩ : ∃ bt, bt = bi + 1 := ⟨_, rfl⟩
  have hir := irow_made w2 l.length (by omega)
  have hb3 := (Below.refl w2.heap.size w2).alloc (Nat.le_refl _) (.cells (madeCells #[.int .i64 0] l.length) 3)
  obtain ⟨W1, hW1⟩ : ∃ W1, W1 = w2.alloc (.cells (madeCells #[.int .i64 0] l.length) 3) := ⟨_, rfl⟩
  have hs1 : W1.heap.size = bt := by rw [hW1, hbt, hbi]; simp
  rw [← hW1] at hir hb3
  rw [← hbi] at hir
  have hbr := brow_made W1 l.length (by omega)
  have hb4 := (Below.refl W1.heap.size W1).alloc (Nat.le_refl _) (.cells (madeCells #[.bool false] l.length) 4)
  obtain ⟨W2, hW2⟩ : ∃ W2, W2 = W1.alloc (.cells (madeCells #[.bool false] l.length) 4) := ⟨_, rfl⟩
  rw [← hW2] at hbr hb4
  rw [hs1] at hbr
  have HIR := Lib.hid (hir.below hb4)
  have HBR := Lib.hid (hbr.base (show bi ≤ bt by omega))
  have HBB := Lib.hid (hb3.trans (hb4.mono hb3.size))
  have HBI := Lib.hid hbi
  have HBT := Lib.hid hbt
  have HS1 := Lib.hid hs1
  have hm : l.length ≤ 1000000 := by omega
  clear hir hb3 hbr hb4 hs1
  go_upto_region 7 with fail
  rw [← hW1]
  clear hW1
  rw [← HBI.out]
  go_upto_region 9 with fail
  rw [← hW2]
  clear hW2
  rw [HS1.out]
  clear hbi hbt HS1
  go_wp2_with fail
  go_loopg [9] (l.length + 1) (fun g v9 wr => ∃ (T : List Bool) (again : Bool), g = (if again then freeT T + 1 else 0) ∧ v9 = .bool again ∧ T.length = l.length ∧ ClT l T ∧ boolR.row 4 bi T (.slice (some ⟨bt, 0, none⟩) l.length l.length) wr ∧ intR.row 3 bi (List.replicate l.length 0) (.slice (some ⟨bi, 0, none⟩) l.length l.length) wr ∧ Below w2.heap.size w2 wr)
  case atStart => exact ⟨List.replicate l.length false, true, by simp [free_new], rfl, by simp, clT_start _ _, HBR.out, HIR.out, HBB.out⟩
  case round =>
    obtain ⟨T, again, hg, rfl, hTl, hcl, hbr, hir, hbw⟩ := hrel
    have HG := Lib.hid hg
    have HTL := Lib.hid hTl
    have HCL := Lib.hid hcl
    have HBR2 := Lib.hid hbr
    have HIR2 := Lib.hid hir
    have HBW := Lib.hid hbw
    clear hg hTl hcl hbr hir hbw HBR HIR HBB
    cases again with
    | true =>
      have HG1 := Lib.hid (show gk = freeT T + 1 from HG.out)
      go_wp2_with fail
      go_loopg [9, 10] l.length (fun g v9 v10 wr => ∃ (k : Nat) (T2 : List Bool) (ag : Bool), g + k = l.length ∧ v10 = .int .i64 k ∧ v9 = .bool ag ∧ T2.length = l.length ∧ ClT l T2 ∧ freeT T2 ≤ freeT T ∧ (ag = true → freeT T2 < freeT T) ∧ boolR.row 4 bi T2 (.slice (some ⟨bt, 0, none⟩) l.length l.length) wr ∧ intR.row 3 bi (List.replicate l.length 0) (.slice (some ⟨bi, 0, none⟩) l.length l.length) wr ∧ Below w2.heap.size w2 wr)
      case atStart => exact ⟨0, T, false, by omega, rfl, rfl, HTL.out, HCL.out, Nat.le_refl _, (fun h => by cases h), HBR2.out, HIR2.out, HBW.out⟩
      case round =>
        obtain ⟨k, T2, ag, hg2, rfl, rfl, hl2, hc2, hf2, hfa, ht2, hi2, hbz⟩ := hrel
        have HG2 := Lib.hid hg2
        have HL2 := Lib.hid hl2
        have HC2 := Lib.hid hc2
        have HF2 := Lib.hid hf2
        have HFA := Lib.hid hfa
        have HT2 := Lib.hid ht2
        have HI2 := Lib.hid hi2
        have HBZ := Lib.hid hbz
        clear hg2 hl2 hc2 hf2 hfa ht2 hi2 hbz
        by_cases hk : k < l.length
        · have i1 : (k : Int) < l.length := by omega
          have c0 := bool_at (k := k) (by rw [HL2.out]; exact hk) HT2.out
          cases ht : tkB T2 k with
          | true =>
            rw [ht] at c0
            clear ht
            go_wp2
            go_roundg (gk - 1)
            case measure => have := HG2.out; omega
            case rel => exact ⟨k + 1, T2, ag, by have := HG2.out; omega, by go_num, rfl, HL2.out, HC2.out, HF2.out, HFA.out, HT2.out, HI2.out, HBZ.out⟩
          | false =>
            rw [ht] at c0
            have HTK := Lib.hid ht
            clear ht
            obtain ⟨b, off, rfl, hlt, h321, hat⟩ := node_at (HX.out.below (HB2.out.trans (HBZ.out.mono HB2.out.size))) hk
            have q1 := hat.p
            have HPN := Lib.hid (show parN l k = (l.getD k nd0).2.1 from rfl)
            have HPL := Lib.hid (show (l.getD k nd0).2.1 < l.length from (HR.out.1 k hk).2.2.1)
            generalize l.getD k nd0 = y at *
            obtain ⟨yk, xp, yr, yd⟩ := y
            simp only at q1 HPN HPL
            clear hat h321 hlt
            by_cases hkk : k < tk.length
            · have i3 : (k : Int) < tk.length := by omega
              have d3 : decide ((tk.length : Int) ≤ k) = false := decide_eq_false (by omega)
              rcases (HK.out.below (HB2.out.trans (HBZ.out.mono HB2.out.size))).2 with h | ⟨b1, o1, rfl, hlt1, hc1⟩
              · rw [h] at hkk; simp at hkk
              have q2 := bool_cell (hc1 k _ (List.getElem?_eq_getElem hkk))
              generalize tk[k] = tb at *
              clear hc1 hlt1
              cases tb with
              | false =>
                go_wp2
                go_roundg (gk - 1)
                case measure => have := HG2.out; omega
                case rel => exact ⟨k + 1, T2, ag, by have := HG2.out; omega, by go_num, rfl, HL2.out, HC2.out, HF2.out, HFA.out, HT2.out, HI2.out, HBZ.out⟩
              | true =>
                by_cases hx : xp < 0
                · have HTP : 0 ≤ xp → tkB T2 xp.toNat = true := fun h => by omega
                  have HCN := Lib.hid (clT_set HL2.out hk HC2.out (by rw [HPN.out]; exact HTP))
                  have HFN := Lib.hid (freeT_set (by rw [HL2.out]; exact hk) HTK.out)
                  have hkl : k < T2.length := by rw [HL2.out]; exact hk
                  have c1 := bool_frozen hkl HT2.out
                  obtain ⟨hset, hbs⟩ := bool_set true hkl HT2.out
                  have hin3 := row_same HI2.out (w' := wr.setCell ⟨bt, k, none⟩ (.bool true)) (fun g hgg => Below.heap_setCell wr ⟨bt, k, none⟩ _ g (by have := own_in hgg; have := HBT.out; intro he; have he' : g = bt := he; omega))
                  have HT3 := Lib.hid hset
                  have HI3 := Lib.hid hin3
                  have HB3 := Lib.hid (HBZ.out.trans (by rw [← HBI.out]; exact hbs))
                  have HL3 := Lib.hid (show (T2.set k true).length = l.length by rw [List.length_set]; exact HL2.out)
                  clear hset hbs hin3 hkl
                  go_upto_region 17 with fail
                  obtain ⟨w3, hw3⟩ : ∃ w3, w3 = wr.setCell ⟨bt, k, none⟩ (.bool true) := ⟨_, rfl⟩
                  rw [← hw3] at HT3 HI3 HB3 ⊢
                  clear hw3 c0 c1
                  go_wp2
                  go_roundg (gk - 1)
                  case measure => have := HG2.out; omega
                  case rel => exact ⟨k + 1, T2.set k true, true, by have := HG2.out; omega, by go_num, rfl, HL3.out, HCN.out, by have := HFN.out; have := HF2.out; omega, (fun _ => by have := HFN.out; have := HF2.out; omega), HT3.out, HI3.out, HB3.out⟩
                · obtain ⟨pn, rfl⟩ := Int.eq_ofNat_of_zero_le (show 0 ≤ xp by omega)
                  have hpl : pn < l.length := by have := HPL.out; omega
                  have i2 : (pn : Int) < l.length := by omega
                  have c2 := bool_at (k := pn) (by rw [HL2.out]; exact hpl) HT2.out
                  cases hq : tkB T2 pn with
                  | false =>
                    rw [hq] at c2
                    clear hq
                    go_wp2
                    go_roundg (gk - 1)
                    case measure => have := HG2.out; omega
                    case rel => exact ⟨k + 1, T2, ag, by have := HG2.out; omega, by go_num, rfl, HL2.out, HC2.out, HF2.out, HFA.out, HT2.out, HI2.out, HBZ.out⟩
                  | true =>
                    rw [hq] at c2
                    have HTP : 0 ≤ (pn : Int) → tkB T2 (pn : Int).toNat = true := fun _ => by rw [Int.toNat_natCast]; exact hq
                    clear hq
                    have HCN := Lib.hid (clT_set HL2.out hk HC2.out (by rw [HPN.out]; exact HTP))
                    have HFN := Lib.hid (freeT_set (by rw [HL2.out]; exact hk) HTK.out)
                    have hkl : k < T2.length := by rw [HL2.out]; exact hk
                    have c1 := bool_frozen hkl HT2.out
                    obtain ⟨hset, hbs⟩ := bool_set true hkl HT2.out
                    have hin3 := row_same HI2.out (w' := wr.setCell ⟨bt, k, none⟩ (.bool true)) (fun g hgg => Below.heap_setCell wr ⟨bt, k, none⟩ _ g (by have := own_in hgg; have := HBT.out; intro he; have he' : g = bt := he; omega))
                    have HT3 := Lib.hid hset
                    have HI3 := Lib.hid hin3
                    have HB3 := Lib.hid (HBZ.out.trans (by rw [← HBI.out]; exact hbs))
                    have HL3 := Lib.hid (show (T2.set k true).length = l.length by rw [List.length_set]; exact HL2.out)
                    clear hset hbs hin3 hkl
                    go_upto_region 17 with fail
                    obtain ⟨w3, hw3⟩ : ∃ w3, w3 = wr.setCell ⟨bt, k, none⟩ (.bool true) := ⟨_, rfl⟩
                    rw [← hw3] at HT3 HI3 HB3 ⊢
                    clear hw3 c0 c1 c2
                    go_wp2
                    go_roundg (gk - 1)
                    case measure => have := HG2.out; omega
                    case rel => exact ⟨k + 1, T2.set k true, true, by have := HG2.out; omega, by go_num, rfl, HL3.out, HCN.out, by have := HFN.out; have := HF2.out; omega, (fun _ => by have := HFN.out; have := HF2.out; omega), HT3.out, HI3.out, HB3.out⟩
            · have d3 : decide ((tk.length : Int) ≤ k) = true := decide_eq_true (by omega)
              have i4 : (tk.length : Int) ≤ k := by omega
              by_cases hx : xp < 0
              · have HTP : 0 ≤ xp → tkB T2 xp.toNat = true := fun h => by omega
                have HCN := Lib.hid (clT_set HL2.out hk HC2.out (by rw [HPN.out]; exact HTP))
                have HFN := Lib.hid (freeT_set (by rw [HL2.out]; exact hk) HTK.out)
                have hkl : k < T2.length := by rw [HL2.out]; exact hk
                have c1 := bool_frozen hkl HT2.out
                obtain ⟨hset, hbs⟩ := bool_set true hkl HT2.out
                have hin3 := row_same HI2.out (w' := wr.setCell ⟨bt, k, none⟩ (.bool true)) (fun g hgg => Below.heap_setCell wr ⟨bt, k, none⟩ _ g (by have := own_in hgg; have := HBT.out; intro he; have he' : g = bt := he; omega))
                have HT3 := Lib.hid hset
                have HI3 := Lib.hid hin3
                have HB3 := Lib.hid (HBZ.out.trans (by rw [← HBI.out]; exact hbs))
                have HL3 := Lib.hid (show (T2.set k true).length = l.length by rw [List.length_set]; exact HL2.out)
                clear hset hbs hin3 hkl
                go_upto_region 17 with fail
                obtain ⟨w3, hw3⟩ : ∃ w3, w3 = wr.setCell ⟨bt, k, none⟩ (.bool true) := ⟨_, rfl⟩
                rw [← hw3] at HT3 HI3 HB3 ⊢
                clear hw3 c0 c1
                go_wp2
                go_roundg (gk - 1)
                case measure => have := HG2.out; omega
                case rel => exact ⟨k + 1, T2.set k true, true, by have := HG2.out; omega, by go_num, rfl, HL3.out, HCN.out, by have := HFN.out; have := HF2.out; omega, (fun _ => by have := HFN.out; have := HF2.out; omega), HT3.out, HI3.out, HB3.out⟩
              · obtain ⟨pn, rfl⟩ := Int.eq_ofNat_of_zero_le (show 0 ≤ xp by omega)
                have hpl : pn < l.length := by have := HPL.out; omega
                have i2 : (pn : Int) < l.length := by omega
                have c2 := bool_at (k := pn) (by rw [HL2.out]; exact hpl) HT2.out
                cases hq : tkB T2 pn with
                | false =>
                  rw [hq] at c2
                  clear hq
                  go_wp2
                  go_roundg (gk - 1)
                  case measure => have := HG2.out; omega
                  case rel => exact ⟨k + 1, T2, ag, by have := HG2.out; omega, by go_num, rfl, HL2.out, HC2.out, HF2.out, HFA.out, HT2.out, HI2.out, HBZ.out⟩
                | true =>
                  rw [hq] at c2
                  have HTP : 0 ≤ (pn : Int) → tkB T2 (pn : Int).toNat = true := fun _ => by rw [Int.toNat_natCast]; exact hq
                  clear hq
                  have HCN := Lib.hid (clT_set HL2.out hk HC2.out (by rw [HPN.out]; exact HTP))
                  have HFN := Lib.hid (freeT_set (by rw [HL2.out]; exact hk) HTK.out)
                  have hkl : k < T2.length := by rw [HL2.out]; exact hk
                  have c1 := bool_frozen hkl HT2.out
                  obtain ⟨hset, hbs⟩ := bool_set true hkl HT2.out
                  have hin3 := row_same HI2.out (w' := wr.setCell ⟨bt, k, none⟩ (.bool true)) (fun g hgg => Below.heap_setCell wr ⟨bt, k, none⟩ _ g (by have := own_in hgg; have := HBT.out; intro he; have he' : g = bt := he; omega))
                  have HT3 := Lib.hid hset
                  have HI3 := Lib.hid hin3
                  have HB3 := Lib.hid (HBZ.out.trans (by rw [← HBI.out]; exact hbs))
                  have HL3 := Lib.hid (show (T2.set k true).length = l.length by rw [List.length_set]; exact HL2.out)
                  clear hset hbs hin3 hkl
                  go_upto_region 17 with fail
                  obtain ⟨w3, hw3⟩ : ∃ w3, w3 = wr.setCell ⟨bt, k, none⟩ (.bool true) := ⟨_, rfl⟩
                  rw [← hw3] at HT3 HI3 HB3 ⊢
                  clear hw3 c0 c1 c2
                  go_wp2
                  go_roundg (gk - 1)
                  case measure => have := HG2.out; omega
                  case rel => exact ⟨k + 1, T2.set k true, true, by have := HG2.out; omega, by go_num, rfl, HL3.out, HCN.out, by have := HFN.out; have := HF2.out; omega, (fun _ => by have := HFN.out; have := HF2.out; omega), HT3.out, HI3.out, HB3.out⟩
        · have HDN := Lib.hid (show (if ag then freeT T2 + 1 else 0) < freeT T + 1 from by
            cases ag with
            | true => have := HFA.out rfl; simp only [if_true]; omega
            | false => simp)
          go_wp2
          go_roundg (if ag then freeT T2 + 1 else 0)
          case measure => have h1 := HG1.out; have h2 := HDN.out; omega
          case rel => exact ⟨T2, ag, rfl, rfl, HL2.out, HC2.out, HT2.out, HI2.out, HBZ.out⟩
    | false =>
      clear HG
      have hz := HIR2.out
      rw [← inL_zero T] at hz
      have HIZ := Lib.hid hz
      clear hz
      go_wp2_with fail
      go_loopg [7, 11] l.length (fun g v7 v11 wr => ∃ k : Nat, g + k = l.length ∧ v11 = .int .i64 k ∧ intR.row 3 bi (inL T l.length k) (.slice (some ⟨bi, 0, none⟩) l.length l.length) wr ∧ boolR.row 4 bi T (.slice (some ⟨bt, 0, none⟩) l.length l.length) wr ∧ nodeR.row 41 bi (someL l T k) v7 wr ∧ Below w2.heap.size w2 wr)
      case atStart => exact ⟨0, by omega, rfl, HIZ.out, HBR2.out, Rec.row.nil, HBW.out⟩
      case round =>
        obtain ⟨k, hg2, rfl, hi2, ht2, hs2, hbz⟩ := hrel
        have HG2 := Lib.hid hg2
        have HI2 := Lib.hid hi2
        have HT2 := Lib.hid ht2
        have HS2 := Lib.hid hs2
        have HBZ := Lib.hid hbz
        clear hg2 hi2 ht2 hs2 hbz
        by_cases hk : k < l.length
        · have i1 : (k : Int) < l.length := by omega
          have HKK := Lib.hid hk
          have hki : k < (inL T l.length k).length := by rw [inL_len]; exact hk
          have c0 := int_at (k := k) (x := (inL T l.length k).getD k 0) (by simp [List.getD_eq_getElem?_getD, hki]) HI2.out
          have c1 := int_frozen hki HI2.out
          obtain ⟨hset, hbs⟩ := int_set (-1) hki HI2.out
          obtain ⟨curi, hhi⟩ := row_heap HI2.out
          have HT3 := Lib.hid (row_set_other (k := k) (u := .int .i64 (-1)) HT2.out hhi (by decide))
          have HS3 := Lib.hid (row_set_other (k := k) (u := .int .i64 (-1)) HS2.out hhi (by decide))
          have HI3 := Lib.hid hset
          have HB3 := Lib.hid (HBZ.out.trans (by rw [← HBI.out]; exact hbs))
          clear hset hbs hhi hki
          generalize (inL T l.length k).getD k 0 = z0 at *
          go_upto_region 22 with fail
          obtain ⟨w3, hw3⟩ : ∃ w3, w3 = wr.setCell ⟨bi, k, none⟩ (.int .i64 (-1)) := ⟨_, rfl⟩
          rw [← hw3] at HI3 HT3 HS3 HB3 ⊢
          clear hw3 c0 c1
          have c2 := bool_at (k := k) (by rw [HTL.out]; exact hk) HT3.out
          cases ht : tkB T k with
          | false =>
            rw [ht] at c2
            have hi4 := HI3.out
            rw [show ((inL T l.length k).set k (-1)) = inL T l.length (k + 1) from by rw [← inL_set hk]; unfold inv; rw [ht]; rfl] at hi4
            have hs4 := HS3.out
            rw [show someL l T k = someL l T (k + 1) by rw [someL_succ, ht]; rfl] at hs4
            have HI4 := Lib.hid hi4
            have HS4 := Lib.hid hs4
            clear ht hi4 hs4
            go_wp2
            go_roundg (gk - 1)
            case measure => have := HG2.out; omega
            case rel => exact ⟨k + 1, by have := HG2.out; omega, by go_num, HI4.out, HT3.out, HS4.out, HB3.out⟩
          | true =>
            rw [ht] at c2
            obtain ⟨p7, c7, he7, _, _, _, _⟩ := HS3.out.sl
            rw [someL_len] at he7
            have hki : k < ((inL T l.length k).set k (-1)).length := by rw [List.length_set, inL_len]; exact hk
            have c0 := int_at (k := k) (x := ((inL T l.length k).set k (-1)).getD k 0) (by rw [List.getD_eq_getElem?_getD, List.getElem?_eq_getElem hki]; rfl) HI3.out
            have c1 := int_frozen hki HI3.out
            obtain ⟨hset, hbs⟩ := int_set (rankT T k : Nat) hki HI3.out
            rw [List.set_set, show (((rankT T k : Nat) : Int)) = inv T k by unfold inv; rw [ht]; rfl, inL_set hk] at hset
            rw [show (((rankT T k : Nat) : Int)) = inv T k by unfold inv; rw [ht]; rfl] at hbs
            obtain ⟨curi, hhi⟩ := row_heap HI3.out
            have HT4 := Lib.hid (row_set_other (k := k) (u := .int .i64 (inv T k)) HT3.out hhi (by decide))
            have HS4 := Lib.hid (row_set_other (k := k) (u := .int .i64 (inv T k)) HS3.out hhi (by decide))
            have HI4 := Lib.hid hset
            have HB4 := Lib.hid (HB3.out.trans (by rw [← HBI.out]; exact hbs))
            have HRK := Lib.hid (show ((rankT T k : Nat) : Int) = inv T k by unfold inv; rw [ht]; rfl)
            have HSS := Lib.hid (show someL l T (k + 1) = someL l T k ++ [l.getD k nd0] by rw [someL_succ, ht]; rfl)
            have HSL := Lib.hid (show (someL l T k).length + 1 ≤ 100000000 by have := someL_le l T k; omega)
            clear hset hbs hhi hki ht
            generalize ((inL T l.length k).set k (-1)).getD k 0 = z1 at *
            have HE7 := Lib.hid he7
            subst he7
            go_upto_region 24 with fail
            rw [HRK.out]
            obtain ⟨w4, hw4⟩ : ∃ w4, w4 = w3.setCell ⟨bi, k, none⟩ (.int .i64 (inv T k)) := ⟨_, rfl⟩
            rw [← hw4] at HI4 HT4 HS4 HB4 ⊢
            clear hw4 c0 c1 c2
            obtain ⟨b, off, rfl, hlt, h321, hat⟩ := node_at (HI52.out.below HB4.out) hk
            have n1 := hat.f
            have n2 := hat.a
            have n3 := h321
            generalize l.getD k nd0 = x at *
            have hba := (Below.refl w4.heap.size w4).alloc (Nat.le_refl _) (.cells (ndB x) 41)
            have HRW := Lib.hid (HS4.out.below hba)
            have HIA := Lib.hid (HI4.out.below hba)
            have HTA := Lib.hid (HT4.out.below hba)
            have HINx := Lib.hid (nodeIn_one w4 x h321)
            have HBA := Lib.hid (HB4.out.trans (hba.mono HB4.out.size))
            have HBS := Lib.hid (show bi ≤ (w4.alloc (.cells (ndB x) 41)).heap.size by rw [HBI.out]; exact HBA.out.size)
            clear hba hat h321
            go_wp2_with (at_builtin; refine Rec.wpList_app node25 rfl _ _ rfl bi _ (someL l T k) [x] (someL l T (k + 1)) HSS.out rfl HRW.out (some ⟨w4.heap.size, 0, none⟩) 1 rfl HINx.out (fun h => by cases h) HSL.out HBS.out ?_)
            intro v8 w8 hr8 hg8 hb8
            have HI8 := Lib.hid (row_app_other HIA.out HRW.out hg8 (by decide))
            have HT8 := Lib.hid (row_app_other HTA.out HRW.out hg8 (by decide))
            have HR8 := Lib.hid hr8
            have HB8 := Lib.hid (HBA.out.trans (by rw [← HBI.out]; exact hb8))
            clear hr8 hg8 hb8 n1 n2 n3
            go_wp2
            go_roundg (gk - 1)
            case measure => have := HG2.out; omega
            case rel => exact ⟨k + 1, by have := HG2.out; omega, by go_num, HI8.out, HT8.out, HR8.out, HB8.out⟩
        · have hke : k = l.length := by have := HG2.out; omega
          have hi3 := HI2.out
          rw [hke] at hi3
          have hs3 := HS2.out
          rw [hke] at hs3
          obtain ⟨m, hm1⟩ : ∃ m, m = (fixL l T).length := ⟨_, rfl⟩
          obtain ⟨p7, c7, hp7, _, _, _, _⟩ := hs3.sl
          rw [someL_len', ← hm1] at hp7
          subst hp7
          rw [← partL_zero] at hs3
          have HI3 := Lib.hid hi3
          have HS3 := Lib.hid hs3
          have HM := Lib.hid hm1
          have HFL := Lib.hid (show (fixL l T).length ≤ 1000 by
            rw [fixL_len]
            have := someL_le l T l.length
            rw [someL_len] at this
            unfold rankT at this
            omega)
          clear hi3 hs3 hm1 hke HI2 HS2
          go_wp2_with fail
          go_loopg [12] m (fun g v12 wr => ∃ j : Nat, g + j = m ∧ v12 = .int .i64 j ∧ nodeR.row 41 bi (partL l T j) (.slice p7 m c7) wr ∧ intR.row 3 bi (inL T l.length l.length) (.slice (some ⟨bi, 0, none⟩) l.length l.length) wr ∧ Below w2.heap.size w2 wr)
          case atStart => exact ⟨0, by omega, rfl, HS3.out, HI3.out, HBZ.out⟩
          case round =>
            obtain ⟨j, hg3, rfl, hs4, hi4, hbv⟩ := hrel
            have HG3 := Lib.hid hg3
            have HS4 := Lib.hid hs4
            have HI4 := Lib.hid hi4
            have HBV := Lib.hid hbv
            clear hg3 hs4 hi4 hbv
            by_cases hj : j < m
            · have i1 : (j : Int) < m := by omega
              have hm8 : m ≤ 1000 := by rw [HM.out]; exact HFL.out
              have HJJ := Lib.hid hj
              obtain ⟨i, hi, ht, hget, hset⟩ := partL_get (l := l) (T := T) (k := j) (by rw [← HM.out]; exact hj)
              have hjl : j < (partL l T j).length := (List.getElem?_eq_some_iff.1 hget).1
              obtain ⟨g7, cc7, he7, _⟩ := HS4.out.some (by intro h; rw [h] at hjl; simp at hjl)
              have he8 := (Value.slice.inj he7).1
              subst he8
              have h32 : (l.getD i nd0).1.2.1.length = 32 := HS4.out.1 _ (List.mem_of_getElem? hget)
              have hat : NdAt wr g7 (j * 37) (l.getD i nd0) := NdAt.of h32 (HS4.out.at hget)
              have q1 := hat.p
              have HPL := Lib.hid (show (l.getD i nd0).2.1 < l.length from (HR.out.1 i hi).2.2.1)
              generalize l.getD i nd0 = y at *
              obtain ⟨yk, xp, yr, yd⟩ := y
              simp only at q1 HPL h32
              clear hat he7 hjl
              by_cases hx : xp < 0
              · have hs5 := HS4.out
                rw [fixN_neg hx] at hset
                have hself : (partL l T j).set j (yk, xp, yr, yd) = partL l T j := by
                  obtain ⟨a1, a2⟩ := List.getElem?_eq_some_iff.1 hget
                  rw [← a2]; exact List.set_getElem_self a1
                rw [hself] at hset
                rw [hset] at hs5
                have HS5 := Lib.hid hs5
                clear hs5 hset hself hget
                go_wp2
                go_roundg (gk - 1)
                case measure => have := HG3.out; have := HJJ.out; omega
                case rel => exact ⟨j + 1, by have := HG3.out; have := HJJ.out; omega, by go_num, HS5.out, HI4.out, HBV.out⟩
              · obtain ⟨pn, rfl⟩ := Int.eq_ofNat_of_zero_le (show 0 ≤ xp by omega)
                have hpl : pn < l.length := by have := HPL.out; omega
                have i2 : (pn : Int) < l.length := by omega
                have c2 := int_at (k := pn) (inL_get hpl) HI4.out
                obtain ⟨hs5, hbs⟩ := row_field (R := nodeR) (f := 34) (x' := fixN T (yk, (pn : Int), yr, yd)) (u := .int .i64 (inv T pn)) hget h32 (by decide) (nd_set34 h32) HS4.out
                rw [hset] at hs5
                have c3 := row_free HS4.out (j * 37 + 34)
                obtain ⟨curs, hhs⟩ := row_heap HS4.out
                have HI5 := Lib.hid (row_set_other (k := j * 37 + 34) (u := .int .i64 (inv T pn)) HI4.out hhs (by decide))
                have HS5 := Lib.hid (show nodeR.row 41 bi (partL l T (j + 1)) (.slice (some ⟨g7, 0, none⟩) m c7) (wr.setCell ⟨g7, j * 37 + 34, none⟩ (.int .i64 (inv T pn))) from hs5)
                have HB5 := Lib.hid (show Below w2.heap.size w2 (wr.setCell ⟨g7, j * 37 + 34, none⟩ (.int .i64 (inv T pn))) from HBV.out.trans (by rw [← HBI.out]; exact hbs))
                clear hs5 hbs hhs hset hget
                go_upto_region 27 with fail
                obtain ⟨w3, hw3⟩ : ∃ w3, w3 = wr.setCell ⟨g7, j * 37 + 34, none⟩ (.int .i64 (inv T pn)) := ⟨_, rfl⟩
                rw [← hw3] at HS5 HI5 HB5 ⊢
                clear hw3 c2 c3 q1
                go_wp2
                go_roundg (gk - 1)
                case measure => have := HG3.out; have := HJJ.out; omega
                case rel => exact ⟨j + 1, by have := HG3.out; have := HJJ.out; omega, by go_num, HS5.out, HI5.out, HB5.out⟩
            · have hje : j = m := by have := HG3.out; omega
              have hs5 := HS4.out
              rw [hje, HM.out, partL_all, ← HM.out] at hs5
              have HS5 := Lib.hid hs5
              have HFO := Lib.hid (fixL_ord HR.out HCL.out)
              have HTM := Lib.hid (fun p' c' w' hi => torder_any p' c' (fixL l T) w' HFL.out hi)
              rw [← HM.out] at HTM
              clear hs5 hje
              go_wp2_with fail
              refine (torder_any p5 c5 l _ hlen (HI52.out.below HBV.out)).mono ?_
              rintro e w4 ⟨v4, rfl, hr4, hb4⟩
              have HB4 := Lib.hid (HBV.out.trans (hb4.mono HBV.out.size))
              have HS6 := Lib.hid (HS5.out.below hb4)
              have HI6 := Lib.hid (HI4.out.below hb4)
              obtain ⟨p4, c4, rfl, _, _, hi4, _⟩ := hr4.sl
              have HO4 := Lib.hid hi4
              have HOL := Lib.hid (fun (k : Nat) (hk : k < (ordN l).length) => (show (ordN l).getD k 0 < l.length from ordN_lt (by
                rw [List.getD_eq_getElem?_getD, List.getElem?_eq_getElem hk]; exact List.getElem_mem hk)))
              have HON := Lib.hid (ordN_le l)
              rw [toI_len]
              generalize ordN l = O at *
              clear hr4 hb4 hi4
              go_wp2_with fail
              go_loopg [13, 15] O.length (fun g v13 v15 wz => ∃ k : Nat, g + k = O.length ∧ v15 = .int .i64 k ∧ intR.row 3 w4.heap.size (toI (wantL O T k)) v13 wz ∧ Below w4.heap.size w4 wz)
              case atStart => exact ⟨0, by omega, rfl, by simpa [wantL, toI] using Rec.row.nil, Below.refl _ _⟩
              case round =>
                obtain ⟨k, hg4, rfl, hr4, hby⟩ := hrel
                have HG4 := Lib.hid hg4
                have HR4 := Lib.hid hr4
                have HBY := Lib.hid hby
                clear hg4 hr4 hby
                by_cases hk : k < O.length
                · have i1 : (k : Int) < O.length := by omega
                  have HK8 := Lib.hid hk
                  have hk8 : O.length ≤ 1000 := Nat.le_trans HON.out hlen
                  have hxI : (toI O)[k]? = some ((O.getD k 0 : Nat) : Int) := by
                    unfold toI; rw [List.getElem?_map]; simp [List.getD_eq_getElem?_getD, hk]
                  have hxl := HOL.out k hk
                  have HWS := Lib.hid (wantL_succ (T := T) hk)
                  rcases (HO4.out.below HBY.out).2 with h | ⟨b1, o1, rfl, hlt1, hc1⟩
                  · rw [h] at hxI; simp at hxI
                  have q1 := int_cell (hc1 k _ hxI)
                  have c2 := int_at (k := O.getD k 0) (inL_get hxl) (HI6.out.below HBY.out)
                  generalize O.getD k 0 = x at *
                  have i2 : (x : Int) < l.length := by omega
                  clear hxI hc1 hlt1
                  cases ht : tkB T x with
                  | false =>
                    rw [show inv T x = -1 by unfold inv; rw [ht]; rfl] at c2
                    have hr5 := HR4.out
                    rw [show wantL O T k = wantL O T (k + 1) by rw [HWS.out, ht]; rfl] at hr5
                    have HR5 := Lib.hid hr5
                    clear ht hr5
                    go_wp2
                    go_roundg (gk - 1)
                    case measure => have := HG4.out; have := HK8.out; omega
                    case rel => exact ⟨k + 1, by have := HG4.out; have := HK8.out; omega, by go_num, HR5.out, HBY.out⟩
                  | true =>
                    rw [show inv T x = ((rankT T x : Nat) : Int) by unfold inv; rw [ht]; rfl] at c2
                    have HW5 := Lib.hid (show toI (wantL O T (k + 1)) = toI (wantL O T k) ++ [((rankT T x : Nat) : Int)] by rw [HWS.out, ht]; exact toI_snoc _ _)
                    generalize rankT T x = r at *
                    have hba := (Below.refl wr.heap.size wr).alloc (Nat.le_refl _) (.cells #[.int .i64 (r : Int)] 3)
                    have HRW := Lib.hid (HR4.out.below hba)
                    have HINx := Lib.hid (show intR.In (wr.alloc (.cells #[.int .i64 (r : Int)] 3)) (some ⟨wr.heap.size, 0, none⟩) [(r : Int)] from Rec.In.one (R := intR) wr 3 (r : Int) trivial)
                    have HBA := Lib.hid (HBY.out.trans (hba.mono HBY.out.size))
                    have HTL2 := Lib.hid (show (toI (wantL O T k)).length + 1 ≤ 100000000 by rw [toI_len]; have := wantL_le O T k; have := HON.out; omega)
                    clear hba ht
                    go_wp2_with (at_builtin; refine Rec.wpList_app int27 rfl _ _ rfl w4.heap.size _ (toI (wantL O T k)) [(r : Int)] (toI (wantL O T (k + 1))) HW5.out rfl HRW.out (some ⟨wr.heap.size, 0, none⟩) 1 rfl HINx.out (fun h => by cases h) HTL2.out HBA.out.size ?_)
                    intro v8 w8 hr8 _ hb8
                    have HR8 := Lib.hid hr8
                    have HB8 := Lib.hid (HBA.out.trans hb8)
                    clear hr8 hb8 q1 c2
                    go_wp2
                    go_roundg (gk - 1)
                    case measure => have := HG4.out; have := HK8.out; omega
                    case rel => exact ⟨k + 1, by have := HG4.out; have := HK8.out; omega, by go_num, HR8.out, HB8.out⟩
                · have hke : k = O.length := by have := HG4.out; omega
                  have hr5 := HR4.out
                  rw [hke, show wantL O T O.length = O.filterMap (numT T) by unfold wantL; rw [List.take_length]] at hr5
                  obtain ⟨p13, c13, rfl, _, _, hi13, _⟩ := hr5.sl
                  have HI13 := Lib.hid hi13
                  obtain ⟨_, _, he7, _, _, hi7, _⟩ := HS6.out.sl
                  have h7a := (Value.slice.inj he7).1
                  subst h7a
                  have HI7 := Lib.hid (hi7.below HBY.out)
                  have HBX := Lib.hid (HB2.out.trans ((HB4.out.trans (HBY.out.mono HB4.out.size)).mono HB2.out.size))
                  clear hr5 hi13 hi7 hke he7
                  go_wp2_with fail
                  refine (HTM.out _ c7 _ HI7.out).mono ?_
                  rintro e w6 ⟨v6, rfl, hr6, hb6⟩
                  have HB6 := Lib.hid (HBX.out.trans (hb6.mono HBX.out.size))
                  have HI14 := Lib.hid (HI13.out.below hb6)
                  rw [HFO.out] at hr6
                  obtain ⟨p6, c6, rfl, _, _, hi6, _⟩ := hr6.sl
                  have HI6 := Lib.hid hi6
                  have HLQ := Lib.hid (show (toI (O.filterMap (numT T))).length ≤ 1000000 by
                    rw [toI_len]
                    have := wantL_le O T O.length
                    unfold wantL at this
                    rw [List.take_length] at this
                    have := HON.out
                    omega)
                  generalize toI (O.filterMap (numT T)) = Q at *
                  clear hr6 hb6 hi6
                  go_wp2_with fail
                  refine (ints_any p6 p13 c6 c13 Q Q w6 HLQ.out HLQ.out HI6.out HI14.out).mono ?_
                  rintro e w7 ⟨rfl, hb7⟩
                  have HB7 := Lib.hid (HB6.out.trans (hb7.mono HB6.out.size))
                  rw [beq_self_eq_true]
                  clear hb7
                  go_wp2_with fail
                  refine (awake_any _).mono ?_
                  rintro e w9 ⟨rfl, hb9⟩
                  have HB9 := Lib.hid (HB7.out.trans (hb9.mono HB7.out.size))
                  clear hb9
                  go_wp2
                  go_ret
                  exact ⟨rfl, HB9.out⟩
set_option maxRecDepth 100000 in
theorem trod_boolE {H : Type} {enc : TypeId × Value → H} {W : World} {v : Value} {d : DataW H} {p : List MemPlace} (h : DataW.Trod enc Try.prog W 0 (fun _ => true) true 34 v d p) (hok : ∃ a len cap, v = .slice a len cap) :
    ∃ xs, boolR.Sl W v xs := Rec.reads (R := boolR) Try.underlying34 (by kernel_rfl) (fun fuel cs y hy => by
      obtain ⟨x, hc⟩ := trod_boolN hy
      exact ⟨x, trivial, hc⟩) h hok
set_option maxRecDepth 100000 in
theorem treeParts_walk {H : Type} {enc : TypeId × Value → H} {W : World} {b0 b1 : Nat} {v0 v1 : Value} {d0 d1 : DataW H} {p0 p1 : List MemPlace}
    (k0 : Value.okWide Try.prog W .any b0 22 v0) (h0 : DataW.Trod enc Try.prog W 0 (fun _ => true) true 22 v0 d0 p0)
    (k1 : Value.okWide Try.prog W .any b1 34 v1) (h1 : DataW.Trod enc Try.prog W 0 (fun _ => true) true 34 v1 d1 p1) :
    Calls Try.prog 4 #[v0, v1] W fun e w' => e = .returned (.bool true) ∧ Below W.heap.size W w' := by
  obtain ⟨xs, p, q, rfl, hc1, hm1, hi1, hn1⟩ := reads_nodes h0 (okWide_slice Try.underlying22 k0)
  obtain ⟨ys, p', q', rfl, hc2, hm2, hi2, hn2⟩ := trod_boolE h1 (okWide_slice Try.underlying34 k1)
  exact lawParts_any p q xs p' q' ys W hi1 hi2
end Go.Proofs.Ytchbpfkjhilgiaa
