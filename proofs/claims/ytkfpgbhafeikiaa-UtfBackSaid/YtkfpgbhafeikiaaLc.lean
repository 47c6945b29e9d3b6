/- The law UtfPieces: walk. -/
import Derived.Test.YtkfpgbhafeikiaaLb
namespace Go.Proofs.Ytkfpgbhafeikiaa
open Go.RowKit
set_option linter.unusedVariables false

theorem parsed_encs {rs : List Int} (h : Good rs) : Parsed (encs rs) rs [] := ⟨h, by simp, by rfl⟩
theorem isText_encs {rs : List Int} (h : Good rs) : isText (encs rs) = true := by unfold isText; rw [(parsed_encs h).parse_eq]; rfl
theorem cntN_encs {rs : List Int} (h : Good rs) : cntN (encs rs) = rs.length := by
  unfold cntN; rw [isText_encs h, (parsed_encs h).parse_eq]; rfl
theorem Good.take {rs : List Int} (h : Good rs) (k : Nat) : Good (rs.take k) := fun x hx => h x (List.mem_of_mem_take hx)
theorem Good.drop {rs : List Int} (h : Good rs) (k : Nat) : Good (rs.drop k) := fun x hx => h x (List.mem_of_mem_drop hx)

theorem pieces {s : ByteArray} (ht : isText s.data.toList = true) {k : Int} (h0 : 0 ≤ k) (h1 : k ≤ cntN s.data.toList) :
    cutE s.data.toList 0 k = 0 ∧ cutE s.data.toList k (cntN s.data.toList) = 0 ∧
    (⟨(cutL s.data.toList 0 k).toArray⟩ : ByteArray) ++ ⟨(cutL s.data.toList k (cntN s.data.toList)).toArray⟩ = s ∧
    ∀ x : ByteArray, x = ⟨(cutL s.data.toList 0 k).toArray⟩ → chkE x.data.toList = 0 ∧ cntN x.data.toList = k := by
  have g := (parse_parsed s.data.toList).good
  have e := isText_iff.1 ht
  have hn : cntN s.data.toList = (parse s.data.toList).1.length := by simp [cntN, ht]
  rw [hn] at h1 ⊢
  have c1 : cutL s.data.toList 0 k = encs ((parse s.data.toList).1.take k.toNat) := by
    unfold cutL; rw [ht, if_pos rfl, if_pos (by omega)]; simp
  have c2 : cutL s.data.toList k (parse s.data.toList).1.length = encs ((parse s.data.toList).1.drop k.toNat) := by
    unfold cutL; rw [ht, if_pos rfl, if_pos (by omega), List.take_of_length_le (by simp; omega)]
  have d1 : (⟨(cutL s.data.toList 0 k).toArray⟩ : ByteArray).data.toList = encs ((parse s.data.toList).1.take k.toNat) := by rw [← c1]
  refine ⟨by unfold cutE; rw [ht, if_pos rfl, if_pos (by omega)], by unfold cutE; rw [ht, if_pos rfl, if_pos (by omega)], ?_, fun x hx => ⟨?_, ?_⟩⟩
  · rw [c1, c2]
    refine Eq.trans ?_ (bytes_ext e).symm
    apply ByteArray.ext
    simp only [ByteArray.data_append]
    rw [← Array.toList_inj]
    simp only [Array.toList_append]
    rw [← encs_append, List.take_append_drop]
  · rw [hx, d1]; exact chkE_yes (isText_encs (g.take _))
  · rw [hx, d1, cntN_encs (g.take _)]; simp; omega

theorem piece_at (a n : Int) (h0 : 0 ≤ n) (h1 : n ≤ 3000) : 0 ≤ wrap64 ((IntKind.u64.wrap a).tmod (n + 1)) ∧ wrap64 ((IntKind.u64.wrap a).tmod (n + 1)) ≤ n := by
  have hw : IntKind.u64.wrap a = a % 18446744073709551616 := by simp [IntKind.wrap, IntKind.bits, IntKind.signed]
  rw [hw]
  have e : (a % 18446744073709551616).tmod (n + 1) = (a % 18446744073709551616) % (n + 1) := Int.tmod_eq_emod_of_nonneg (by omega)
  rw [e]
  have b0 := Int.emod_nonneg (a % 18446744073709551616) (show n + 1 ≠ 0 by omega)
  have b1 := Int.emod_lt_of_pos (a % 18446744073709551616) (show 0 < n + 1 by omega)
  rw [IntWalk.wrap64_in _ ⟨by omega, by omega⟩]
  exact ⟨b0, by omega⟩

set_option maxHeartbeats 1000000 in
set_option maxRecDepth 100000 in
theorem utfPieces_walk (s : ByteArray) (hs : s.size ≤ maxLen) (at' : Int) (hat : (Lit.int .i64 at').wf = true) (w : World) :
    Calls Try.prog 6 #[.string s, .int .i64 at'] w fun e w' => e = .returned (.bool true) ∧ Below w.heap.size w w' := by
  unfold maxLen at hs
  by_cases h1 : 3000 < s.size
  · go_enter Try.func6, Try.ntmps6
    go_wp2
    go_ret
    exact ⟨rfl, Below.refl _ _⟩
  · have HS := Lib.hid (show s.size ≤ maxLen by unfold maxLen; omega)
    cases ht : isText s.data.toList with
    | false =>
      have EA := Lib.hid (chkE_no ht)
      have EN := Lib.hid (show cntN s.data.toList = 0 by unfold cntN; rw [ht]; rfl)
      clear ht
      go_enter Try.func6, Try.ntmps6
      go_wp2_with fail
      refine (count_any s HS.out _).mono ?_
      rintro e w1 ⟨rfl, hb1⟩
      rw [EA.out, EN.out]
      go_wp2_with fail
      refine (awake_any _).mono ?_
      rintro e w4 ⟨rfl, hb4⟩
      go_wp2
      go_ret
      exact ⟨rfl, hb1.trans (hb4.mono hb1.size)⟩
    | true =>
      have EA := Lib.hid (chkE_yes ht)
      have HP := Lib.hid (fun k => @pieces s ht k)
      have hn : 0 ≤ cntN s.data.toList ∧ cntN s.data.toList ≤ 3000 := by
        have := encs_len (parse s.data.toList).1
        have h3 := congrArg List.length (parse_parsed s.data.toList).eq
        simp at h3
        unfold cntN; split <;> omega
      obtain ⟨hn0, hn1⟩ := hn
      clear ht
      go_enter Try.func6, Try.ntmps6
      go_wp2_with fail
      refine (count_any s HS.out _).mono ?_
      rintro e w1 ⟨rfl, hb1⟩
      rw [EA.out]
      generalize cntN s.data.toList = n at *
      go_wp2_with fail
      have hk := piece_at at' n hn0 hn1
      generalize wrap64 ((IntKind.u64.wrap at').tmod (n + 1)) = k at *
      obtain ⟨hk0, hk1⟩ := hk
      have HP' := Lib.hid (HP.out k hk0 hk1)
      clear HP
      refine (cut_any s _ _ HS.out _).mono ?_
      rintro e w2 ⟨rfl, hb2⟩
      rw [HP'.out.1]
      go_wp2_with fail
      refine (cut_any s _ _ HS.out _).mono ?_
      rintro e w3 ⟨rfl, hb3⟩
      rw [HP'.out.2.1]
      have hcat := HP'.out.2.2.1
      have h4 := Lib.hid (HP'.out.2.2.2 _ rfl)
      have hsz : (⟨(cutL s.data.toList 0 k).toArray⟩ : ByteArray).size ≤ maxLen := by
        have := congrArg ByteArray.size hcat
        simp only [ByteArray.size_append] at this
        unfold maxLen; omega
      have hxy : (⟨(cutL s.data.toList 0 k).toArray⟩ : ByteArray).size + (⟨(cutL s.data.toList k n).toArray⟩ : ByteArray).size ≤ 3000 := by
        have := congrArg ByteArray.size hcat
        simp only [ByteArray.size_append] at this
        omega
      have HSZ := Lib.hid hsz
      have HC := Lib.hid hcat
      clear hsz HP' hcat
      generalize (⟨(cutL s.data.toList 0 k).toArray⟩ : ByteArray) = x at *
      generalize (⟨(cutL s.data.toList k n).toArray⟩ : ByteArray) = y at *
      have hb13 := hb1.trans ((hb2.trans (hb3.mono hb2.size)).mono hb1.size)
      clear hb1 hb2 hb3
      go_wp2_with fail
      refine (count_any x HSZ.out _).mono ?_
      rintro e w4 ⟨rfl, hb4⟩
      rw [h4.out.1, h4.out.2]
      have hb14 := hb13.trans (hb4.mono hb13.size)
      have hb1s := hb14.size
      clear hb13 hb4
      have hcat : ((x ++ y).toList == s.toList) = true := by rw [HC.out]; simp
      go_wp2_with fail
      refine (awake_any _).mono ?_
      rintro e w5 ⟨rfl, hb5⟩
      clear hcat
      go_wp2
      go_ret
      exact ⟨rfl, hb14.trans (hb5.mono hb1s)⟩

end Go.Proofs.Ytkfpgbhafeikiaa
