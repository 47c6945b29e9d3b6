/- Walks of utf.Text and of the reference's Text, Runes, Same, Decode, Cut. -/
import Derived.Test.YtchbpfkjhilgiaaT
namespace Go.Proofs.Ytchbpfkjhilgiaa
open Go.RowKit
set_option linter.unusedVariables false

theorem ret_si' {k : IntKind} {s s' : ByteArray} {a a' : Int} (h1 : s = s') (h2 : a = a') :
    Ending.returned (.tuple #[.string s, .int k a]) = .returned (.tuple #[.string s', .int k a']) := by rw [h1, h2]

theorem allMay_take {rs : List Int} {k : Nat} (h : k < rs.length) (h1 : allMay (rs.take k) = true) (h2 : may (rs.getD k 0) = true) : allMay (rs.take (k + 1)) = true := by
  rw [take_snocU3 rs k h]
  unfold allMay at *
  rw [List.all_append, h1, Bool.true_and, List.all_cons, h2]
  rfl
theorem allMay_bad {rs : List Int} {k : Nat} (h : k < rs.length) (h2 : may (rs.getD k 0) = false) : allMay rs = false := by
  unfold allMay
  rw [List.all_eq_false]
  refine ⟨rs[k], List.getElem_mem h, ?_⟩
  simpa [h] using h2

theorem IntsIn.below {k : IntKind} {w w' : World} {a : Option Addr} {xs : List Int} (h : IntsIn k w a xs) (hb : Below w.heap.size w w') : IntsIn k w' a xs := by
  rcases h with h | ⟨b, off, ha, hlt, hc⟩
  · exact .inl h
  · exact .inr ⟨b, off, ha, Nat.lt_of_lt_of_le hlt hb.size, fun i hi => (hb.cell (p := ⟨b, off + i, none⟩) hlt).trans (hc i hi)⟩

set_option maxHeartbeats 2000000 in
set_option maxRecDepth 100000 in
theorem text_nil (a : Option Addr) (cap : Nat) (w : World) :
    Calls Try.prog 27 #[.slice a 0 cap] w fun e w' => e = .returned (.tuple #[.string ⟨(textL []).toArray⟩, .int .i64 (textE [])]) ∧ Below w.heap.size w w' := by
  go_enter Try.func27, Try.ntmps27
  go_wp2_with fail
  refine wp_loop_rounds 1 ?_
  rw [rounds_succ]
  go_wp2_with fail
  refine (Try.Builder_String_any_k w.heap.size w.heap.size [] _ (Lib.IsBuilderF.of (Lib.fresh_isBuilder 77 5 w)) (by simp)).mono ?_
  rintro e w1 ⟨rfl, _, hb1, _⟩
  go_wp2
  go_ret2
  exact ⟨rfl, ((Below.refl _ _).alloc (Nat.le_refl _) _).trans hb1⟩

set_option maxHeartbeats 2000000 in
set_option maxRecDepth 100000 in
theorem text_cells (b off cap : Nat) (rs : List Int) (w : World) (hb : b < w.heap.size) (hlen : rs.length ≤ 1000000)
    (hc : ∀ i, i < rs.length → w.cell? ⟨b, off + i, none⟩ = some (.int .i32 (rs.getD i 0))) :
    Calls Try.prog 27 #[.slice (some ⟨b, off, none⟩) rs.length cap] w fun e w' => e = .returned (.tuple #[.string ⟨(textL rs).toArray⟩, .int .i64 (textE rs)]) ∧ Below w.heap.size w w' := by
  have HC := Lib.hid hc
  clear hc
  go_enter Try.func27, Try.ntmps27
  go_wp2_with fail
  go_loopg [11] rs.length (fun g i wr => ∃ k : Nat, g + k = rs.length ∧ i = .int .i64 k ∧ allMay (rs.take k) = true ∧ Lib.IsBuilder 77 5 w.heap.size w.heap.size (Lib.byteCells (encs (rs.take k))) wr ∧ Below w.heap.size w wr)
  case atStart => exact ⟨0, by omega, rfl, by simp [allMay], by simpa [encs, Lib.byteCells] using Lib.fresh_isBuilder 77 5 w, (Below.refl _ _).alloc (Nat.le_refl _) _⟩
  case round =>
    obtain ⟨k, hg, rfl, hall, hI, hbw⟩ := hrel
    have HG := Lib.hid hg
    have HA := Lib.hid hall
    have hkle : k ≤ rs.length := by omega
    clear hg hall
    by_cases hk : k < rs.length
    · have hcell : wr.cell? ⟨b, off + k, none⟩ = some (.int .i32 (rs.getD k 0)) := (hbw.cell (p := ⟨b, off + k, none⟩) hb).trans (HC.out k hk)
      have hsz := hbw.size
      cases hm : may (rs.getD k 0) with
      | true =>
        have HM := Lib.hid hm
        have HN := Lib.hid (allMay_take hk HA.out hm)
        have HT := Lib.hid (take_snocU3 rs k hk)
        clear hm
        generalize rs.getD k 0 = r at *
        go_wp2_with fail
        refine (encode_good r HM.out _).mono ?_
        rintro e w1 ⟨rfl, hb1⟩
        have hI1 := isBuilder_below hI hb1
        have hl4 := encs_len4 (rs.take k)
        have hl5 : (rs.take k).length ≤ 1000000 := by simp; omega
        have hl6 := (enc_ne r).2
        go_wp2_with fail
        refine (writeString_any w.heap.size w.heap.size _ ⟨(enc r).toArray⟩ _ hI1 (by rw [Lib.byteCells_length]; simp [ByteArray.size]; omega) (by have := hb1.size; omega)).mono ?_
        rintro e w2 ⟨rfl, hI2, hb2⟩
        go_wp2
        go_roundg (gk - 1)
        case measure => have := HG.out; omega
        case rel =>
          refine ⟨k + 1, by have := HG.out; omega, by go_num, HN.out, ?_, (hbw.trans (hb1.mono hsz)).trans hb2⟩
          rw [HT.out, encs_snoc, Lib.byteCells_append, ← strCells_mk (enc r)]
          exact hI2
      | false =>
        have HM := Lib.hid hm
        have HB := Lib.hid (allMay_bad hk hm)
        clear hm
        generalize rs.getD k 0 = r at *
        go_wp2_with fail
        refine (encode_bad r HM.out _).mono ?_
        rintro e w1 ⟨rfl, hb1⟩
        go_wp2
        go_ret2
        exact ⟨ret_si (by simp only [textL, HB.out]; rfl) (by simp only [textE, HB.out]; rfl), hbw.trans (hb1.mono hsz)⟩
    · have hke : k = rs.length := by omega
      have HZ := Lib.hid hke
      have hsz := hbw.size
      clear hke
      go_wp2_with fail
      refine (Try.Builder_String_any_k w.heap.size w.heap.size _ _ (Lib.IsBuilderF.of hI) hsz).mono ?_
      rintro e w1 ⟨rfl, _, hb1, _⟩
      go_wp2
      go_ret2
      have ha := HA.out
      rw [HZ.out, List.take_length] at ha
      refine ⟨ret_si ?_ (by simp only [textE, ha]; rfl), hbw.trans hb1⟩
      simp only [textL, ha, HZ.out, List.take_length]
      rfl

theorem text_any (a : Option Addr) (cap : Nat) (rs : List Int) (w : World) (hlen : rs.length ≤ 1000000) (h : IntsIn .i32 w a rs) :
    Calls Try.prog 27 #[.slice a rs.length cap] w fun e w' => e = .returned (.tuple #[.string ⟨(textL rs).toArray⟩, .int .i64 (textE rs)]) ∧ Below w.heap.size w w' := by
  rcases h with rfl | ⟨b, off, rfl, hb, hc⟩
  · exact text_nil a cap w
  · exact text_cells b off cap rs w hb hlen hc


theorem byteCells_enc {r : Int} (h : may r = true) : (encV r).map (Value.int .u8) = Lib.byteCells (enc r) := by
  have hm := (may_iff r).1 h
  rw [← encV_enc r h]
  unfold Lib.byteCells
  rw [List.map_map]
  apply List.map_congr_left
  intro x hx
  have : 0 ≤ x ∧ x ≤ 255 := by
    unfold encV at hx
    (repeat' split at hx) <;> simp at hx <;> omega
  simp only [Function.comp]
  rw [toNat_of _ (by omega)]
  congr 1
  omega

theorem conv_own (X : World) (base : Nat) (v : Value) (l : List UInt8) (h : X.ownsRow base 5 1 v l.length (Lib.byteCells l)) :
    (convert 65 9 v).run Try.prog X = .ok (.string ⟨l.toArray⟩) X := by
  obtain ⟨_, h2⟩ := h
  rcases h2 with ⟨rfl, h0⟩ | ⟨g, cap, cur, rfl, _, hh, hn, _, hsz, htake⟩
  · obtain rfl : l = [] := List.length_eq_zero_iff.1 h0
    exact run_convert_bytes_nil X 65 5 Try.underlying65 Try.underlying5 0 0 9 Try.underlying9
  · have hx : strOfNums (l.map fun c => (c.toNat : Int)) = ⟨l.toArray⟩ := by simp [strOfNums, Function.comp_def]
    rw [← hx]
    refine run_convert_bytes_arg X 65 5 Try.underlying65 Try.underlying5 g 0 l.length cap _ (by simp) (fun i hi => ?_) 9 Try.underlying9
    simp only [Nat.mul_one] at htake hsz
    have hi2 : i < cur.size := by omega
    have e1 : cur[i]? = (Lib.byteCells l)[i]? := by
      rw [← htake, List.getElem?_take_of_lt hi]; simp
    simp only [World.cell?, hh, Nat.zero_add, e1]
    simp [Lib.byteCells, hi]

theorem runesPost_fail2 {s : ByteArray} {w w' : World} {a c : Int} (ht : isText s.data.toList = false) (ha : a = chkAt s.data.toList) (hc : c = chkE s.data.toList) (hb : Below w.heap.size w w') :
    RunesPost s w (.returned (.tuple #[.slice none 0 0, .int .i64 a, .int .i64 c])) w' := by
  subst ha hc
  refine ⟨_, rfl, ?_, hb⟩
  simp only [runesL, ht]
  exact ownsRow_nil _ _ _ _
theorem runesPost_done2 {s : ByteArray} {w w' : World} {v : Value} {rs : List Int} {a c : Int} (ht : isText s.data.toList = true) (hp : parse s.data.toList = (rs, [])) (ha : a = 0) (hc : c = 0)
    (ho : w'.ownsRow w.heap.size 21 1 v rs.length (rs.map (Value.int .i32))) (hb : Below w.heap.size w w') :
    RunesPost s w (.returned (.tuple #[v, .int .i64 a, .int .i64 c])) w' := by
  subst ha hc
  refine ⟨v, ?_, ?_, hb⟩
  · simp [chkAt, chkE, ht]
  · simp only [runesL, ht, hp, if_true]; exact ho

end Go.Proofs.Ytchbpfkjhilgiaa
