/- strings.Builder at this program: copyCheck and WriteString, on a builder that the call has made; String by the shelf's contract. -/
import Derived.Test.YtcgioboiebanpaaR
import Derived.Shelf.Strings.Builder1
import Derived.Shelf.Strings.BuilderF
import Derived.Shelf.Strings.BuilderK
import Derived.Test.YtcgioboiebanpaaS
namespace Go.Proofs.Ytcgioboiebanpaa
open Go.RowKit
set_option linter.unusedVariables false

theorem info61 : (Try.prog.info? 76).map (·.size) = some 2 := by kernel_rfl
theorem lies61 : liesAt Try.prog Try.prog.depth 76 (2 / Try.prog.cellsOf 76) 0 76 1 = true := by kernel_rfl
theorem info5 : (Try.prog.info? 5).map (fun i => (i.zero, i.size, i.bytes)) = some (some (.int .u8 0), 1, 1) := by kernel_rfl

set_option maxHeartbeats 1000000 in
set_option maxRecDepth 100000 in
theorem copyCheck_used (b : Nat) (w : World) (h0 : w.cell? ⟨b, 0, none⟩ = some (.pointer (some ⟨b, 0, none⟩))) :
    Calls Try.prog 51 #[.pointer (some ⟨b, 0, none⟩)] w fun e w' => e = .returned (.tuple #[]) ∧ w = w' := by
  obtain ⟨j, hj, hjs⟩ := Option.map_eq_some_iff.1 info61
  have hn := Lib.run_neq_ptr_same w (P := Try.prog) (tp := 73) ⟨b, 0, none⟩ Try.underlying73 hj
  go_enter Try.func51, Try.ntmps51
  go_wp2
  go_end0
  exact ⟨rfl, rfl⟩

set_option maxHeartbeats 1000000 in
set_option maxRecDepth 100000 in
theorem copyCheck_fresh (b : Nat) (w : World) (h0 : w.cell? ⟨b, 0, none⟩ = some (.pointer none)) (hsh : w.shape? b = some (76, 2)) (hfz : w.frozen? ⟨b, 0, none⟩ = false) :
    Calls Try.prog 51 #[.pointer (some ⟨b, 0, none⟩)] w fun e w' => e = .returned (.tuple #[]) ∧ w' = w.setCell ⟨b, 0, none⟩ (.pointer (some ⟨b, 0, none⟩)) := by
  obtain ⟨j, hj, hjs⟩ := Option.map_eq_some_iff.1 info61
  have h1 := Lib.run_to_unsafe (P := Try.prog) w ⟨b, 0, none⟩ Try.underlying73 Try.underlying126 hj (by rw [hjs]; decide) hsh (Nat.zero_lt_succ 1)
  have h2 := Lib.run_from_unsafe (P := Try.prog) w ⟨b, 0, none⟩ Try.underlying126 Try.underlying73 hj hsh lies61
  go_enter Try.func51, Try.ntmps51
  go_wp2
  rw [run_callFunc_extern Try.func63 (by kernel_rfl) (by kernel_rfl) (by kernel_rfl) (e := Extern.AbiNoEscape.same) (by kernel_rfl)]
  rw [Lib.run_noEscape]
  simp only [Result.andThen]
  rw [Oper.upon_value]
  go_wp2
  go_end0
  exact ⟨rfl, rfl⟩

theorem copyCheck_any (B b : Nat) (bs : List Value) (w : World) (h : Lib.IsBuilder 76 5 B b bs w) :
    Calls Try.prog 51 #[.pointer (some ⟨b, 0, none⟩)] w fun e w' => e = .returned (.tuple #[]) ∧ (Lib.BuilderAt 76 5 B b (.pointer (some ⟨b, 0, none⟩)) bs w' ∧ Below B w w') := by
  rcases h with h | h
  · refine (copyCheck_fresh b w h.cell0 h.shape h.frozen0).mono ?_
    rintro e w' ⟨rfl, rfl⟩
    exact ⟨rfl, h.used _, (Below.refl B w).setCell (p := ⟨b, 0, none⟩) h.1 _⟩
  · refine (copyCheck_used b w h.cell0).mono ?_
    rintro e w' ⟨rfl, rfl⟩
    exact ⟨rfl, h, Below.refl B _⟩

set_option maxHeartbeats 2000000 in
set_option maxRecDepth 100000 in
theorem writeString_any (B b : Nat) (bs : List Value) (s : ByteArray) (w : World) (h : Lib.IsBuilder 76 5 B b bs w) (hlen : bs.length + s.size ≤ 140737488355328) (hBw : B ≤ w.heap.size) :
    Calls Try.prog 31 #[.pointer (some ⟨b, 0, none⟩), .string s] w fun e w' => e = .returned (.tuple #[.int .i64 s.size, .nilIface]) ∧ (Lib.IsBuilder 76 5 B b (bs ++ Lib.strCells s) w' ∧ Below B w w') := by
  obtain ⟨i0, hi, hz0, hz1, hz2⟩ := info_parts info5
  go_enter Try.func31, Try.ntmps31
  go_wp2_with fail
  refine (copyCheck_any B b bs _ h).mono ?_
  rintro e w1 ⟨rfl, h1, hb1⟩
  obtain ⟨hB, v, hbk, hown, hne⟩ := h1
  have c0 : w1.cell? ⟨b, 0, none⟩ = some (.pointer (some ⟨b, 0, none⟩)) := by rw [Lib.cell_of_heap hbk]; rfl
  have c1 : w1.cell? ⟨b, 1, none⟩ = some v := by rw [Lib.cell_of_heap hbk]; rfl
  go_wp2_with (at_builtin; refine Lib.wpList_append_own_string _ rfl _ _ 74 9 rfl B 5 i0 Try.underlying74 Try.underlying9 hi hz0 hz1 hz2 _ _ _ rfl hown s rfl ?c3 ?c4 ?c5 ?_)
  case c3 => unfold maxLen; omega
  case c4 => omega
  case c5 => have := hb1.size; omega
  intro v' w2 hown' hgrow _
  have hlt : b < w1.heap.size := by
    rcases Nat.lt_or_ge b w1.heap.size with h' | h'
    · exact h'
    · simp [Array.getElem?_eq_none h'] at hbk
  have hb2 : w2.heap[b]? = some (.cells #[.pointer (some ⟨b, 0, none⟩), v] 76 (0, 0)) := by
    rw [hgrow.block b hlt (fun e => hne e.symm)]
    exact hbk
  have d0 : w2.cell? ⟨b, 0, none⟩ = some (.pointer (some ⟨b, 0, none⟩)) := by rw [Lib.cell_of_heap hb2]; rfl
  have d1 : w2.cell? ⟨b, 1, none⟩ = some v := by rw [Lib.cell_of_heap hb2]; rfl
  have f1 : w2.frozen? ⟨b, 1, none⟩ = false := Lib.frozen_of_heap hb2 1
  obtain ⟨ao, n', cap, rfl⟩ : ∃ ao n' cap, v' = .slice ao n' cap := by
    rcases hown'.2 with ⟨hv, _⟩ | ⟨g, cap, cur, hv, _⟩
    · exact ⟨_, _, _, hv⟩
    · exact ⟨_, _, _, hv⟩
  go_wp2
  go_ret2
  refine ⟨rfl, ?_, ?_⟩
  · exact Or.inr (Lib.BuilderAt.put (T := 76) (e := 5) hB hb2 (bs' := bs ++ Lib.strCells s) (by simpa [Lib.strCells_length] using hown') (by decide))
  · exact (hb1.grown hgrow (by have := hb1.size; omega) (fun k hk => (hown.lt k hk).1)).setCell (p := ⟨b, 1, none⟩) hB _


theorem ownsRow_below {w w' : World} {base : Nat} {e : TypeId} {size : Nat} {v : Value} {n : Nat} {xs : List Value} (h : w.ownsRow base e size v n xs) (hb : Below w.heap.size w w') : w'.ownsRow base e size v n xs := by
  obtain ⟨h1, h2⟩ := h
  refine ⟨h1, ?_⟩
  rcases h2 with h2 | ⟨g, cap, cur, hv, hg, hh, r⟩
  · exact .inl h2
  · have hlt : g < w.heap.size := (Array.getElem?_eq_some_iff.1 hh).1
    exact .inr ⟨g, cap, cur, hv, hg, by rw [hb.block g hlt]; exact hh, r⟩

theorem isBuilder_below {w w' : World} {T e : TypeId} {B b : Nat} {bs : List Value} (h : Lib.IsBuilder T e B b bs w) (hb : Below w.heap.size w w') : Lib.IsBuilder T e B b bs w' := by
  have key : ∀ p, Lib.BuilderAt T e B b p bs w → Lib.BuilderAt T e B b p bs w' := fun p hp => by
    have hlt := hp.lt
    obtain ⟨hB, v, hh, ho, hn⟩ := hp
    exact ⟨hB, v, by rw [hb.block b hlt]; exact hh, ownsRow_below ho hb, hn⟩
  rcases h with h | h
  · exact .inl (key _ h)
  · exact .inr (key _ h)

/-- A slice's numbers, as its cells hold them. -/
def IntsIn (k : IntKind) (w : World) (a : Option Addr) (xs : List Int) : Prop :=
  xs = [] ∨ ∃ b off, a = some ⟨b, off, none⟩ ∧ b < w.heap.size ∧ ∀ i, i < xs.length → w.cell? ⟨b, off + i, none⟩ = some (.int k (xs.getD i 0))

def allMay (rs : List Int) : Bool := rs.all may
def textL (rs : List Int) : List UInt8 := if allMay rs then encs rs else []
def textE (rs : List Int) : Int := if allMay rs then 0 else 5

theorem encs_len4 (l : List Int) : (encs l).length ≤ 4 * l.length := by
  induction l with
  | nil => simp [encs]
  | cons r l ih => have := (enc_ne r).2; simp [encs] at *; omega

theorem take_snocI (xs : List Int) (k : Nat) (h : k < xs.length) : xs.take (k + 1) = xs.take k ++ [xs.getD k 0] := by
  rw [List.take_succ_eq_append_getElem h]; simp [h]

theorem strCells_mk (l : List UInt8) : Lib.strCells ⟨l.toArray⟩ = Lib.byteCells l := by simp [Lib.strCells, Lib.byteCells]

end Go.Proofs.Ytcgioboiebanpaa

namespace Go.Proofs.Ytcgioboiebanpaa
open Go.RowKit
set_option linter.unusedVariables false

theorem ret_si' {k : IntKind} {s s' : ByteArray} {a a' : Int} (h1 : s = s') (h2 : a = a') :
    Ending.returned (.tuple #[.string s, .int k a]) = .returned (.tuple #[.string s', .int k a']) := by rw [h1, h2]

theorem allMay_take {rs : List Int} {k : Nat} (h : k < rs.length) (h1 : allMay (rs.take k) = true) (h2 : may (rs.getD k 0) = true) : allMay (rs.take (k + 1)) = true := by
  rw [take_snocI rs k h]
  unfold allMay at *
  rw [List.all_append, h1, Bool.true_and, List.all_cons, h2]
  rfl
theorem allMay_bad {rs : List Int} {k : Nat} (h : k < rs.length) (h2 : may (rs.getD k 0) = false) : allMay rs = false := by
  unfold allMay
  rw [List.all_eq_false]
  refine ⟨rs[k], List.getElem_mem h, ?_⟩
  simpa [h] using h2

theorem IntsIn.below {k : IntKind} {w w' : World} {a : Option Addr} {xs : List Int} (h : IntsIn k w a xs) (hb : Below w.heap.size w w') : IntsIn k w' a xs := by
  rcases h with h | ⟨b, off, ha, hlt, hc⟩
  · exact .inl h
  · exact .inr ⟨b, off, ha, Nat.lt_of_lt_of_le hlt hb.size, fun i hi => (hb.cell (p := ⟨b, off + i, none⟩) hlt).trans (hc i hi)⟩

set_option maxHeartbeats 2000000 in
set_option maxRecDepth 100000 in
theorem text_nil (a : Option Addr) (cap : Nat) (w : World) :
    Calls Try.prog 29 #[.slice a 0 cap] w fun e w' => e = .returned (.tuple #[.string ⟨(textL []).toArray⟩, .int .i64 (textE [])]) ∧ Below w.heap.size w w' := by
  go_enter Try.func29, Try.ntmps29
  go_wp2_with fail
  refine wp_loop_rounds 1 ?_
  rw [rounds_succ]
  go_wp2_with fail
  refine (Try.Builder_String_any_k w.heap.size w.heap.size [] _ (Lib.IsBuilderF.of (Lib.fresh_isBuilder 76 5 w)) (by simp)).mono ?_
  rintro e w1 ⟨rfl, _, hb1, _⟩
  go_wp2
  go_ret2
  exact ⟨rfl, ((Below.refl _ _).alloc (Nat.le_refl _) _).trans hb1⟩

set_option maxHeartbeats 2000000 in
set_option maxRecDepth 100000 in
theorem text_cells (b off cap : Nat) (rs : List Int) (w : World) (hb : b < w.heap.size) (hlen : rs.length ≤ 1000000)
    (hc : ∀ i, i < rs.length → w.cell? ⟨b, off + i, none⟩ = some (.int .i32 (rs.getD i 0))) :
    Calls Try.prog 29 #[.slice (some ⟨b, off, none⟩) rs.length cap] w fun e w' => e = .returned (.tuple #[.string ⟨(textL rs).toArray⟩, .int .i64 (textE rs)]) ∧ Below w.heap.size w w' := by
  have HC := Lib.hid hc
  clear hc
  go_enter Try.func29, Try.ntmps29
  go_wp2_with fail
  go_loopg [11] rs.length (fun g i wr => ∃ k : Nat, g + k = rs.length ∧ i = .int .i64 k ∧ allMay (rs.take k) = true ∧ Lib.IsBuilder 76 5 w.heap.size w.heap.size (Lib.byteCells (encs (rs.take k))) wr ∧ Below w.heap.size w wr)
  case atStart => exact ⟨0, by omega, rfl, by simp [allMay], by simpa [encs, Lib.byteCells] using Lib.fresh_isBuilder 76 5 w, (Below.refl _ _).alloc (Nat.le_refl _) _⟩
  case round =>
    obtain ⟨k, hg, rfl, hall, hI, hbw⟩ := hrel
    have HG := Lib.hid hg
    have HA := Lib.hid hall
    have hkle : k ≤ rs.length := by omega
    clear hg hall
    by_cases hk : k < rs.length
    · have hcell : wr.cell? ⟨b, off + k, none⟩ = some (.int .i32 (rs.getD k 0)) := (hbw.cell (p := ⟨b, off + k, none⟩) hb).trans (HC.out k hk)
      have hsz := hbw.size
      cases hm : may (rs.getD k 0) with
      | true =>
        have HM := Lib.hid hm
        have HN := Lib.hid (allMay_take hk HA.out hm)
        have HT := Lib.hid (take_snocI rs k hk)
        clear hm
        generalize rs.getD k 0 = r at *
        go_wp2_with fail
        refine (encode_good r HM.out _).mono ?_
        rintro e w1 ⟨rfl, hb1⟩
        have hI1 := isBuilder_below hI hb1
        have hl4 := encs_len4 (rs.take k)
        have hl5 : (rs.take k).length ≤ 1000000 := by simp; omega
        have hl6 := (enc_ne r).2
        go_wp2_with fail
        refine (writeString_any w.heap.size w.heap.size _ ⟨(enc r).toArray⟩ _ hI1 (by rw [Lib.byteCells_length]; simp [ByteArray.size]; omega) (by have := hb1.size; omega)).mono ?_
        rintro e w2 ⟨rfl, hI2, hb2⟩
        go_wp2
        go_roundg (gk - 1)
        case measure => have := HG.out; omega
        case rel =>
          refine ⟨k + 1, by have := HG.out; omega, by go_num, HN.out, ?_, (hbw.trans (hb1.mono hsz)).trans hb2⟩
          rw [HT.out, encs_snoc, Lib.byteCells_append, ← strCells_mk (enc r)]
          exact hI2
      | false =>
        have HM := Lib.hid hm
        have HB := Lib.hid (allMay_bad hk hm)
        clear hm
        generalize rs.getD k 0 = r at *
        go_wp2_with fail
        refine (encode_bad r HM.out _).mono ?_
        rintro e w1 ⟨rfl, hb1⟩
        go_wp2
        go_ret2
        exact ⟨ret_si (by simp only [textL, HB.out]; rfl) (by simp only [textE, HB.out]; rfl), hbw.trans (hb1.mono hsz)⟩
    · have hke : k = rs.length := by omega
      have HZ := Lib.hid hke
      have hsz := hbw.size
      clear hke
      go_wp2_with fail
      refine (Try.Builder_String_any_k w.heap.size w.heap.size _ _ (Lib.IsBuilderF.of hI) hsz).mono ?_
      rintro e w1 ⟨rfl, _, hb1, _⟩
      go_wp2
      go_ret2
      have ha := HA.out
      rw [HZ.out, List.take_length] at ha
      refine ⟨ret_si ?_ (by simp only [textE, ha]; rfl), hbw.trans hb1⟩
      simp only [textL, ha, HZ.out, List.take_length]
      rfl

theorem text_any (a : Option Addr) (cap : Nat) (rs : List Int) (w : World) (hlen : rs.length ≤ 1000000) (h : IntsIn .i32 w a rs) :
    Calls Try.prog 29 #[.slice a rs.length cap] w fun e w' => e = .returned (.tuple #[.string ⟨(textL rs).toArray⟩, .int .i64 (textE rs)]) ∧ Below w.heap.size w w' := by
  rcases h with rfl | ⟨b, off, rfl, hb, hc⟩
  · exact text_nil a cap w
  · exact text_cells b off cap rs w hb hlen hc


theorem byteCells_enc {r : Int} (h : may r = true) : (encV r).map (Value.int .u8) = Lib.byteCells (enc r) := by
  have hm := (may_iff r).1 h
  rw [← encV_enc r h]
  unfold Lib.byteCells
  rw [List.map_map]
  apply List.map_congr_left
  intro x hx
  have : 0 ≤ x ∧ x ≤ 255 := by
    unfold encV at hx
    (repeat' split at hx) <;> simp at hx <;> omega
  simp only [Function.comp]
  rw [toNat_of _ (by omega)]
  congr 1
  omega

theorem conv_own (X : World) (base : Nat) (v : Value) (l : List UInt8) (h : X.ownsRow base 5 1 v l.length (Lib.byteCells l)) :
    (convert 74 9 v).run Try.prog X = .ok (.string ⟨l.toArray⟩) X := by
  obtain ⟨_, h2⟩ := h
  rcases h2 with ⟨rfl, h0⟩ | ⟨g, cap, cur, rfl, _, hh, hn, _, hsz, htake⟩
  · obtain rfl : l = [] := List.length_eq_zero_iff.1 h0
    exact run_convert_bytes_nil X 74 5 Try.underlying74 Try.underlying5 0 0 9 Try.underlying9
  · have hx : strOfNums (l.map fun c => (c.toNat : Int)) = ⟨l.toArray⟩ := by simp [strOfNums, Function.comp_def]
    rw [← hx]
    refine run_convert_bytes_arg X 74 5 Try.underlying74 Try.underlying5 g 0 l.length cap _ (by simp) (fun i hi => ?_) 9 Try.underlying9
    simp only [Nat.mul_one] at htake hsz
    have hi2 : i < cur.size := by omega
    have e1 : cur[i]? = (Lib.byteCells l)[i]? := by
      rw [← htake, List.getElem?_take_of_lt hi]; simp
    simp only [World.cell?, hh, Nat.zero_add, e1]
    simp [Lib.byteCells, hi]

theorem runesPost_fail2 {s : ByteArray} {w w' : World} {a c : Int} (ht : isText s.data.toList = false) (ha : a = chkAt s.data.toList) (hc : c = chkE s.data.toList) (hb : Below w.heap.size w w') :
    RunesPost s w (.returned (.tuple #[.slice none 0 0, .int .i64 a, .int .i64 c])) w' := by
  subst ha hc
  refine ⟨_, rfl, ?_, hb⟩
  simp only [runesL, ht]
  exact ownsRow_nil _ _ _ _
theorem runesPost_done2 {s : ByteArray} {w w' : World} {v : Value} {rs : List Int} {a c : Int} (ht : isText s.data.toList = true) (hp : parse s.data.toList = (rs, [])) (ha : a = 0) (hc : c = 0)
    (ho : w'.ownsRow w.heap.size 21 1 v rs.length (rs.map (Value.int .i32))) (hb : Below w.heap.size w w') :
    RunesPost s w (.returned (.tuple #[v, .int .i64 a, .int .i64 c])) w' := by
  subst ha hc
  refine ⟨v, ?_, ?_, hb⟩
  · simp [chkAt, chkE, ht]
  · simp only [runesL, ht, hp, if_true]; exact ho

set_option maxHeartbeats 1000000 in
set_option maxRecDepth 100000 in
/-- The reference's Runes. -/
theorem rrunes_any (s : ByteArray) (hs : s.size ≤ maxLen) (hreach : s.size * 4 ≤ 140737488351232) (w : World) :
    Calls Try.prog 52 #[.string s] w (RunesPost s w) := by
  have hS := Lib.hid hs
  unfold maxLen at hs
  obtain ⟨i0, hi, hz0, hz1, hz2⟩ := info_parts info21
  go_enter Try.func52, Try.ntmps52
  go_wp2_with fail
  go_loopg [5, 6] s.size (fun g v i wr => ∃ (rs : List Int) (p : Nat), At s rs p ∧ g + p = s.size ∧ i = .int .i64 p ∧ wr.ownsRow w.heap.size 21 1 v rs.length (rs.map (Value.int .i32)) ∧ Below w.heap.size w wr)
  case atStart => exact ⟨[], 0, At.zero s, by omega, rfl, ownsRow_nil _ _ _ _, Below.refl _ _⟩
  case round =>
    obtain ⟨rs, p, ha, hg, rfl, hown, hbw⟩ := hrel
    have hle := ha.le
    have hrl : rs.length ≤ p := by
      have := ha.len
      have := encs_len rs
      omega
    have HG := Lib.hid hg
    have hsz := hbw.size
    clear hg
    by_cases hlt : p < s.size
    · cases hd : dec1 (s.data.toList.drop p) with
      | none =>
        have Hd := Lib.hid (show oneOf (s.data.toList.drop p) = (0, 0) by simp only [oneOf, hd])
        have HF := Lib.hid (ha.fail_chk hlt hd)
        have HX := Lib.hid (show isText s.data.toList = false by
          have h1 := ha.fail hd
          unfold isText
          rw [h1]
          have : s.data.toList.drop p ≠ [] := by intro h2; have := congrArg List.length h2; simp at this; omega
          simpa using this)
        clear hd
        go_wp2_with fail
        refine (one_any s p hlt hS.out _).mono ?_
        rintro e w1 ⟨rfl, hb1⟩
        rw [Hd.out]
        go_wp2
        go_ret3
        exact runesPost_fail2 HX.out HF.out.1 HF.out.2 (hbw.trans (hb1.mono hsz))
      | some rk =>
        obtain ⟨r, k⟩ := rk
        have Hd := Lib.hid (show oneOf (s.data.toList.drop p) = (r, (k : Int)) by simp only [oneOf, hd])
        have hn := ha.next hd
        have hk : ((k : Int) == 0) = false := by simp; omega
        have hpk := hn.2.1
        have HN := Lib.hid hn
        clear hd hn
        go_wp2_with fail
        refine (one_any s p hlt hS.out _).mono ?_
        rintro e w1 ⟨rfl, hb1⟩
        rw [Hd.out]
        have hown1 := ownsRow_below hown hb1
        have hbw1 := hbw.trans (hb1.mono hsz)
        have hsz1 := hbw1.size
        clear hown hbw hb1
        go_wp2_with (at_builtin; refine wpList_append_own _ rfl _ _ 60 rfl w.heap.size 21 i0 (.int .i32 0) 1 4 Try.underlying60 hi hz0 hz1 hz2 rfl (by decide) _ _ _ rfl (hown1.alloc _) ⟨w1.heap.size, 0, none⟩ 1 1 [.int .i32 r] rfl rfl ?c1 ?c2 ?c3 ?c4 ?c5 ?_)
        case c1 => exact cell_one_new _ _ _
        case c2 => simp [Value.oneCell']
        case c3 => unfold maxLen; omega
        case c4 => omega
        case c5 => simp; omega
        intro v' w2 hown' hgrow _
        go_wp2
        go_roundg (gk - k)
        case measure => have := HG.out; have := HN.out; omega
        case rel =>
          refine ⟨rs ++ [r], p + k, HN.out.1, by have := HG.out; omega, by go_num, ?_, (hbw1.alloc (by omega) _).grown hgrow (by simp; omega) (fun j hj => (hown1.lt j hj).1)⟩
          simpa using hown'
    · have hd := ha.done (by omega)
      have HX := Lib.hid (show isText s.data.toList = true by unfold isText; rw [hd]; rfl)
      have HD := Lib.hid hd
      clear hd
      go_wp2
      go_ret3
      exact runesPost_done2 HX.out HD.out rfl rfl hown hbw

end Go.Proofs.Ytcgioboiebanpaa
