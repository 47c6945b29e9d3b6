/- What Insert and Delete make of runs, plain; put and cut on documents. -/
import Derived.Test.YtcgioboiebanpaaNs
namespace Go.Proofs.Ytcgioboiebanpaa
open Go.RowKit Go.Maps
set_option linter.unusedVariables false

abbrev KV := Int × List UInt8 × Int
/-- What the functions look at of a run. -/
def asV (r : MR) : RV := (r.1, (none, r.2.1.length, 0), r.2.2)
def norm (x : RV) : RV := (x.1, (none, x.2.1.2.1, 0), x.2.2)
theorem Tells.norm {w : World} {x : RV} {r : MR} (h : Tells w x r) : norm x = asV r := by
  unfold Ytcgioboiebanpaa.norm asV; rw [h.key, h.len, h.dead]
def heldM (r : MR) (k : KV) : Bool := holdsB (asV r) k.1 k.2.1 k.2.2
def offM (r : MR) (k : KV) : Int := holdsN (asV r) k.2.2
def meetsM (r : MR) (k : KV) (n : Int) : Bool := meetsB (asV r) k.1 k.2.1 k.2.2 n
def findM (rs : List MR) (k : KV) : Option Nat := rs.findIdx? fun r => heldM r k
def cmpK (a b : KV) : Int := keysCmp a.1 a.2.1 a.2.2 b.1 b.2.1 b.2.2
def fstM (r : MR) (n : Int) : MR := (r.1, r.2.1.take n.toNat, r.2.2)
def sndM (r : MR) (n : Int) : MR := ((r.1.1, r.1.2.1, wrap64 (r.1.2.2 + n)), r.2.1.drop n.toNat, r.2.2)
def cutM (rs : List MR) (i : Nat) (n : Int) : List MR := match rs[i]? with
  | some r => if 0 < n ∧ n < r.2.1.length then rs.take i ++ fstM r n :: sndM r n :: rs.drop (i + 1) else rs
  | none => rs
def skipM (rs : List MR) (k : KV) (p : Nat) : Nat := p + ((rs.drop p).takeWhile fun r => decide (0 < cmpK r.1 k)).length
def insBad (s : List UInt8) (k : KV) : Bool := !isText s || decide ((runesL s).length = 0) || decide (k.2.2 < 0) || decide (2147483647 - ((runesL s).length : Int) + 1 < k.2.2)
def freshM (rs : List MR) (k : KV) (n : Int) : Int := if rs.any (fun r => meetsM r k n) then 11 else 0
def insE (rs : List MR) (k a : KV) (first : Bool) (s : List UInt8) : Int :=
  if insBad s k then 1 else if first then freshM rs k (runesL s).length else
  match findM rs a with
  | none => 12
  | some _ => if 0 ≤ cmpK a k then 21 else freshM rs k (runesL s).length
def insP (rs : List MR) (a : KV) (first : Bool) : List MR × Nat := if first then (rs, 0) else
  match findM rs a with
  | none => (rs, 0)
  | some i => (cutM rs i (offM (rs.getD i ((0, [], 0), [], false)) a + 1), i + 1)
def putM (rs : List MR) (p : Nat) (r : MR) : List MR := rs.take p ++ r :: rs.drop p
def insL (rs : List MR) (k a : KV) (first : Bool) (s : List UInt8) : List MR :=
  if insE rs k a first s = 0 then putM (insP rs a first).1 (skipM (insP rs a first).1 k (insP rs a first).2) (k, runesL s, false) else rs

theorem norm_map {w : World} {zs : List (RV × MR)} (h : ∀ z ∈ zs, Tells w z.1 z.2) : (zs.map (·.1)).map norm = (zs.map (·.2)).map asV := by
  rw [List.map_map, List.map_map]
  exact List.map_congr_left fun z hz => (h z hz).norm
theorem findI_norm (xs : List RV) (t : Int) (c : List UInt8) (i : Int) : findI (xs.map norm) t c i = findI xs t c i := by unfold findI; rw [List.findIdx?_map]; rfl
theorem findI_asV (rs : List MR) (k : KV) : findI (rs.map asV) k.1 k.2.1 k.2.2 = findM rs k := by unfold findI findM; rw [List.findIdx?_map]; rfl
theorem freshE_norm (xs : List RV) (t : Int) (c : List UInt8) (i n : Int) : freshE (xs.map norm) t c i n = freshE xs t c i n := by unfold freshE; rw [List.any_map]; rfl
theorem freshE_asV (rs : List MR) (k : KV) (n : Int) : freshE (rs.map asV) k.1 k.2.1 k.2.2 n = freshM rs k n := by unfold freshE freshM; rw [List.any_map]; rfl
theorem fresh_is {w : World} {zs : List (RV × MR)} (h : ∀ z ∈ zs, Tells w z.1 z.2) (k : KV) (n : Int) : freshE (zs.map (·.1)) k.1 k.2.1 k.2.2 n = freshM (zs.map (·.2)) k n := by
  rw [← freshE_norm, norm_map h, freshE_asV]
theorem findI_zs {w : World} {zs : List (RV × MR)} (h : ∀ z ∈ zs, Tells w z.1 z.2) (k : KV) : findI (zs.map (·.1)) k.1 k.2.1 k.2.2 = findM (zs.map (·.2)) k := by
  rw [← findI_norm, norm_map h, findI_asV]
theorem findM_lt {rs : List MR} {k : KV} {i : Nat} (h : findM rs k = some i) : i < rs.length := by
  unfold findM at h
  rw [List.findIdx?_eq_some_iff_getElem] at h
  exact h.1
theorem find_some {w : World} {zs : List (RV × MR)} (h : ∀ z ∈ zs, Tells w z.1 z.2) {k : KV} {i : Nat} (hi : findM (zs.map (·.2)) k = some i) : findV (zs.map (·.1)) k.1 k.2.1 k.2.2 = .tuple #[.int .i64 i, .int .i64 (offM ((zs.map (·.2)).getD i ((0, [], 0), [], false)) k), .bool true] := by
  unfold findV
  rw [findI_zs h, hi]
  simp only
  have hl : i < zs.length := by have := findM_lt hi; simpa using this
  congr 3
  simp only [List.getD_eq_getElem?_getD, List.getElem?_map, List.getElem?_eq_getElem hl, Option.map_some, Option.getD_some]
  have ht := h zs[i] (List.getElem_mem hl)
  unfold offM holdsN
  rw [ht.key]; rfl
theorem find_none {w : World} {zs : List (RV × MR)} (h : ∀ z ∈ zs, Tells w z.1 z.2) {k : KV} (hi : findM (zs.map (·.2)) k = none) : findV (zs.map (·.1)) k.1 k.2.1 k.2.2 = .tuple #[.int .i64 0, .int .i64 0, .bool false] := by
  unfold findV
  rw [findI_zs h, hi]
theorem Doc.slice {w : World} {d : Nat} {v : Value} {zs : List (RV × MR)} {size live : Int} (h : Doc w d v zs size live) : ∃ a cap, v = .slice a (zs.map (·.1)).length cap ∧ runR.In w a (zs.map (·.1)) := by
  obtain ⟨a, c, h1, _, _, h2, _⟩ := h.row.sl
  exact ⟨a, c, h1, h2⟩
theorem Doc.keys {w : World} {d : Nat} {v : Value} {zs : List (RV × MR)} {size live : Int} (h : Doc w d v zs size live) : ∀ r ∈ zs.map (·.2), r.1.2.1.length = 32 := by
  intro r hr
  obtain ⟨z, hz, rfl⟩ := List.mem_map.1 hr
  exact (h.tells z hz).k32

theorem put_doc {w : World} {d : Nat} {v : Value} {zs : List (RV × MR)} {size live : Int} (h : Doc w d v zs size live) (i : Nat) (hi : i ≤ zs.length) (hlen : zs.length ≤ 100000) (x : RV) (r : MR) (hx : Tells w x r) :
    Calls Try.prog 45 #[.pointer (some ⟨d, 0, none⟩), .int .i64 (i : Int), .agg (runB x)] w fun e w' => e = .returned (.tuple #[]) ∧ ∃ v' zs', Doc w' d v' zs' size live ∧ zs'.map (·.2) = putM (zs.map (·.2)) i r ∧ Step d v v' w w' := by
  have hx32 : x.1.2.1.length = 32 := by rw [hx.key]; exact hx.k32
  refine (put_any d i v size live (zs.map (·.1)) x w hx32 (by simpa using hi) (by simp; omega) h.cells h.row).mono ?_
  rintro e w1 ⟨rfl, v1, h1, h2, h3⟩
  have hk := h.keepN h3
  refine ⟨rfl, v1, zs.take i ++ (x, r) :: zs.drop i, ⟨h1, by simpa [List.map_take, List.map_drop] using h2, fun z hz => ?_⟩, by simp [putM], h3⟩
  rcases List.mem_append.1 hz with hz | hz
  · exact (h.tells z (List.mem_of_mem_take hz)).keep hk
  · rcases List.mem_cons.1 hz with rfl | hz
    · exact hx.keep hk
    · exact (h.tells z (List.mem_of_mem_drop hz)).keep hk
theorem cut_doc {w : World} {d : Nat} {v : Value} {zs : List (RV × MR)} {size live : Int} (h : Doc w d v zs size live) (i : Nat) (n : Int) (hi : i < zs.length) (hlen : zs.length ≤ 100000) :
    Calls Try.prog 44 #[.pointer (some ⟨d, 0, none⟩), .int .i64 (i : Int), .int .i64 n] w fun e w' => e = .returned (.tuple #[]) ∧ ∃ v' zs', Doc w' d v' zs' size live ∧ zs'.map (·.2) = cutM (zs.map (·.2)) i n ∧ Step d v v' w w' ∧ zs'.length ≤ zs.length + 1 := by
  have ht := h.tells zs[i] (List.getElem_mem hi)
  have hxi : (zs.map (·.1))[i]? = some zs[i].1 := by simp [hi]
  have hri : (zs.map (·.2))[i]? = some zs[i].2 := by simp [hi]
  obtain ⟨a, cap, rfl, hin⟩ := h.slice
  by_cases hn : 0 < n ∧ n < (zs[i].2.2.1.length : Int)
  · obtain ⟨b, off, cur, hp, hb, hc⟩ := ht.runes
    obtain ⟨n, rfl⟩ : ∃ m : Nat, n = (m : Int) := ⟨n.toNat, by omega⟩
    have hne : n < zs[i].1.2.1.2.1 := by rw [ht.len]; omega
    refine (cut_yes d i n _ size live (zs.map (·.1)) zs[i].1 _ w hxi (by simpa using hlen) hp (by rw [ht.len]; exact ht.cap) ht.max (by omega) hne h.cells h.row).mono ?_
    rintro e w1 ⟨rfl, v1, h1, h2, h3⟩
    have hk := h.keepN h3
    have htk := ht.keep hk
    have hlt : n < zs[i].2.2.1.length := by omega
    refine ⟨rfl, v1, zs.take i ++ (fstR zs[i].1 n, fstM zs[i].2 n) :: (sndR zs[i].1 n, sndM zs[i].2 n) :: zs.drop (i + 1), ⟨h1, by simpa [List.map_take, List.map_drop] using h2, fun z hz => ?_⟩, ?_, h3, by simp; omega⟩
    · rcases List.mem_append.1 hz with hz | hz
      · exact (h.tells z (List.mem_of_mem_take hz)).keep hk
      · rcases List.mem_cons.1 hz with rfl | hz
        · exact ⟨ht.key, ht.k32, by simp [fstR, fstM]; omega, ht.dead, by have := htk.runes.to n; simpa [fstR, fstM] using this, by simp [fstM]; omega, by simp [fstR, fstM]; omega, (show n ≤ maxLen by have := ht.max; have := ht.cap; omega)⟩
        · rcases List.mem_cons.1 hz with rfl | hz
          · have hr9 := htk.runes
            rw [hp] at hr9
            refine ⟨?_, ht.k32, by simp [sndR, sndM, ht.len], ht.dead, ?_, by simp [sndM]; omega, by simp [sndR, sndM]; have := ht.cap; omega, (show zs[i].1.2.1.2.2 - n ≤ maxLen by have := ht.max; omega)⟩
            · simp only [sndR, sndM, ht.key]
            · have := hr9.from n
              simp only [sndR, sndM, hp, Option.map_some, Int.toNat_natCast]
              exact this
          · exact (h.tells z (List.mem_of_mem_drop hz)).keep hk
    · simp only [cutM, hri, hn, and_self, if_true]
      simp [List.map_take, List.map_drop]
  · refine (cut_no d i n _ size live (zs.map (·.1)) zs[i].1 w hxi (by simpa using hlen) (by rw [ht.len]; omega) h.cells h.row).mono ?_
    rintro e w1 ⟨rfl, hb⟩
    refine ⟨rfl, _, zs, h.below hb, ?_, .of_below hb, by omega⟩
    simp only [cutM, hri, hn, if_false]
theorem cutM_len (rs : List MR) (i : Nat) (n : Int) : rs.length ≤ (cutM rs i n).length := by
  unfold cutM
  split
  · rename_i r hr
    split
    · have := (List.getElem?_eq_some_iff.1 hr).1
      simp; omega
    · exact Nat.le_refl _
  · exact Nat.le_refl _
end Go.Proofs.Ytcgioboiebanpaa

namespace Go.Proofs.Ytcgioboiebanpaa
open Go.RowKit Go.Maps
set_option linter.unusedVariables false

theorem runesL_len (l : List UInt8) : (runesL l).length ≤ l.length := by
  unfold runesL
  split
  · rename_i h
    have h1 := encs_len (parse l).1
    rw [← isText_iff.1 h] at h1
    exact h1
  · simp
theorem runes_slice {w : World} {base : Nat} {v : Value} {rs : List Int} (h : w.ownsRow base 21 1 v rs.length (rs.map (Value.int .i32))) : ∃ a cap, v = .slice a rs.length cap ∧ (0 < rs.length → RuneIn w a rs) ∧ rs.length ≤ cap ∧ cap ≤ maxLen := by
  obtain ⟨_, ⟨rfl, hn⟩ | ⟨g, cap, cur, rfl, hg, hh, hc, hm, hs, ht⟩⟩ := h
  · exact ⟨none, 0, by rw [hn], fun h => by omega, by omega, by unfold maxLen; omega⟩
  · refine ⟨_, cap, rfl, fun _ => ⟨g, 0, cur, rfl, hh, fun i hi => ?_⟩, hc, hm⟩
    have h5 : (cur.toList.take (rs.length * 1))[i]? = (rs.map (Value.int .i32))[i]? := by rw [ht]
    rw [List.getElem?_take, if_pos (by omega), List.getElem?_map, List.getElem?_eq_getElem hi, Array.getElem?_toList] at h5
    rw [Nat.zero_add, h5]
    simp [List.getD_eq_getElem?_getD, List.getElem?_eq_getElem hi]
theorem two_keys {w W : World} {t t' i i' : Int} {c c' : List UInt8} (hW : (w.alloc (.cells (keyB t c i) 26)).alloc (.cells (keyB t' c' i') 26) = W) : Below w.heap.size w W ∧ KeyAt W w.heap.size t c i ∧ KeyAt W (w.heap.size + 1) t' c' i' := two_new hW
theorem findM_held {rs : List MR} {k : KV} {i : Nat} (h : findM rs k = some i) : heldM (rs.getD i ((0, [], 0), [], false)) k = true := by
  have hl := findM_lt h
  unfold findM at h
  rw [List.findIdx?_eq_some_iff_getElem] at h
  simp only [List.getD_eq_getElem?_getD, List.getElem?_eq_getElem hl, Option.getD_some]
  exact h.2.1
theorem heldM_off {r : MR} {k : KV} (h : heldM r k = true) : 0 ≤ offM r k ∧ offM r k < r.2.1.length := by
  unfold heldM holdsB at h
  simp only [Bool.and_eq_true, decide_eq_true_eq] at h
  exact ⟨h.1.2, h.2⟩
theorem skip_eq {rs : List MR} {k : KV} {p q : Nat} (h1 : p ≤ q) (h2 : q ≤ rs.length) (h3 : ∀ j r, p ≤ j → j < q → rs[j]? = some r → 0 < cmpK r.1 k) (h4 : ∀ r, rs[q]? = some r → ¬ 0 < cmpK r.1 k) : skipM rs k p = q := by
  unfold skipM
  have hs : rs.drop p = (rs.drop p).take (q - p) ++ rs.drop q := by
    have := (List.take_append_drop (q - p) (rs.drop p)).symm
    rwa [List.drop_drop, show p + (q - p) = q by omega] at this
  rw [hs, List.takeWhile_append_of_pos]
  · have h5 : (rs.drop q).takeWhile (fun r => decide (0 < cmpK r.1 k)) = [] := by
      cases hq : rs.drop q with
      | nil => rfl
      | cons r l =>
        have h6 : rs[q]? = some r := by
          have := congrArg (·[0]?) hq
          simpa using this
        rw [List.takeWhile_cons_of_neg (by simpa using h4 r h6)]
    rw [h5, List.append_nil, List.length_take, List.length_drop]
    omega
  · intro r hr
    obtain ⟨j, hj⟩ := List.mem_iff_getElem?.1 hr
    rw [List.getElem?_take] at hj
    split at hj
    · rw [List.getElem?_drop] at hj
      exact decide_eq_true (h3 (p + j) r (by omega) (by omega) hj)
    · cases hj
theorem Doc.field {w : World} {d : Nat} {v : Value} {zs : List (RV × MR)} {size live size' live' : Int} (h : Doc w d v zs size live) (o : Nat) (u : Value) (hc : (#[v, .int .i64 size, .int .i64 live] : Array Value).setIfInBounds o u = #[v, .int .i64 size', .int .i64 live']) :
    Doc (w.setCell ⟨d, o, none⟩ u) d v zs size' live' ∧ Step d v v w (w.setCell ⟨d, o, none⟩ u) := by
  have hs := Step.cell (d := d) (v := v) w o u
  refine ⟨⟨?_, ?_, fun z hz => (h.tells z hz).keep (h.keepN hs)⟩, hs⟩
  · rw [← hc]; exact heap_setCell_at h.cells u
  · exact row_keep h.row fun g hg => heap_setCell_ne w d o g u (fun e => own_d h.row (e ▸ hg))
def insN (rs : List MR) (k a : KV) (first : Bool) (s : List UInt8) : Int := if insE rs k a first s = 0 then (runesL s).length else 0
set_option maxHeartbeats 8000000 in
set_option maxRecDepth 100000 in
theorem insert_any (d : Nat) (v : Value) (zs : List (RV × MR)) (size live : Int) (k a : KV) (first : Bool) (s : ByteArray) (w : World) (hk : k.2.1.length = 32) (ha : a.2.1.length = 32) (hs : s.size ≤ 1000) (hz : zs.length ≤ 10000)
    (hsz : 0 ≤ size ∧ size ≤ 1000000) (hlv : 0 ≤ live ∧ live ≤ 1000000) (h : Doc w d v zs size live) :
    Calls Try.prog 23 #[.pointer (some ⟨d, 0, none⟩), .agg (keyB k.1 k.2.1 k.2.2), .agg (keyB a.1 a.2.1 a.2.2), .bool first, .string s] w fun e w' =>
      e = .returned (.int .i64 (insE (zs.map (·.2)) k a first s.data.toList)) ∧ ∃ v' zs', Doc w' d v' zs' (size + insN (zs.map (·.2)) k a first s.data.toList) (live + insN (zs.map (·.2)) k a first s.data.toList) ∧ zs'.map (·.2) = insL (zs.map (·.2)) k a first s.data.toList ∧ Step d v v' w w' := by
  obtain ⟨kt, kc, ki⟩ := k
  obtain ⟨at_, ac, ai⟩ := a
  simp only at hk ha ⊢
  obtain ⟨W, hW⟩ : ∃ W, (w.alloc (.cells (keyB kt kc ki) 26)).alloc (.cells (keyB at_ ac ai) 26) = W := ⟨_, rfl⟩
  obtain ⟨hbW, hk1, hk2⟩ := two_keys hW
  obtain ⟨b1, hb1⟩ : ∃ b, b = w.heap.size := ⟨_, rfl⟩
  obtain ⟨b2, hb2⟩ : ∃ b, b = w.heap.size + 1 := ⟨_, rfl⟩
  rw [← hb1] at hk1
  rw [← hb2] at hk2
  have HDOC := Lib.hid (h.below hbW)
  have HBW := Lib.hid hbW
  have HK := Lib.hid hk
  have HA := Lib.hid ha
  have HZ := Lib.hid hz
  have HSZ := Lib.hid hsz
  have HLV := Lib.hid hlv
  have HS := Lib.hid hs
  have HR := Lib.hid (runes_any s (by unfold maxLen; omega) (by omega) W)
  have hdl := h.lt
  have HB12 := Lib.hid (show d < b1 ∧ d < b2 ∧ b1 < W.heap.size ∧ b2 < W.heap.size ∧ v.ownBlock ≠ some b1 ∧ v.ownBlock ≠ some b2 by
    have h1 := (Array.getElem?_eq_some_iff.1 hk1).1
    have h2 := (Array.getElem?_eq_some_iff.1 hk2).1
    refine ⟨by omega, by omega, h1, h2, fun e => ?_, fun e => ?_⟩ <;>
    · obtain ⟨_, cur, he⟩ := row_own h.row e
      have := (Array.getElem?_eq_some_iff.1 he).1
      omega)
  have HK1 := Lib.hid hk1
  have HK2 := Lib.hid hk2
  have HLN := Lib.hid (runesL_len s.data.toList)
  have HSL := Lib.hid (show s.data.toList.length = s.size from Array.length_toList)
  obtain ⟨rs, hrs⟩ : ∃ rs, rs = zs.map (·.2) := ⟨_, rfl⟩
  rw [← hrs]
  have HRS := Lib.hid hrs
  obtain ⟨E, hE⟩ : ∃ E, E = insE rs (kt, kc, ki) (at_, ac, ai) first s.data.toList := ⟨_, rfl⟩
  have HE := Lib.hid hE
  have HNN := Lib.hid (show insN rs (kt, kc, ki) (at_, ac, ai) first s.data.toList = if E = 0 then ((runesL s.data.toList).length : Int) else 0 by rw [hE]; rfl)
  have HLL := Lib.hid (show insL rs (kt, kc, ki) (at_, ac, ai) first s.data.toList = if E = 0 then putM (insP rs (at_, ac, ai) first).1 (skipM (insP rs (at_, ac, ai) first).1 (kt, kc, ki) (insP rs (at_, ac, ai) first).2) ((kt, kc, ki), runesL s.data.toList, false) else rs by rw [hE]; rfl)
  rw [← hE]
  generalize insN rs (kt, kc, ki) (at_, ac, ai) first s.data.toList = NN at *
  generalize insL rs (kt, kc, ki) (at_, ac, ai) first s.data.toList = LL at *
  clear hbW hk1 hk2 hk ha hz hsz hlv hs h hdl hrs hE
  have HFAIL := Lib.hid (show ∀ w9, Below W.heap.size W w9 → E ≠ 0 → ∃ v' zs', Doc w9 d v' zs' (size + NN) (live + NN) ∧ zs'.map (·.2) = LL ∧ Step d v v' w w9 from fun w9 h9 h0 =>
    ⟨v, zs, by rw [HNN.out, if_neg h0, Int.add_zero, Int.add_zero]; exact HDOC.out.below h9, by rw [HLL.out, if_neg h0, HRS.out], .of_below (HBW.out.trans (h9.mono HBW.out.size))⟩)
  go_enter Try.func23, Try.ntmps23
  go_upto_region 1 with fail
  rw [← hb2, ← hb1]
  clear hW hb1 hb2
  go_wp2_with fail
  refine HR.out.mono ?_
  rintro e w1 ⟨v11, rfl, hr, hb⟩
  obtain ⟨ra, rcap, rfl, hri, hrc, hrm⟩ := runes_slice hr
  have HRI := Lib.hid hri
  have HRC := Lib.hid (And.intro hrc hrm)
  have HB1 := Lib.hid hb
  clear hr hri hrc hrm hb
  have HC1 := Lib.hid (show w1.cell? ⟨b1, 33, none⟩ = some (.int .i64 ki) from (HB1.out.cell (p := ⟨b1, 33, none⟩) HB12.out.2.2.1).trans (KeyAt.c33 HK1.out HK.out))
  have HCE := Lib.hid (show chkE s.data.toList = if isText s.data.toList then 0 else 5 from rfl)
  have HBAD := Lib.hid (show insBad s.data.toList (kt, kc, ki) = (!isText s.data.toList || decide ((runesL s.data.toList).length = 0) || decide (ki < 0) || decide (2147483647 - ((runesL s.data.toList).length : Int) + 1 < ki)) from rfl)
  have HB1E := Lib.hid (show insBad s.data.toList (kt, kc, ki) = true → E = 1 from fun h => by rw [HE.out]; unfold insE; rw [if_pos h])
  obtain ⟨n, hn⟩ : ∃ n, n = (runesL s.data.toList).length := ⟨_, rfl⟩
  obtain ⟨CE, hCE⟩ : ∃ CE, CE = chkE s.data.toList := ⟨_, rfl⟩
  rw [← hn] at HBAD HRC HLN
  rw [← hCE] at HCE
  rw [← hn, ← hCE]
  have HN := Lib.hid hn
  generalize chkAt s.data.toList = CA
  clear hn hCE
  have nb : n ≤ 1000 := by have := HLN.out; have := HS.out; have := HSL.out; omega
  have n1 : IntKind.i64.wrap (2147483647 - (n : Int)) = 2147483647 - (n : Int) := IntWalk.i64_in _ (by omega)
  have n2 : IntKind.i64.wrap (2147483647 - (n : Int) + 1) = 2147483647 - (n : Int) + 1 := IntWalk.i64_in _ (by omega)
  have c1 := HC1.out
  cases ht : isText s.data.toList with
  | false =>
    have HT := Lib.hid (show CE = 5 by rw [HCE.out, ht]; rfl)
    have HBB := Lib.hid (HB1E.out (by rw [HBAD.out, ht]; rfl))
    have e1 : ¬ CE = 0 := by rw [HT.out]; decide
    clear ht
    go_wp2
    go_ret
    exact ⟨ret_i HBB.out.symm, HFAIL.out _ HB1.out (by rw [HBB.out]; decide)⟩
  | true =>
    have e1 : CE = 0 := by rw [HCE.out, ht]; rfl
    subst e1
    by_cases h0 : n = 0
    · have HBB := Lib.hid (HB1E.out (by rw [HBAD.out, ht, h0]; rfl))
      subst h0
      clear ht
      go_wp2
      go_ret
      exact ⟨ret_i HBB.out.symm, HFAIL.out _ HB1.out (by rw [HBB.out]; decide)⟩
    · by_cases hkn : ki < 0
      · have HBB := Lib.hid (HB1E.out (by rw [HBAD.out, ht, decide_eq_false h0, decide_eq_true hkn]; rfl))
        clear ht
        go_wp2
        go_ret
        exact ⟨ret_i HBB.out.symm, HFAIL.out _ HB1.out (by rw [HBB.out]; decide)⟩
      · by_cases hkb : 2147483647 - (n : Int) + 1 < ki
        · have HBB := Lib.hid (HB1E.out (by rw [HBAD.out, ht, decide_eq_true hkb]; simp))
          clear ht
          go_wp2
          go_ret
          exact ⟨ret_i HBB.out.symm, HFAIL.out _ HB1.out (by rw [HBB.out]; decide)⟩
        · have HGOOD := Lib.hid (show insBad s.data.toList (kt, kc, ki) = false by rw [HBAD.out, ht, decide_eq_false h0, decide_eq_false hkn, decide_eq_false hkb]; rfl)
          clear ht
          have g0 : ((n : Int) == 0) = false := beq_eq_false_iff_ne.2 (by omega)
          go_upto_region 5 with fail
          clear g0 c1 n1 n2 hkn hkb
          have HN0 := Lib.hid h0
          have HNB := Lib.hid nb
          clear h0 nb
          have HKW := Lib.hid ((HB1.out.block b1 HB12.out.2.2.1).trans HK1.out)
          have HKW2 := Lib.hid ((HB1.out.block b2 HB12.out.2.2.2.1).trans HK2.out)
          have HDOC1 := Lib.hid (HDOC.out.below HB1.out)
          have HKS := Lib.hid (show (keyB kt kc ki).size = 34 by rw [keyB_size, HK.out])
          have HAS := Lib.hid (show (keyB at_ ac ai).size = 34 by rw [keyB_size, HA.out])
          have HSLICE := Lib.hid HDOC1.out.slice
          obtain ⟨FR, hFR⟩ : ∃ FR, FR = freshM rs (kt, kc, ki) n := ⟨_, rfl⟩
          have HFR := Lib.hid hFR
          have HFRC := Lib.hid (show ∀ w9, Below w1.heap.size w1 w9 → Calls Try.prog 43 #[.pointer (some ⟨d, 0, none⟩), .agg (keyB kt kc ki), .int .i64 (n : Int)] w9 fun e w' => e = .returned (.int .i64 FR) ∧ Below w9.heap.size w9 w' from fun w9 h9 => by
            obtain ⟨a9, c9, hv9, hi9⟩ := (HDOC1.out.below h9).slice
            have hc9 := (HDOC1.out.below h9).cells
            rw [hv9] at hc9
            have := fresh_any d a9 c9 size live (zs.map (·.1)) kt kc ki n w9 HK.out (by rw [List.length_map]; have := HZ.out; omega) hc9 hi9
            rwa [fresh_is HDOC1.out.tells (kt, kc, ki) n, ← HRS.out, ← hFR] at this)
          have HFR11 := Lib.hid (show FR = 0 ∨ FR = 11 by rw [hFR]; unfold freshM; split <;> simp)
          clear hFR
          go_upto_if 53 with fail
          go_cut [15] (fun v15 wx => ∃ (p : Nat) (v1 : Value) (zs1 : List (RV × MR)), v15 = .int .i64 p ∧ Doc wx d v1 zs1 size live ∧ zs1.map (·.2) = (insP rs (at_, ac, ai) first).1 ∧ p = (insP rs (at_, ac, ai) first).2 ∧ p ≤ zs1.length ∧ zs1.length ≤ 10001 ∧ E = 0 ∧ Step d v v1 w1 wx)
          case first =>
            cases first with
            | false =>
              have HE2 := Lib.hid (show E = match findM rs (at_, ac, ai) with | none => 12 | some _ => if 0 ≤ cmpK (at_, ac, ai) (kt, kc, ki) then 21 else FR by
                rw [HE.out, HFR.out]
                unfold insE
                rw [HGOOD.out, ← HN.out]
                simp only [Bool.false_eq_true, if_false] <;> rfl)
              have HP2 := Lib.hid (show insP rs (at_, ac, ai) false = match findM rs (at_, ac, ai) with | none => (rs, 0) | some i => (cutM rs i (offM (rs.getD i ((0, [], 0), [], false)) (at_, ac, ai) + 1), i + 1) from rfl)
              obtain ⟨a9, c9, hv9, hi9⟩ := HSLICE.out
              have hc9 := HDOC1.out.cells
              rw [hv9] at hc9
              have HFIND := Lib.hid (find_any d a9 c9 size live (zs.map (·.1)) at_ ac ai w1 HA.out (by rw [List.length_map]; have := HZ.out; omega) hc9 hi9)
              have f1 := (blk_ld HKW2.out HAS.out).1
              have f2 := (blk_ld HKW2.out HAS.out).2
              clear hc9 hi9 hv9
              go_wp2_with fail
              refine HFIND.out.mono ?_
              rintro e w2 ⟨rfl, hb2⟩
              have HB2 := Lib.hid hb2
              clear f1 f2 hb2
              cases hf : findM rs (at_, ac, ai) with
              | none =>
                have HFV := Lib.hid (find_none HDOC1.out.tells (k := (at_, ac, ai)) (by rw [← HRS.out]; exact hf))
                have HEE := Lib.hid (show E = 12 by rw [HE2.out, hf])
                clear hf
                rw [HFV.out]
                go_wp2
                go_ret
                exact ⟨ret_i HEE.out.symm, HFAIL.out _ (HB1.out.trans (HB2.out.mono HB1.out.size)) (by rw [HEE.out]; decide)⟩
              | some i =>
                have HFV := Lib.hid (find_some HDOC1.out.tells (k := (at_, ac, ai)) (i := i) (by rw [← HRS.out]; exact hf))
                rw [← HRS.out] at HFV
                have HO := Lib.hid (heldM_off (findM_held hf))
                have HIL := Lib.hid (show i < zs.length by have := findM_lt hf; rw [HRS.out, List.length_map] at this; exact this)
                have HRG := Lib.hid (show (rs.getD i ((0, [], 0), [], false)).2.1.length ≤ maxLen by
                  have hl := HIL.out
                  have ht := HDOC1.out.tells zs[i] (List.getElem_mem hl)
                  rw [HRS.out]
                  simp only [List.getD_eq_getElem?_getD, List.getElem?_map, List.getElem?_eq_getElem hl, Option.map_some, Option.getD_some]
                  exact Nat.le_trans ht.cap ht.max)
                have HEE := Lib.hid (show E = if 0 ≤ cmpK (at_, ac, ai) (kt, kc, ki) then 21 else FR by rw [HE2.out, hf])
                have HPP := Lib.hid (show insP rs (at_, ac, ai) false = (cutM rs i (offM (rs.getD i ((0, [], 0), [], false)) (at_, ac, ai) + 1), i + 1) by rw [HP2.out, hf])
                clear hf
                rw [HFV.out]
                obtain ⟨OF, hOF⟩ : ∃ OF, OF = offM (rs.getD i ((0, [], 0), [], false)) (at_, ac, ai) := ⟨_, rfl⟩
                rw [← hOF] at HO HPP ⊢
                clear hOF
                have hd2 := (HB2.out.block b2 (by have := HB1.out.size; have := HB12.out; omega)).trans HKW2.out
                have hd1 := (HB2.out.block b1 (by have := HB1.out.size; have := HB12.out; omega)).trans HKW.out
                have f1 := (blk_ld hd2 HAS.out).1
                have f2 := (blk_ld hd2 HAS.out).2
                have f3 := (blk_ld hd1 HKS.out).1
                have f4 := (blk_ld hd1 HKS.out).2
                clear hd1 hd2
                go_wp2_with fail
                refine (keys_any at_ ac ai kt kc ki HA.out HK.out w2).mono ?_
                rintro e w3 ⟨rfl, hb3⟩
                have HB3 := Lib.hid (HB2.out.trans (hb3.mono HB2.out.size))
                clear hb3 f1 f2 f3 f4
                have HCM := Lib.hid (show cmpK (at_, ac, ai) (kt, kc, ki) = keysCmp at_ ac ai kt kc ki from rfl)
                by_cases hcm : 0 ≤ keysCmp at_ ac ai kt kc ki
                · have HEF := Lib.hid (show E = 21 by rw [HEE.out, HCM.out, if_pos hcm])
                  go_wp2
                  go_ret
                  exact ⟨ret_i HEF.out.symm, HFAIL.out _ (HB1.out.trans (HB3.out.mono HB1.out.size)) (by rw [HEF.out]; decide)⟩
                · have HEF := Lib.hid (show E = FR by rw [HEE.out, HCM.out, if_neg hcm])
                  have hd1 := (HB3.out.block b1 (by have := HB1.out.size; have := HB12.out; omega)).trans HKW.out
                  have f3 := (blk_ld hd1 HKS.out).1
                  have f4 := (blk_ld hd1 HKS.out).2
                  clear hd1
                  go_wp2_with fail
                  refine (HFRC.out w3 HB3.out).mono ?_
                  rintro e w4 ⟨rfl, hb4⟩
                  have HB4 := Lib.hid (HB3.out.trans (hb4.mono HB3.out.size))
                  clear hb4 f3 f4 hcm
                  rcases HFR11.out with h0 | h0
                  · have HEZ := Lib.hid (show E = 0 by rw [HEF.out, h0])
                    subst h0
                    have w9 : IntKind.i64.wrap (OF + 1) = OF + 1 := IntWalk.i64_in _ (by have := HO.out; have := HRG.out; unfold maxLen at this; omega)
                    have w8 : IntKind.i64.wrap ((i : Int) + 1) = (i : Int) + 1 := IntWalk.i64_in _ (by have := HIL.out; have := HZ.out; omega)
                    go_wp2_with fail
                    refine (cut_doc (HDOC1.out.below HB4.out) i (OF + 1) HIL.out (by have := HZ.out; omega)).mono ?_
                    rintro e w5 ⟨rfl, v5, zs5, h51, h52, h53, h54⟩
                    have H51 := Lib.hid h51
                    have H52 := Lib.hid h52
                    have H53 := Lib.hid h53
                    have H54 := Lib.hid h54
                    clear h51 h52 h53 h54 w9
                    go_wp2_with fail
                    go_meet
                    refine ⟨i + 1, v5, zs5, by go_num, H51.out, by rw [HPP.out, H52.out, HRS.out], by rw [HPP.out], ?_, by have := H54.out; have := HZ.out; omega, HEZ.out, (Step.of_below (d := d) (v := v) HB4.out).trans H53.out⟩
                    have h1 := cutM_len rs i (OF + 1)
                    have h2 := congrArg List.length H52.out
                    rw [List.length_map, ← HRS.out] at h2
                    have h3 := congrArg List.length HRS.out
                    rw [List.length_map] at h3
                    have := HIL.out
                    omega
                  · have HEZ := Lib.hid (show E = 11 by rw [HEF.out, h0])
                    subst h0
                    go_wp2
                    go_ret
                    exact ⟨ret_i HEZ.out.symm, HFAIL.out _ (HB1.out.trans (HB4.out.mono HB1.out.size)) (by rw [HEZ.out]; decide)⟩
            | true =>
              have HEF := Lib.hid (show E = FR by
                rw [HE.out, HFR.out]
                unfold insE
                rw [HGOOD.out, ← HN.out]
                rfl)
              have f3 := (blk_ld HKW.out HKS.out).1
              have f4 := (blk_ld HKW.out HKS.out).2
              go_wp2_with fail
              refine (HFRC.out w1 (Below.refl _ _)).mono ?_
              rintro e w4 ⟨rfl, hb4⟩
              have HB4 := Lib.hid hb4
              clear hb4 f3 f4
              rcases HFR11.out with h0 | h0
              · have HEZ := Lib.hid (show E = 0 by rw [HEF.out, h0])
                subst h0
                go_wp2_with fail
                go_meet
                exact ⟨0, v, zs, rfl, HDOC1.out.below HB4.out, HRS.out.symm, rfl, Nat.zero_le _, by have := HZ.out; omega, HEZ.out, .of_below HB4.out⟩
              · have HEZ := Lib.hid (show E = 11 by rw [HEF.out, h0])
                subst h0
                go_wp2
                go_ret
                exact ⟨ret_i HEZ.out.symm, HFAIL.out _ (HB1.out.trans (HB4.out.mono HB1.out.size)) (by rw [HEZ.out]; decide)⟩
          case rest =>
            obtain ⟨p, v1, zs1, rfl, hd, hzs, hp, hpl, hzl, hE0, hst⟩ := hcut
            obtain ⟨X, hX⟩ : ∃ X, X = wc := ⟨_, rfl⟩
            rw [← hX] at hd hst ⊢
            have HNZ := Lib.hid (show NN = n by rw [HNN.out, if_pos hE0, HN.out])
            have HLZ := Lib.hid (show LL = putM (zs1.map (·.2)) (skipM (zs1.map (·.2)) (kt, kc, ki) p) ((kt, kc, ki), runesL s.data.toList, false) by rw [HLL.out, if_pos hE0, ← hzs, ← hp])
            have HE0 := Lib.hid hE0
            have HDX := Lib.hid hd
            have HSTX := Lib.hid hst
            have HPL := Lib.hid hpl
            have HZL := Lib.hid hzl
            have HKX := Lib.hid ((hst.block b1 (Nat.lt_of_lt_of_le HB12.out.2.2.1 HB1.out.size) (by have := HB12.out; omega) HB12.out.2.2.2.2.1).trans HKW.out)
            have HRX := Lib.hid (show RuneIn X ra (runesL s.data.toList) from (HRI.out (by rw [← HN.out]; have := HN0.out; omega)).keep (HDOC1.out.keepN hst))
            obtain ⟨a1, cap1, hv1, hin1⟩ := hd.slice
            rw [List.length_map] at hv1
            have HIN1 := Lib.hid hin1
            obtain ⟨L, hL⟩ : ∃ L, L = zs1.length := ⟨_, rfl⟩
            rw [← hL] at hv1 HPL HZL
            have HL := Lib.hid hL
            have HV1 := Lib.hid hv1
            clear hX hd hzs hp hpl hzl hE0 hst hin1 hL hv1
            go_wp2_with fail
            go_loopg [15] (L - p) (fun g v15 wr => ∃ q : Nat, g + q = L ∧ v15 = .int .i64 q ∧ p ≤ q ∧ (∀ j r, p ≤ j → j < q → (zs1.map (·.2))[j]? = some r → 0 < cmpK r.1 (kt, kc, ki)) ∧ Below X.heap.size X wr)
            case atStart => exact ⟨p, by have := HPL.out; omega, rfl, Nat.le_refl _, fun j r h1 h2 => absurd h2 (by omega), Below.refl _ _⟩
            case round =>
              obtain ⟨q, hg, rfl, hpq, hall, hbw⟩ := hrel
              have HG := Lib.hid hg
              have HPQ := Lib.hid hpq
              have HALL := Lib.hid hall
              have HBWR := Lib.hid hbw
              have c0 : wr.cell? ⟨d, 0, none⟩ = some (.slice a1 L cap1) := by rw [Lib.cell_of_heap (HDX.out.below hbw).cells, HV1.out]; rfl
              have hdlt := (HDX.out.below hbw).lt
              have hkw := (hbw.block b1 (Array.getElem?_eq_some_iff.1 HKX.out).1).trans HKX.out
              have f3 := (blk_ld hkw HKS.out).1
              have f4 := (blk_ld hkw HKS.out).2
              have hb1lt := (Array.getElem?_eq_some_iff.1 hkw).1
              clear hg hpq hall hbw hkw
              obtain ⟨B, hB⟩ : ∃ B : Bool, B = decide (∃ r, (zs1.map (·.2))[q]? = some r ∧ 0 < cmpK r.1 (kt, kc, ki)) := ⟨_, rfl⟩
              have HBE := Lib.hid hB
              clear hB
              go_upto_region 20 with fail
              go_cut [107] (fun v107 wx => v107 = .bool B ∧ Below wr.heap.size wr wx)
              case first =>
                by_cases hqL : q < L
                · have i1 : (q : Int) < (L : Int) := by omega
                  have i2 : decide ((q : Int) < (L : Int)) = true := decide_eq_true i1
                  have hqz : q < zs1.length := by have := HL.out; omega
                  rcases (HIN1.out.below HBWR.out).2 with h | ⟨b, off, hab, hlt, hc⟩
                  · rw [List.map_eq_nil_iff] at h; subst h; simp at hqz
                  subst hab
                  have hxx : (zs1.map (·.1))[q]? = some zs1[q].1 := by simp [hqz]
                  have hrr : (zs1.map (·.2))[q]? = some zs1[q].2 := by simp [hqz]
                  have hat := hc q _ hxx
                  have htl := HDX.out.tells zs1[q] (List.getElem_mem hqz)
                  have hx32 : zs1[q].1.1.2.1.length = 32 := by rw [htl.key]; exact htl.k32
                  obtain ⟨f1, f2⟩ := (RunAt.at hx32 hat).key hx32
                  have hBB : B = decide (0 < keysCmp zs1[q].1.1.1 zs1[q].1.1.2.1 zs1[q].1.1.2.2 kt kc ki) := by
                    rw [HBE.out, hrr]
                    simp only [Option.some.injEq, exists_eq_left', htl.key]
                    rfl
                  have hblt : b < wr.heap.size := hlt
                  rw [show runR.sz = 36 from rfl] at f1 f2
                  clear hc hxx hrr hat htl hlt
                  generalize zs1[q].1.1.1 = xt at *
                  generalize zs1[q].1.1.2.1 = xc at *
                  generalize zs1[q].1.1.2.2 = xi at *
                  have HKC := Lib.hid (fun x0 => keys_any xt xc xi kt kc ki hx32 HK.out (ov wr x0))
                  have i3 : decide (0 < keysCmp xt xc xi kt kc ki) = B := hBB.symm
                  clear hBB hqz hqL hx32
                  generalize keysCmp xt xc xi kt kc ki = C at *
                  refine wp_region_over (by kernel_rfl) (by kernel_rfl) ?_
                  repeat (go_big_quiet_step ((go_at_call 42; exact Calls.over_of (HKC.out _))))
                  refine wpQuiet_nil ?_
                  rintro _ ⟨x0, rfl⟩
                  go_wp2_with fail
                  go_meet
                  exact ⟨rfl, ov_below wr x0⟩
                · have i2 : decide ((q : Int) < (L : Int)) = false := decide_eq_false (by omega)
                  have hBB : B = false := by
                    rw [HBE.out]
                    refine decide_eq_false ?_
                    rintro ⟨r, hr, _⟩
                    have := (List.getElem?_eq_some_iff.1 hr).1
                    rw [List.length_map, ← HL.out] at this
                    omega
                  have HBF := Lib.hid hBB
                  have i3 : ¬ (q : Int) < (L : Int) := by omega
                  have i4 : decide (q < L) = false := decide_eq_false hqL
                  clear hBB
                  refine wp_region_over (by kernel_rfl) (by kernel_rfl) ?_
                  repeat (go_big_quiet_step (fail))
                  refine wpQuiet_nil ?_
                  rintro _ ⟨x0, rfl⟩
                  go_wp2_with fail
                  go_meet
                  exact ⟨by rw [HBF.out], ov_below wr x0⟩
              case rest =>
                obtain ⟨rfl, hb2⟩ := hcut
                obtain ⟨Y, hY⟩ : ∃ Y, Y = wc := ⟨_, rfl⟩
                rw [← hY] at hb2 ⊢
                have HBY := Lib.hid (HBWR.out.trans (hb2.mono HBWR.out.size))
                clear hb2 hY c0 f3 f4
                cases B with
                | true =>
                  have HR9 := Lib.hid (of_decide_eq_true HBE.out.symm)
                  have HQL := Lib.hid (show q < L by
                    obtain ⟨r, hr, _⟩ := HR9.out
                    have := (List.getElem?_eq_some_iff.1 hr).1
                    rw [List.length_map, ← HL.out] at this
                    exact this)
                  have w8 : IntKind.i64.wrap ((q : Int) + 1) = (q : Int) + 1 := IntWalk.i64_in _ (by have := HQL.out; have := HZL.out; omega)
                  go_wp2
                  go_roundg (L - (q + 1))
                  case measure => have := HQL.out; have := HG.out; omega
                  case rel =>
                    refine ⟨q + 1, by have := HQL.out; omega, by go_num, by have := HPQ.out; omega, fun j r h1 h2 hr => ?_, HBY.out⟩
                    rcases Nat.lt_or_eq_of_le (Nat.le_of_lt_succ h2) with h3 | h3
                    · exact HALL.out j r h1 h3 hr
                    · subst h3
                      obtain ⟨r', hr', h9⟩ := HR9.out
                      rw [hr] at hr'
                      cases hr'
                      exact h9
                | false =>
                  have HQL := Lib.hid (show q ≤ L by have := HG.out; omega)
                  have HSK := Lib.hid (show skipM (zs1.map (·.2)) (kt, kc, ki) p = q from skip_eq HPQ.out (by rw [List.length_map, ← HL.out]; exact HQL.out) HALL.out (fun r hr h9 => by
                    have := of_decide_eq_false HBE.out.symm
                    exact this ⟨r, hr, h9⟩))
                  have hkw := (HBY.out.block b1 (Array.getElem?_eq_some_iff.1 HKX.out).1).trans HKX.out
                  have f3 := (blk_ld hkw HKS.out).1
                  have f4 := (blk_ld hkw HKS.out).2
                  have f5 := keyOk_mk kt kc ki HK.out
                  have HTL := Lib.hid (show Tells Y ((kt, kc, ki), (ra, n, rcap), false) ((kt, kc, ki), runesL s.data.toList, false) from
                    ⟨rfl, HK.out, HN.out, rfl, HRX.out.keep (.of_below HBY.out), by rw [← HN.out]; have := HN0.out; omega, by rw [← HN.out]; exact HRC.out.1, HRC.out.2⟩)
                  have HDY := Lib.hid (HDX.out.below HBY.out)
                  clear hkw
                  go_wp2_with fail
                  rw [runB_eq]
                  refine (put_doc HDY.out q (by rw [← HL.out]; exact HQL.out) (by have := HZL.out; rw [← HL.out]; omega) _ _ HTL.out).mono ?_
                  rintro e w6 ⟨rfl, v6, zs6, h61, h62, h63⟩
                  have w1 : IntKind.i64.wrap (size + (n : Int)) = size + (n : Int) := IntWalk.i64_in _ (by have := HSZ.out; have := HNB.out; omega)
                  have w2 : IntKind.i64.wrap (live + (n : Int)) = live + (n : Int) := IntWalk.i64_in _ (by have := HLV.out; have := HNB.out; omega)
                  have hf1 := h61.field (size' := size + n) (live' := live) 1 (.int .i64 (size + n)) rfl
                  have hf2 := hf1.1.field (size' := size + n) (live' := live + n) 2 (.int .i64 (live + n)) rfl
                  have c1 : w6.cell? ⟨d, 1, none⟩ = some (.int .i64 size) := by rw [Lib.cell_of_heap h61.cells]; rfl
                  have z1 : w6.frozen? ⟨d, 1, none⟩ = false := Lib.frozen_of_heap h61.cells 1
                  have c2 : (w6.setCell ⟨d, 1, none⟩ (.int .i64 (size + n))).cell? ⟨d, 2, none⟩ = some (.int .i64 live) := by rw [Lib.cell_of_heap hf1.1.cells]; rfl
                  have z2 : (w6.setCell ⟨d, 1, none⟩ (.int .i64 (size + n))).frozen? ⟨d, 2, none⟩ = false := Lib.frozen_of_heap hf1.1.cells 2
                  have HF2 := Lib.hid hf2
                  have HS6 := Lib.hid (((Step.of_below (d := d) (v := v) (HBW.out.trans (HB1.out.mono HBW.out.size))).trans (HSTX.out.trans ((Step.of_below HBY.out).trans h63))).trans (hf1.2.trans hf2.2))
                  have H62 := Lib.hid h62
                  clear h61 h62 h63 hf1 hf2 f3 f4 f5
                  go_upto_region 24 with fail
                  generalize w6.setCell ⟨d, 1, none⟩ (.int .i64 (size + n)) = w7 at *
                  clear c1 z1
                  go_wp2
                  go_ret
                  exact ⟨ret_i HE0.out.symm, v6, zs6, by rw [HNZ.out]; exact HF2.out.1, by rw [H62.out, HLZ.out, HSK.out], HS6.out⟩
end Go.Proofs.Ytcgioboiebanpaa
