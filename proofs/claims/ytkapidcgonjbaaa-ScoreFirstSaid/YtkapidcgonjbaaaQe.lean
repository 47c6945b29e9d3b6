/- The stable sort: walk. -/
import Derived.Test.YtkapidcgonjbaaaQd
namespace Go.Proofs.Ytkapidcgonjbaaa
open Go.RowKit Go.Shelf Go.Lib
open Go.Sort hiding Below
set_option linter.unusedVariables false
variable {α : Type} [Inhabited α]

set_option maxHeartbeats 4000000 in
set_option maxRecDepth 1000000 in
theorem cmpStable_any (enc : α → Value) (cf : α → α → Int) (lt : α → α → Bool) (pl : α → Nat) (hS : SWO lt) (hlc : ∀ x y, pl y < pl x → ltOf cf x y = lt x y) (g : Nat) (cb : Array Value) (blk off cap n : Nat) (d0 d : Array α) (w0 w : World)
    (eg : ∀ args w, (callFunc g args).run Try.prog w = .ok (.enter g args) w) (hcmp : CmpLays1 Try.prog g cb enc cf blk off d0.size w0) (R : Row1 enc w0 blk off d0) (hs : d0.size = n) (hd : d.size = n) (S : SW enc w0 blk off d w)
    (hn : n ≤ 100000) (hpl : ∀ q, q < n → pl d[q]! = q) :
    Calls Try.prog 54 #[.slice (some ⟨blk, off, none⟩) n cap, .int .i64 n, .func (.func g) #[] cb] w fun e w' => e = .returned (.tuple #[]) ∧ ∃ d', SW enc w0 blk off d' w' ∧ PermIn 0 n d d' ∧ SortedIn lt 0 n d' := by
  have HIN : Aside (∀ (a b : Nat) (dk : Array α) (wk : World), dk.size = n → SW enc w0 blk off dk wk → a ≤ b → b ≤ n →
      Calls Try.prog 65 #[.slice (some ⟨blk, off, none⟩) n cap, .int .i64 a, .int .i64 b, .func (.func g) #[] cb] wk fun e w' => e = .returned (.tuple #[]) ∧ SW enc w0 blk off (Sort.insertionSort (ltOf cf) dk a b) w') := by
    intro a b dk wk h1 h2 h3 h4
    have := Any.insertionSortCmpFunc_s Try.insI enc cf g cb blk off cap a b d0 dk w0 wk eg hcmp R (by omega) h2 h3 (by omega) (by omega)
    rw [h1] at this
    exact this
  have HMG : Aside (∀ (a m b : Nat) (dk : Array α) (wk : World), MergeC enc cf lt (.func (.func g) #[] cb) blk off cap n w0 a m b dk wk) :=
    fun a m b dk wk => symMerge_any enc cf lt hS g cb blk off cap n d0 w0 eg hcmp R hs (by omega) (b - a) a m b dk wk (Nat.le_refl _)
  have S0 : Aside (SW enc w0 blk off d w) := S
  have HLC : Aside (∀ x y, pl y < pl x → ltOf cf x y = lt x y) := hlc
  have HSO : Aside (SWO lt) := hS
  have B0 : Aside (Blk lt pl n d 20 0 0) := fun p _ _ h => by omega
  have Q0 : Aside (∀ q, 0 ≤ q → q < n → pl d[q]! = q) := fun q _ h => hpl q h
  have P0 : Aside (PermIn 0 n d d) := permIn_refl _ _ _
  have HD : Aside (d.size = n) := hd
  clear S hcmp R hs hd hpl hlc hS eg
  go_enter Try.func54, Try.ntmps54
  go_wp2_with fail
  go_loopg [7, 8] n (fun gk u v wr => ∃ (a b : Nat) (dk : Array α), u = .int .i64 a ∧ v = .int .i64 b ∧ b = a + 20 ∧ gk + a = n ∧ Aside (20 ∣ a) ∧ Aside (SW enc w0 blk off dk wr) ∧ Aside (Blk lt pl n dk 20 0 a) ∧ Aside (∀ q, a ≤ q → q < n → pl dk[q]! = q) ∧ Aside (PermIn 0 n d dk))
  case atStart => exact ⟨0, 20, d, rfl, rfl, rfl, by omega, (show 20 ∣ 0 from Nat.dvd_zero _), S0, B0, Q0, P0⟩
  case round =>
    clear S0 B0 Q0 P0
    obtain ⟨a, b, dk, rfl, rfl, hab, hg, HDV, S1, B1, Q1, P1⟩ := hrel
    have HAB : Aside (b = a + 20) := hab
    have HG : Aside (gk + a = n) := hg
    have han : a ≤ n := by omega
    have hab2 : a ≤ b := by omega
    by_cases hbn : b ≤ n
    · have hz : (b : Int) ≤ (n : Int) := by omega
      have HCa : Aside _ := HIN.out a b dk wr (P1.out.1.trans HD.out) S1.out hab2 hbn
      have hI := blk_ins (lt := lt) (pl := pl) HSO.out (s := 20) (a := a) (b := b) (d := dk) (n := n) (by decide) HDV.out (by omega) (by have := P1.out.1; have := HD.out; omega) han B1.out Q1.out
      rw [← ins_same (lc := ltOf cf) HLC.out (by have := P1.out.1; have := HD.out; omega) (fun q h1 h2 => Q1.out q h1 (by omega))] at hI
      have B2 : Aside _ := hI.1
      have Q2 : Aside _ := hI.2.1
      have P2 : Aside (PermIn 0 n d (Sort.insertionSort (ltOf cf) dk a b)) := permIn_trans _ _ _ _ _ P1.out (permIn_mono _ _ a b 0 n (Nat.zero_le _) hbn (by have := P1.out.1; have := HD.out; omega) hI.2.2)
      have DV2 : Aside (20 ∣ b) := by have := HDV.out; rw [HAB.out]; exact (Nat.dvd_add_right this).2 (Nat.dvd_refl 20)
      generalize Sort.insertionSort (ltOf cf) dk a b = d2 at *
      clear hI S1 hab hg
      go_wp2_with fail
      refine Calls.mono HCa.out ?_
      rintro e w1 ⟨rfl, k1⟩
      have S2 : Aside (SW enc w0 blk off d2 w1) := k1
      clear k1 HCa
      go_wp2
      go_roundg (n - b)
      case measure => have h1 := HG.out; have h2 := HAB.out; omega
      case rel => exact ⟨b, b + 20, d2, rfl, by go_num, rfl, by omega, DV2, S2, B2, Q2, P2⟩
    · have hz : ¬ (b : Int) ≤ (n : Int) := by omega
      have HCa : Aside _ := HIN.out a n dk wr (P1.out.1.trans HD.out) S1.out han (Nat.le_refl _)
      have hI := blk_ins (lt := lt) (pl := pl) HSO.out (s := 20) (a := a) (b := n) (d := dk) (n := n) (by decide) HDV.out (by omega) (by have := P1.out.1; have := HD.out; omega) han B1.out Q1.out
      rw [← ins_same (lc := ltOf cf) HLC.out (by have := P1.out.1; have := HD.out; omega) (fun q h1 h2 => Q1.out q h1 h2)] at hI
      have B2 : Aside _ := hI.1
      have P2 : Aside (PermIn 0 n d (Sort.insertionSort (ltOf cf) dk a n)) := permIn_trans _ _ _ _ _ P1.out (permIn_mono _ _ a n 0 n (Nat.zero_le _) (Nat.le_refl _) (by have := P1.out.1; have := HD.out; omega) hI.2.2)
      generalize Sort.insertionSort (ltOf cf) dk a n = d2 at *
      clear hI S1 hab hg
      go_wp2_with fail
      refine Calls.mono HCa.out ?_
      rintro e w1 ⟨rfl, k1⟩
      have S2 : Aside (SW enc w0 blk off d2 w1) := k1
      clear k1 HCa
      go_wp2_with fail
      go_loopg [6] n (fun gk u wr => ∃ (s : Nat) (dk : Array α), u = .int .i64 s ∧ 20 ≤ s ∧ s ≤ 2 * n + 20 ∧ n ≤ gk + s ∧ Aside (SW enc w0 blk off dk wr) ∧ Aside (Blk lt pl n dk s 0 n) ∧ Aside (PermIn 0 n d dk))
      case atStart => exact ⟨20, d2, rfl, by omega, by omega, by omega, S2, B2, P2⟩
      case round =>
        clear S2 B2 P2
        obtain ⟨s, d3, rfl, hs20, hs2, hg3, S3, B3, P3⟩ := hrel
        by_cases hsn : s < n
        · have hz3 : (s : Int) < (n : Int) := by omega
          have x2 : IntKind.i64.wrap (2 * (s : Int)) = 2 * (s : Int) := by rw [IntKind.wrap_i64]; omega
          have B4 : Aside (Blk lt pl n d3 (2 * s) 0 0) := fun p _ _ h => by omega
          have HG3 : Aside (n ≤ gk + s) := hg3
          clear hg3
          go_wp2_with fail
          go_loopg [7, 8] n (fun gk u v wr => ∃ (a b : Nat) (dk : Array α), u = .int .i64 a ∧ v = .int .i64 b ∧ b = a + 2 * s ∧ a ≤ n ∧ gk = n - a ∧ Aside (2 * s ∣ a) ∧ Aside (SW enc w0 blk off dk wr) ∧ Aside (Blk lt pl n dk (2 * s) 0 a) ∧ Aside (Blk lt pl n dk s a n) ∧ Aside (PermIn 0 n d dk))
          case atStart => exact ⟨0, 2 * s, d3, rfl, by go_num, by omega, by omega, by omega, (show 2 * s ∣ 0 from Nat.dvd_zero _), S3, B4, B3, P3⟩
          case round =>
            clear S3 B3 B4 P3
            obtain ⟨a2, b2, d4, rfl, rfl, hb2, ha2, hg4, DV, S4, B5, B6, P4⟩ := hrel
            have HB2 : Aside (b2 = a2 + 2 * s) := hb2
            have HG4 : Aside (gk = n - a2) := hg4
            have DV1 : Aside (s ∣ a2) := Nat.dvd_trans ⟨2, by omega⟩ DV.out
            have y1 : b2 ≤ 1000000 := by omega
            by_cases hb2n : b2 ≤ n
            · have hz4 : (b2 : Int) ≤ (n : Int) := by omega
              have hsz : n ≤ d4.size := by have := P4.out.1; have := HD.out; omega
              obtain ⟨c1, c2, c3, c4⟩ := blk_pre (lc := ltOf cf) (lt := lt) HLC.out (n := n) (d := d4) (s := s) (a := a2) (m := a2 + s) (b := b2) (by omega) DV1.out rfl (by omega) (by omega) B6.out
              have HCa : Aside _ := HMG.out a2 (a2 + s) b2 d4 wr (by omega) (by omega) hb2n (P4.out.1.trans HD.out) S4.out c1 c2 c4
              have C3 : Aside _ := c3
              have ZS : Aside ((a2 : Int) + (s : Int) = ((a2 + s : Nat) : Int)) := by show _ = _; omega
              clear c1 c2 c3 c4 S4 hb2 hg4 hsz
              go_wp2_with fail
              rw [ZS.out]
              refine Calls.mono HCa.out ?_
              rintro e w1 ⟨rfl, d5, k1, k2, k3⟩
              have S5 : Aside (SW enc w0 blk off d5 w1) := k1
              have hM := blk_merge (lt := lt) (pl := pl) (n := n) (d := d4) (d' := d5) (s := s) (a := a2) (b := b2) (by omega) DV.out (by have := HB2.out; omega) (by have := HB2.out; omega) (by have := P4.out.1; have := HD.out; omega) B5.out B6.out k2 k3 C3.out
              have B7 : Aside (Blk lt pl n d5 (2 * s) 0 b2) := hM.1
              have B8 : Aside (Blk lt pl n d5 s b2 n) := hM.2 HB2.out
              have P5 : Aside (PermIn 0 n d d5) := permIn_trans _ _ _ _ _ P4.out (permIn_mono _ _ a2 b2 0 n (Nat.zero_le _) hb2n (by have := P4.out.1; have := HD.out; omega) k2)
              have DV2 : Aside (2 * s ∣ b2) := by rw [HB2.out]; exact (Nat.dvd_add_right DV.out).2 (Nat.dvd_refl _)
              clear k1 k2 k3 hM HCa ZS C3
              go_wp2
              go_roundg (n - b2)
              case measure => have h1 := HG4.out; have h2 := HB2.out; omega
              case rel => exact ⟨b2, b2 + 2 * s, d5, rfl, by go_num, rfl, hb2n, rfl, DV2, S5, B7, B8, P5⟩
            · have hz4 : ¬ (b2 : Int) ≤ (n : Int) := by omega
              by_cases hmn : a2 + s < n
              · have hz5 : (a2 : Int) + (s : Int) < (n : Int) := by omega
                obtain ⟨c1, c2, c3, c4⟩ := blk_pre (lc := ltOf cf) (lt := lt) HLC.out (n := n) (d := d4) (s := s) (a := a2) (m := a2 + s) (b := n) (by omega) DV1.out rfl hmn (by omega) B6.out
                have HCa : Aside _ := HMG.out a2 (a2 + s) n d4 wr (by omega) hmn (Nat.le_refl _) (P4.out.1.trans HD.out) S4.out c1 c2 c4
                have C3 : Aside _ := c3
                have ZS : Aside ((a2 : Int) + (s : Int) = ((a2 + s : Nat) : Int)) := by show _ = _; omega
                clear c1 c2 c3 c4 S4 hb2 hg4
                go_wp2_with fail
                rw [ZS.out]
                refine Calls.mono HCa.out ?_
                rintro e w1 ⟨rfl, d5, k1, k2, k3⟩
                have S5 : Aside (SW enc w0 blk off d5 w1) := k1
                have hM := blk_merge (lt := lt) (pl := pl) (n := n) (d := d4) (d' := d5) (s := s) (a := a2) (b := n) (by omega) DV.out (by have := HB2.out; omega) (by omega) (by have := P4.out.1; have := HD.out; omega) B5.out B6.out k2 k3 C3.out
                have B7 : Aside (Blk lt pl n d5 (s * 2) 0 n) := by rw [Nat.mul_comm]; exact hM.1
                have P5 : Aside (PermIn 0 n d d5) := permIn_trans _ _ _ _ _ P4.out (permIn_mono _ _ a2 n 0 n (Nat.zero_le _) (Nat.le_refl _) (by have := P4.out.1; have := HD.out; omega) k2)
                clear k1 k2 k3 hM HCa ZS C3
                go_wp2
                go_roundg (n - s * 2)
                case measure => have h1 := HG3.out; omega
                case rel => exact ⟨s * 2, d5, by go_num, by omega, by omega, by omega, S5, B7, P5⟩
              · have hz5 : ¬ (a2 : Int) + (s : Int) < (n : Int) := by omega
                have B7 : Aside (Blk lt pl n d4 (s * 2) 0 n) := by rw [Nat.mul_comm]; exact blk_alone (by omega) DV.out (by omega) B5.out B6.out
                clear hb2 hg4
                go_wp2
                go_roundg (n - s * 2)
                case measure => have h1 := HG3.out; omega
                case rel => exact ⟨s * 2, d4, by go_num, by omega, by omega, by omega, S4, B7, P4⟩
        · have hz3 : ¬ (s : Int) < (n : Int) := by omega
          have F : Aside (SortedIn lt 0 n d3) := blk_all B3.out (by omega)
          go_wp2
          go_end0
          exact ⟨rfl, d3, S3.out, P3.out, F.out⟩

set_option maxHeartbeats 1000000 in
set_option maxRecDepth 100000 in
theorem stable_any (enc : α → Value) (cf : α → α → Int) (lt : α → α → Bool) (pl : α → Nat) (hS : SWO lt) (hlc : ∀ x y, pl y < pl x → ltOf cf x y = lt x y) (g : Nat) (cb : Array Value) (blk off cap n : Nat) (d0 d : Array α) (w0 w : World)
    (eg : ∀ args w, (callFunc g args).run Try.prog w = .ok (.enter g args) w) (hcmp : CmpLays1 Try.prog g cb enc cf blk off d0.size w0) (R : Row1 enc w0 blk off d0) (hs : d0.size = n) (hd : d.size = n) (S : SW enc w0 blk off d w)
    (hn : n ≤ 100000) (hpl : ∀ q, q < n → pl d[q]! = q) :
    Calls Try.prog 46 #[.slice (some ⟨blk, off, none⟩) n cap, .func (.func g) #[] cb] w fun e w' => e = .returned (.tuple #[]) ∧ ∃ d', SW enc w0 blk off d' w' ∧ PermIn 0 n d d' ∧ SortedIn lt 0 n d' := by
  have HI := Lib.hid (cmpStable_any enc cf lt pl hS hlc g cb blk off cap n d0 d w0 w eg hcmp R hs hd S hn hpl)
  clear S R hs hd hpl hlc hS eg hcmp
  go_enter Try.func46, Try.ntmps46
  go_wp2_with fail
  refine HI.out.mono ?_
  rintro e w1 ⟨rfl, hs⟩
  have HS := Lib.hid hs
  clear hs
  go_wp2
  go_end0
  exact ⟨rfl, HS.out⟩
end Go.Proofs.Ytkapidcgonjbaaa
