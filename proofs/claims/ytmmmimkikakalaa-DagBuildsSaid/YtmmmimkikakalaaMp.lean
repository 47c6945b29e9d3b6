/- built: walk. -/
import Derived.Test.YtmmmimkikakalaaMo
namespace Go.Proofs.Ytmmmimkikakalaa
open Go.RowKit Go.Maps
set_option linter.unusedVariables false

theorem RnAt.grown {w w' : World} {b o mb n : Nat} {D : DataW Unit} {x : RN} (h : RnAt w b o x) (ho : w.ownsMap Try.prog 24 nodR mb n D) (hg : w.grownBy w' (some mb)) : RnAt w' b o x := by
  have hl : b < w.heap.size := h.f.lt
  have hne : some b ≠ some mb := fun hh => by
    cases hh
    obtain ⟨es, clock, hb, _⟩ := ho
    obtain ⟨_, cc, e, fr, hcc, _⟩ := h.f
    simp only at hcc
    rw [hb] at hcc
    cases hcc
  have e := hg.block b hl hne
  have hc : ∀ j, w'.cell? ⟨b, j, none⟩ = w.cell? ⟨b, j, none⟩ := fun j => by unfold World.cell?; rw [e]
  exact ⟨fits_of_block (a := ⟨b, o, none⟩) e h.f, fits_of_block (a := ⟨b, o, none⟩) e h.kf, (aggAt_of_block (a := ⟨b, o, none⟩) e).trans h.ka, (hc _).trans h.p, (hc _).trans h.s⟩

set_option maxHeartbeats 4000000 in
set_option maxRecDepth 100000 in
theorem built_any (p : Option Addr) (c : Nat) (L : List GN) (w : World) (hlen : L.length ≤ 1000) (hps : ∀ g ∈ L, g.2.1.length ≤ 1000000) (hL : RefG w p L) :
    Calls Try.prog 10 #[.slice p L.length c] w fun e w' => ∃ gb mb p' c', e = .returned (.tuple #[.pointer (some ⟨gb, 0, none⟩), .slice p' (builtG L).length c', .bool true]) ∧
      w.heap.size ≤ gb ∧ w.heap.size ≤ mb ∧ gb ≠ mb ∧ GraphAt w' gb mb (builtG L) ∧ RefG w' p' (builtG L) ∧ (p' = none → builtG L = [] ∧ c' = 0) ∧ Below w.heap.size w w' := by
  have HLN := Lib.hid hlen
  have HPS := Lib.hid hps
  have HX := Lib.hid hL
  clear hL hps hlen
  go_enter Try.func10, Try.ntmps10
  go_wp2_with fail
  refine (new_any w).mono ?_
  rintro e w1 ⟨gb, mb, rfl, hgb, hmb, hne, hga, hb1⟩
  have HGB := Lib.hid hgb
  have HMB := Lib.hid hmb
  have HNE := Lib.hid hne
  have HGA := Lib.hid hga
  have HB1 := Lib.hid hb1
  clear hgb hmb hne hga hb1
  go_wp2_with fail
  go_loopg [6, 7] L.length (fun g v6 v7 wr => ∃ (k : Nat) (p' : Option Addr) (c' : Nat), g + k = L.length ∧ v6 = .slice p' (builtG (L.take k)).length c' ∧ v7 = .int .i64 k ∧ GraphAt wr gb mb (builtG (L.take k)) ∧ RefG wr p' (builtG (L.take k)) ∧ (p' = none → builtG (L.take k) = [] ∧ c' = 0) ∧ Below w.heap.size w wr)
  case atStart => exact ⟨0, none, 0, by omega, rfl, rfl, HGA.out, ⟨[], rfl, ⟨fun _ h => (by cases h), .inl rfl⟩, fun i hi => (by simp [builtG] at hi)⟩, fun _ => ⟨rfl, rfl⟩, HB1.out⟩
  case round =>
    obtain ⟨k, p', c', hg, rfl, rfl, hga, href, hpn, hbw⟩ := hrel
    have HG := Lib.hid hg
    have HGR := Lib.hid hga
    have HRR := Lib.hid href
    have HPN := Lib.hid hpn
    have HB := Lib.hid hbw
    clear hg hga href hpn hbw
    by_cases hk : k < L.length
    · have HK := Lib.hid hk
      obtain ⟨b, off, a, c1, y, ps, st, rfl, hlt, hget, h32, hat, hsl⟩ := (HX.out.below HB.out).at hk
      have HGT := Lib.hid hget
      have HY := Lib.hid h32
      have HAT := Lib.hid hat
      have HSLR := Lib.hid hsl
      have HPL := Lib.hid (show ps.length ≤ 1000000 from HPS.out _ (List.mem_of_getElem? hget))
      have HGL := Lib.hid (show (builtG (L.take k)).length ≤ 1000 from by have := builtG_len L k; have := HLN.out; omega)
      have HBT := Lib.hid (show builtG (L.take (k + 1)) = addG (builtG (L.take k)) y ps st from builtG_take L hget)
      generalize builtG (L.take k) = G at *
      have i1 : (k : Int) < L.length := by omega
      have q9 : b < wr.heap.size := hlt
      obtain ⟨D, n, hng, ho, hgd⟩ := HGR.out.map
      have HOM := Lib.hid ho
      clear hget hat hsl ho hgd h32
      go_upto_region 6 with fail
      refine wp_region_specs2 [[], [], [], [1, 2], [3], [4], [], [], [6, 7], [8], [9], [10], [], [], [12, 13], [14], [15], [0, 5, 11, 16], [17]] [some 18, some 19, some 20, some 21, some 22, some 23, some 24, some 25, some 26, some 27, some 28, some 29, some 30, some 31, some 32, some 33, some 34, some 35, some 8] [0, 1, 2, 3, 4, 5, 6, 7, 8, 9, 10, 11, 12, 13, 14, 15, 16, 17, 18]
        (fun w_ => wr.grownBy w_ (some mb)) (fun i w_ => i = 17 → Below wr.heap.size wr w_) (fun j w_ w_' => if j = 17 then w_.grownBy w_' (some mb) ∧ (∃ n D, w_.ownsMap Try.prog 24 nodR mb n D) else Below w_.heap.size w_ w_')
        (fun ix_ => [eqv (.pointer (some ⟨gb, 0, none⟩)), eqv (.slice (some ⟨b, off, none⟩) L.length c), eqv (.int .i64 k), eqv (.pointer (some ⟨b, off + k * 34, none⟩)), eqv (.pointer (some ⟨b, off + k * 34, none⟩)), eqv (.agg (idB y)), eqv (.slice (some ⟨b, off, none⟩) L.length c), eqv (.int .i64 k), eqv (.pointer (some ⟨b, off + k * 34, none⟩)), eqv (.pointer (some ⟨b, off + k * 34 + 32, none⟩)), eqv (.slice a ps.length c1), fun v w_ => SlI w_ v ps, eqv (.slice (some ⟨b, off, none⟩) L.length c), eqv (.int .i64 k), eqv (.pointer (some ⟨b, off + k * 34, none⟩)), eqv (.pointer (some ⟨b, off + k * 34 + 33, none⟩)), eqv (.int .i64 st), fun v w_ => v = .int .i64 (addE G y ps) ∧ GraphAt w_ gb mb (addG G y ps st), eqv (.int .i64 (addE G y ps))].getD ix_ anyv)
        (by kernel_rfl) (by kernel_rfl) (grown_of_below (below_drewN (Below.refl _ _) 1)) (fun i _ => below_drewN (Below.refl _ _) 1) ?_ ?_ ?_ ?_ ?_
      · intro j w_ w_' hg hr
        try dsimp only at hr
        split at hr
        · exact grown_trans hg hr.1
        · exact grown_trans hg (grown_of_below hr)
      · intro i j w_ w_' hij hd hp hr hi
        try dsimp only at hr
        have hj : j ≠ 17 := fun h => hij (hi.trans h.symm)
        rw [if_neg hj] at hr
        exact (hp hi).trans (hr.mono (hp hi).size)
      · intro i j v w_ w_' hij hd h hr
        try dsimp only at hr
        have hsl : ∀ v A, SlI w_ v A → SlI w_' v A := fun v A hh => by
          split at hr
          · obtain ⟨hg, n, D, ho⟩ := hr
            exact slI_map ho hg hh
          · exact hh.below hr
        match i, hij, hd, h with
        | 0, _, _, h => exact h
        | 1, _, _, h => exact h
        | 2, _, _, h => exact h
        | 3, _, _, h => exact h
        | 4, _, _, h => exact h
        | 5, _, _, h => exact h
        | 6, _, _, h => exact h
        | 7, _, _, h => exact h
        | 8, _, _, h => exact h
        | 9, _, _, h => exact h
        | 10, _, _, h => exact h
        | 11, _, _, h => exact hsl _ _ h
        | 12, _, _, h => exact h
        | 13, _, _, h => exact h
        | 14, _, _, h => exact h
        | 15, _, _, h => exact h
        | 16, _, _, h => exact h
        | 17, hij, _, h => rw [if_neg (fun e => hij e.symm)] at hr; exact ⟨h.1, GraphAt.below h.2 hr⟩
        | 18, _, _, h => exact h
        | i + 19, _, _, h => exact trivial
      · refine ⟨?_, ?_, ?_, ?_, ?_, ?_, ?_, ?_, ?_, ?_, ?_, ?_, ?_, ?_, ?_, ?_, ?_, ?_, ?_, trivial⟩
        · intro vs wq hG hP hd
          simp only [putL]
          clear hd hP hG 
          go_wp2
          exact ⟨rfl, rfl, Below.refl _ _, rfl⟩
        · intro vs wq hG hP hd
          simp only [putL]
          clear hd hP hG 
          go_wp2
          exact ⟨rfl, rfl, Below.refl _ _, rfl⟩
        · intro vs wq hG hP hd
          simp only [putL]
          clear hd hP hG 
          go_wp2
          exact ⟨rfl, rfl, Below.refl _ _, rfl⟩
        · intro vs wq hG hP hd
          have h1 := hd.get 1 rfl
          change vs 1 = _ at h1
          have h2 := hd.get 2 rfl
          change vs 2 = _ at h2
          simp only [putL, h1, h2]
          clear hd hP hG h1 h2
          go_wp2
          exact ⟨rfl, rfl, Below.refl _ _, rfl⟩
        · intro vs wq hG hP hd
          have h3 := hd.get 3 rfl
          change vs 3 = _ at h3
          simp only [putL, h3]
          clear hd hP hG h3
          go_wp2
          exact ⟨rfl, rfl, Below.refl _ _, rfl⟩
        · intro vs wq hG hP hd
          have h4 := hd.get 4 rfl
          change vs 4 = _ at h4
          have hat := HAT.out.grown HOM.out hG
          have n1 := hat.kf
          have n2 := hat.ka
          simp only [putL, h4]
          clear hat hd hP hG h4
          go_wp2
          exact ⟨rfl, rfl, Below.refl _ _, rfl⟩
        · intro vs wq hG hP hd
          simp only [putL]
          clear hd hP hG 
          go_wp2
          exact ⟨rfl, rfl, Below.refl _ _, rfl⟩
        · intro vs wq hG hP hd
          simp only [putL]
          clear hd hP hG 
          go_wp2
          exact ⟨rfl, rfl, Below.refl _ _, rfl⟩
        · intro vs wq hG hP hd
          have h6 := hd.get 6 rfl
          change vs 6 = _ at h6
          have h7 := hd.get 7 rfl
          change vs 7 = _ at h7
          simp only [putL, h6, h7]
          clear hd hP hG h6 h7
          go_wp2
          exact ⟨rfl, rfl, Below.refl _ _, rfl⟩
        · intro vs wq hG hP hd
          have h8 := hd.get 8 rfl
          change vs 8 = _ at h8
          simp only [putL, h8]
          clear hd hP hG h8
          go_wp2
          exact ⟨rfl, rfl, Below.refl _ _, rfl⟩
        · intro vs wq hG hP hd
          have h9 := hd.get 9 rfl
          change vs 9 = _ at h9
          have hat := HAT.out.grown HOM.out hG
          have n1 := hat.p
          simp only [putL, h9]
          clear hat hd hP hG h9
          go_wp2
          exact ⟨rfl, rfl, Below.refl _ _, rfl⟩
        · intro vs wq hG hP hd
          have h10 := hd.get 10 rfl
          change vs 10 = _ at h10
          obtain ⟨a', c', he', _, _, hi', hn'⟩ := slI_map HOM.out hG HSLR.out
          obtain ⟨rfl, _, rfl⟩ := Value.slice.inj he'
          have HI := Lib.hid hi'
          have HN := Lib.hid hn'
          simp only [putL, h10]
          clear hd hP hG h10 hi' hn' he'
          go_wp2_with fail
          refine (copy_any a c1 ps wq HPL.out HI.out HN.out).mono ?_
          rintro e w1 ⟨v, rfl, hr1, hb1⟩
          have HS1 := Lib.hid (SlI_row HI.out.1 hr1)
          have HB1 := Lib.hid hb1
          clear hr1 hb1
          go_wp2
          exact ⟨rfl, rfl, HB1.out, HS1.out⟩
        · intro vs wq hG hP hd
          simp only [putL]
          clear hd hP hG 
          go_wp2
          exact ⟨rfl, rfl, Below.refl _ _, rfl⟩
        · intro vs wq hG hP hd
          simp only [putL]
          clear hd hP hG 
          go_wp2
          exact ⟨rfl, rfl, Below.refl _ _, rfl⟩
        · intro vs wq hG hP hd
          have h12 := hd.get 12 rfl
          change vs 12 = _ at h12
          have h13 := hd.get 13 rfl
          change vs 13 = _ at h13
          simp only [putL, h12, h13]
          clear hd hP hG h12 h13
          go_wp2
          exact ⟨rfl, rfl, Below.refl _ _, rfl⟩
        · intro vs wq hG hP hd
          have h14 := hd.get 14 rfl
          change vs 14 = _ at h14
          simp only [putL, h14]
          clear hd hP hG h14
          go_wp2
          exact ⟨rfl, rfl, Below.refl _ _, rfl⟩
        · intro vs wq hG hP hd
          have h15 := hd.get 15 rfl
          change vs 15 = _ at h15
          have hat := HAT.out.grown HOM.out hG
          have n1 := hat.s
          simp only [putL, h15]
          clear hat hd hP hG h15
          go_wp2
          exact ⟨rfl, rfl, Below.refl _ _, rfl⟩
        · intro vs wq hG hP hd
          have h0 := hd.get 0 rfl
          change vs 0 = _ at h0
          have h5 := hd.get 5 rfl
          change vs 5 = _ at h5
          have h16 := hd.get 16 rfl
          change vs 16 = _ at h16
          have hb := hP rfl
          obtain ⟨a9, c9, h11, hh1, hh2, hh3, hh4⟩ := hd.get 11 rfl
          have HS := Lib.hid (show SlI wq (.slice a9 ps.length c9) ps from ⟨a9, c9, rfl, hh1, hh2, hh3, hh4⟩)
          have HGQ := Lib.hid (HGR.out.below hb)
          have HOQ := Lib.hid (ownsMap_below HOM.out hb)
          simp only [putL, h0, h5, h11, h16]
          clear hd hP hG h0 h5 h11 h16 hb hh1 hh2 hh3 hh4
          go_wp2_with fail
          refine (add_any gb mb HNE.out G y HY.out a9 c9 ps st wq HGL.out HPL.out HGQ.out HS.out).mono ?_
          rintro e w1 ⟨rfl, hg1, hga⟩
          have HG1 := Lib.hid hg1
          have HGA := Lib.hid hga
          clear hg1 hga
          go_wp2
          exact ⟨rfl, rfl, ⟨HG1.out, _, _, HOQ.out⟩, rfl, HGA.out⟩
        · intro vs wq hG hP hd
          obtain ⟨h17, _⟩ := hd.get 17 rfl
          simp only [putL, h17]
          clear hd hP hG h17
          go_wp2
          exact ⟨rfl, rfl, Below.refl _ _, rfl⟩
      intro vs wz hG hd
      have h18 := hd.get 18 rfl
      change vs 18 = _ at h18
      obtain ⟨_, hgz⟩ := hd.get 17 rfl
      have HGZ := Lib.hid (show GraphAt wz gb mb (addG G y ps st) from hgz)
      have HATZ := Lib.hid (HAT.out.grown HOM.out hG)
      have HSLZ := Lib.hid (slI_map HOM.out hG HSLR.out)
      have HRZ := Lib.hid (refG_map HOM.out hG HRR.out)
      have HBZ := Lib.hid (HB.out.grown hG HB.out.size (fun k hk => by cases hk; exact HMB.out))
      have q9 : b < wz.heap.size := HATZ.out.f.lt
      simp only [putL, List.getD_cons_zero, List.getD_cons_succ, Act.put, List.setIfInBounds_toArray, List.set_cons_zero, List.set_cons_succ, h18]
      clear hd hG h18 hgz
      generalize vs 0 = z0 at *
      generalize vs 1 = z1 at *
      generalize vs 2 = z2 at *
      generalize vs 3 = z3 at *
      generalize vs 4 = z4 at *
      generalize vs 5 = z5 at *
      generalize vs 6 = z6 at *
      generalize vs 7 = z7 at *
      generalize vs 8 = z8 at *
      generalize vs 9 = z9 at *
      generalize vs 10 = z10 at *
      generalize vs 11 = z11 at *
      generalize vs 12 = z12 at *
      generalize vs 13 = z13 at *
      generalize vs 14 = z14 at *
      generalize vs 15 = z15 at *
      generalize vs 16 = z16 at *
      generalize vs 17 = z17 at *
      go_upto_region 7 with fail
      refine wp_region_specs2 [[], [], [], [1, 2], [3], [4], [], [], [6, 7], [8], [9], [], [], [11, 12], [13], [14], [0, 5, 10, 15], [16], [17], [17], [18], [19]] [some 37, some 38, some 39, some 40, some 41, some 42, some 43, some 44, some 45, some 46, some 47, some 48, some 49, some 50, some 51, some 52, some 53, some 36, some 54, some 55, some 9, some 10] [0, 1, 2, 3, 4, 5, 6, 7, 8, 9, 10, 11, 12, 13, 14, 15, 16, 17, 18, 19, 20, 21]
        (fun w_ => Below wz.heap.size wz w_) (fun i w_ => True) (fun j w_ w_' => Below w_.heap.size w_ w_')
        (fun ix_ => [eqv (.slice p' G.length c'), eqv (.slice (some ⟨b, off, none⟩) L.length c), eqv (.int .i64 k), eqv (.pointer (some ⟨b, off + k * 34, none⟩)), eqv (.pointer (some ⟨b, off + k * 34, none⟩)), eqv (.agg (idB y)), eqv (.slice (some ⟨b, off, none⟩) L.length c), eqv (.int .i64 k), eqv (.pointer (some ⟨b, off + k * 34, none⟩)), eqv (.pointer (some ⟨b, off + k * 34 + 32, none⟩)), eqv (.slice a ps.length c1), eqv (.slice (some ⟨b, off, none⟩) L.length c), eqv (.int .i64 k), eqv (.pointer (some ⟨b, off + k * 34, none⟩)), eqv (.pointer (some ⟨b, off + k * 34 + 33, none⟩)), eqv (.int .i64 st), fun v w_ => ∃ p2 c2, v = .tuple #[.slice p2 (addG G y ps st).length c2, .int .i64 (addE G y ps)] ∧ RefG w_ p2 (addG G y ps st) ∧ (p2 = none → addG G y ps st = [] ∧ c2 = 0), fun v w_ => ∃ p2 c2, v = .tuple #[.slice p2 (addG G y ps st).length c2, .int .i64 (addE G y ps)] ∧ RefG w_ p2 (addG G y ps st) ∧ (p2 = none → addG G y ps st = [] ∧ c2 = 0), fun v w_ => ∃ p2 c2, v = .slice p2 (addG G y ps st).length c2 ∧ RefG w_ p2 (addG G y ps st) ∧ (p2 = none → addG G y ps st = [] ∧ c2 = 0), eqv (.int .i64 (addE G y ps)), fun v w_ => ∃ p2 c2, v = .slice p2 (addG G y ps st).length c2 ∧ RefG w_ p2 (addG G y ps st) ∧ (p2 = none → addG G y ps st = [] ∧ c2 = 0), eqv (.int .i64 (addE G y ps))].getD ix_ anyv)
        (by kernel_rfl) (by kernel_rfl) (below_drewN (Below.refl _ _) 1) (fun _ => trivial) (fun j w_ w_' hg hr => hg.trans (hr.mono hg.size)) ?_ ?_ ?_ ?_
      · exact fun _ _ _ _ _ _ _ _ => trivial
      · intro i j v w_ w_' hij hd h hr
        match i, hij, hd, h with
        | 0, _, _, h => exact h
        | 1, _, _, h => exact h
        | 2, _, _, h => exact h
        | 3, _, _, h => exact h
        | 4, _, _, h => exact h
        | 5, _, _, h => exact h
        | 6, _, _, h => exact h
        | 7, _, _, h => exact h
        | 8, _, _, h => exact h
        | 9, _, _, h => exact h
        | 10, _, _, h => exact h
        | 11, _, _, h => exact h
        | 12, _, _, h => exact h
        | 13, _, _, h => exact h
        | 14, _, _, h => exact h
        | 15, _, _, h => exact h
        | 16, _, _, h => exact let ⟨p2, c2, h1, h2, h3⟩ := h; ⟨p2, c2, h1, h2.below hr, h3⟩
        | 17, _, _, h => exact let ⟨p2, c2, h1, h2, h3⟩ := h; ⟨p2, c2, h1, h2.below hr, h3⟩
        | 18, _, _, h => exact let ⟨p2, c2, h1, h2, h3⟩ := h; ⟨p2, c2, h1, h2.below hr, h3⟩
        | 19, _, _, h => exact h
        | 20, _, _, h => exact let ⟨p2, c2, h1, h2, h3⟩ := h; ⟨p2, c2, h1, h2.below hr, h3⟩
        | 21, _, _, h => exact h
        | i + 22, _, _, h => exact trivial
      · refine ⟨?_, ?_, ?_, ?_, ?_, ?_, ?_, ?_, ?_, ?_, ?_, ?_, ?_, ?_, ?_, ?_, ?_, ?_, ?_, ?_, ?_, ?_, trivial⟩
        · intro vs wq hG hP hd
          simp only [putL]
          clear hd hP hG 
          go_wp2
          exact ⟨rfl, rfl, Below.refl _ _, rfl⟩
        · intro vs wq hG hP hd
          simp only [putL]
          clear hd hP hG 
          go_wp2
          exact ⟨rfl, rfl, Below.refl _ _, rfl⟩
        · intro vs wq hG hP hd
          simp only [putL]
          clear hd hP hG 
          go_wp2
          exact ⟨rfl, rfl, Below.refl _ _, rfl⟩
        · intro vs wq hG hP hd
          have h1 := hd.get 1 rfl
          change vs 1 = _ at h1
          have h2 := hd.get 2 rfl
          change vs 2 = _ at h2
          simp only [putL, h1, h2]
          clear hd hP hG h1 h2
          go_wp2
          exact ⟨rfl, rfl, Below.refl _ _, rfl⟩
        · intro vs wq hG hP hd
          have h3 := hd.get 3 rfl
          change vs 3 = _ at h3
          simp only [putL, h3]
          clear hd hP hG h3
          go_wp2
          exact ⟨rfl, rfl, Below.refl _ _, rfl⟩
        · intro vs wq hG hP hd
          have h4 := hd.get 4 rfl
          change vs 4 = _ at h4
          have hat := HATZ.out.below hG
          have n1 := hat.kf
          have n2 := hat.ka
          simp only [putL, h4]
          clear hat hd hP hG h4
          go_wp2
          exact ⟨rfl, rfl, Below.refl _ _, rfl⟩
        · intro vs wq hG hP hd
          simp only [putL]
          clear hd hP hG 
          go_wp2
          exact ⟨rfl, rfl, Below.refl _ _, rfl⟩
        · intro vs wq hG hP hd
          simp only [putL]
          clear hd hP hG 
          go_wp2
          exact ⟨rfl, rfl, Below.refl _ _, rfl⟩
        · intro vs wq hG hP hd
          have h6 := hd.get 6 rfl
          change vs 6 = _ at h6
          have h7 := hd.get 7 rfl
          change vs 7 = _ at h7
          simp only [putL, h6, h7]
          clear hd hP hG h6 h7
          go_wp2
          exact ⟨rfl, rfl, Below.refl _ _, rfl⟩
        · intro vs wq hG hP hd
          have h8 := hd.get 8 rfl
          change vs 8 = _ at h8
          simp only [putL, h8]
          clear hd hP hG h8
          go_wp2
          exact ⟨rfl, rfl, Below.refl _ _, rfl⟩
        · intro vs wq hG hP hd
          have h9 := hd.get 9 rfl
          change vs 9 = _ at h9
          have hat := HATZ.out.below hG
          have n1 := hat.p
          simp only [putL, h9]
          clear hat hd hP hG h9
          go_wp2
          exact ⟨rfl, rfl, Below.refl _ _, rfl⟩
        · intro vs wq hG hP hd
          simp only [putL]
          clear hd hP hG 
          go_wp2
          exact ⟨rfl, rfl, Below.refl _ _, rfl⟩
        · intro vs wq hG hP hd
          simp only [putL]
          clear hd hP hG 
          go_wp2
          exact ⟨rfl, rfl, Below.refl _ _, rfl⟩
        · intro vs wq hG hP hd
          have h11 := hd.get 11 rfl
          change vs 11 = _ at h11
          have h12 := hd.get 12 rfl
          change vs 12 = _ at h12
          simp only [putL, h11, h12]
          clear hd hP hG h11 h12
          go_wp2
          exact ⟨rfl, rfl, Below.refl _ _, rfl⟩
        · intro vs wq hG hP hd
          have h13 := hd.get 13 rfl
          change vs 13 = _ at h13
          simp only [putL, h13]
          clear hd hP hG h13
          go_wp2
          exact ⟨rfl, rfl, Below.refl _ _, rfl⟩
        · intro vs wq hG hP hd
          have h14 := hd.get 14 rfl
          change vs 14 = _ at h14
          have hat := HATZ.out.below hG
          have n1 := hat.s
          simp only [putL, h14]
          clear hat hd hP hG h14
          go_wp2
          exact ⟨rfl, rfl, Below.refl _ _, rfl⟩
        · intro vs wq hG hP hd
          have h0 := hd.get 0 rfl
          change vs 0 = _ at h0
          have h5 := hd.get 5 rfl
          change vs 5 = _ at h5
          have h10 := hd.get 10 rfl
          change vs 10 = _ at h10
          have h15 := hd.get 15 rfl
          change vs 15 = _ at h15
          have HRQ := Lib.hid (HRZ.out.below hG)
          have HSQ := Lib.hid (HSLZ.out.below hG)
          simp only [putL, h0, h5, h10, h15]
          clear hd hP hG h0 h5 h10 h15
          go_wp2_with fail
          refine (radd_any p' c' G y HY.out a c1 ps st wq HGL.out HPL.out HRQ.out HPN.out HSQ.out).mono ?_
          rintro e w2 ⟨p2, c2, rfl, hr2, hn2, hb2⟩
          have HR2 := Lib.hid hr2
          have HN2 := Lib.hid hn2
          have HB2 := Lib.hid hb2
          clear hr2 hn2 hb2
          go_wp2
          exact ⟨rfl, rfl, HB2.out, p2, c2, rfl, HR2.out, HN2.out⟩
        · intro vs wq hG hP hd
          obtain ⟨p2, c2, h16, hh1, hh2⟩ := hd.get 16 rfl
          have HH1 := Lib.hid hh1
          have HH2 := Lib.hid hh2
          simp only [putL, h16]
          clear hd hP hG h16 hh1 hh2
          go_wp2
          exact ⟨rfl, rfl, Below.refl _ _, p2, c2, rfl, HH1.out, HH2.out⟩
        · intro vs wq hG hP hd
          obtain ⟨p2, c2, h17, hh1, hh2⟩ := hd.get 17 rfl
          have HH1 := Lib.hid hh1
          have HH2 := Lib.hid hh2
          simp only [putL, h17]
          clear hd hP hG h17 hh1 hh2
          go_wp2
          exact ⟨rfl, rfl, Below.refl _ _, p2, c2, rfl, HH1.out, HH2.out⟩
        · intro vs wq hG hP hd
          obtain ⟨p2, c2, h17, hh1, hh2⟩ := hd.get 17 rfl
          have HH1 := Lib.hid hh1
          have HH2 := Lib.hid hh2
          simp only [putL, h17]
          clear hd hP hG h17 hh1 hh2
          go_wp2
          exact ⟨rfl, rfl, Below.refl _ _, rfl⟩
        · intro vs wq hG hP hd
          obtain ⟨p2, c2, h18, hh1, hh2⟩ := hd.get 18 rfl
          have HH1 := Lib.hid hh1
          have HH2 := Lib.hid hh2
          simp only [putL, h18]
          clear hd hP hG h18 hh1 hh2
          go_wp2
          exact ⟨rfl, rfl, Below.refl _ _, p2, c2, rfl, HH1.out, HH2.out⟩
        · intro vs wq hG hP hd
          have h19 := hd.get 19 rfl
          change vs 19 = _ at h19
          simp only [putL, h19]
          clear hd hP hG h19
          go_wp2
          exact ⟨rfl, rfl, Below.refl _ _, rfl⟩
      intro vs wy hG hd
      have h21 := hd.get 21 rfl
      change vs 21 = _ at h21
      obtain ⟨p2, c2, h20, hr2, hn2⟩ := hd.get 20 rfl
      have HR2 := Lib.hid (show RefG wy p2 (addG G y ps st) from hr2)
      have HN2 := Lib.hid hn2
      have HGY := Lib.hid (HGZ.out.below hG)
      have HBY := Lib.hid (HBZ.out.trans (hG.mono HBZ.out.size))
      simp only [putL, List.getD_cons_zero, List.getD_cons_succ, Act.put, List.setIfInBounds_toArray, List.set_cons_zero, List.set_cons_succ, h20, h21]
      clear hd hG h20 h21 hr2 hn2
      generalize vs 0 = x0 at *
      generalize vs 1 = x1 at *
      generalize vs 2 = x2 at *
      generalize vs 3 = x3 at *
      generalize vs 4 = x4 at *
      generalize vs 5 = x5 at *
      generalize vs 6 = x6 at *
      generalize vs 7 = x7 at *
      generalize vs 8 = x8 at *
      generalize vs 9 = x9 at *
      generalize vs 10 = x10 at *
      generalize vs 11 = x11 at *
      generalize vs 12 = x12 at *
      generalize vs 13 = x13 at *
      generalize vs 14 = x14 at *
      generalize vs 15 = x15 at *
      generalize vs 16 = x16 at *
      generalize vs 17 = x17 at *
      generalize vs 18 = x18 at *
      generalize vs 19 = x19 at *
      generalize hee : addE G y ps = ee at *
      have i7 : (ee != ee) = false := by simp
      have i8 : (L.length : Int) ≤ 1000 := by have := HLN.out; omega
      go_wp2
      go_roundg (gk - 1)
      case measure => have := HG.out; have := HK.out; omega
      case rel => have hq : (k : Int) + 1 ≤ 1000 := (by have := HLN.out; have := HK.out; omega); exact ⟨k + 1, p2, c2, by have := HG.out; have := HK.out; omega, by rw [HBT.out], by go_num, by rw [HBT.out]; exact HGY.out, by rw [HBT.out]; exact HR2.out, by rw [HBT.out]; exact HN2.out, HBY.out⟩
    · have HE := Lib.hid (show L.take k = L from List.take_of_length_le (show L.length ≤ k from Nat.le_of_not_lt hk))
      rw [HE.out] at HGR HRR HPN
      rw [HE.out]
      go_wp2
      go_ret3
      exact ⟨gb, mb, p', c', rfl, HGB.out, HMB.out, HNE.out, HGR.out, HRR.out, HPN.out, HB.out⟩
end Go.Proofs.Ytmmmimkikakalaa
