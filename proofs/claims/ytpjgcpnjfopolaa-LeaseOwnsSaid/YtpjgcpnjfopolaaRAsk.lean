/-
  THE REFERENCE's Ask.
-/
import Derived.Test.YtpjgcpnjfopolaaROver
namespace Go.Proofs.Ytpjgcpnjfopolaa
open Go.RowKit Go.Deep
theorem othB_cell {g : Int → Int → Option (Bool × Int)} {c i k : Int} {own o : Bool} {til : Int} (h : ∀ p, g i k = some p → o = p.1 ∧ til = p.2) : othB g c i own k = (k != c && ((g i k).isSome && (own || o))) := by
  unfold othB
  cases hg : g i k with
  | none => rfl
  | some p => rw [(h p hg).1]; rfl
set_option maxRecDepth 100000 in
set_option maxHeartbeats 1000000 in
theorem rask_bad {w : World} {b : Nat} (now c i : Int) (own : Bool) (hbad : badAsk now c i = true) : Calls Try.prog 20 #[.pointer (some ⟨b, 0, none⟩), .int .i64 now, .int .i64 c, .int .i64 i, .bool own] w fun e w' =>
    e = .returned (.tuple #[.slice none 0 0, .int .i64 1]) ∧ w = w' := by
  have hor : now < 0 ∨ (¬ now < 0 ∧ 1099511627776 < now) ∨ (¬ now < 0 ∧ ¬ 1099511627776 < now ∧ c < 1) ∨ (¬ now < 0 ∧ ¬ 1099511627776 < now ∧ ¬ c < 1 ∧ 8 < c) ∨ (¬ now < 0 ∧ ¬ 1099511627776 < now ∧ ¬ c < 1 ∧ ¬ 8 < c ∧ i < 1) ∨ (¬ now < 0 ∧ ¬ 1099511627776 < now ∧ ¬ c < 1 ∧ ¬ 8 < c ∧ ¬ i < 1 ∧ 32 < i) := by
    simp [badAsk, inB] at hbad
    omega
  clear hbad
  rcases hor with h1 | ⟨h1, h2⟩ | ⟨h1, h2, h3⟩ | ⟨h1, h2, h3, h4⟩ | ⟨h1, h2, h3, h4, h5⟩ | ⟨h1, h2, h3, h4, h5, h6⟩
  all_goals
    go_enter Try.func20, Try.ntmps20
    go_wp2_with fail
    go_ret2
    exact ⟨rfl, rfl⟩
set_option maxRecDepth 100000 in
set_option maxHeartbeats 4000000 in
theorem rask_A {w : World} {b g x y : Nat} {s : Tab} (h : TR w b g x y s) (now : Int) (c k : Nat) (own : Bool) (hk : 1 ≤ k ∧ k ≤ 32) (hc : 1 ≤ c ∧ c ≤ 8) (hnow : 0 ≤ now ∧ now ≤ 1099511627776) (hw0 : s.wc k = 0) : Calls Try.prog 20 #[.pointer (some ⟨b, 0, none⟩), .int .i64 now, .int .i64 c, .int .i64 k, .bool own] w fun e w' =>
    ∃ v, e = .returned (.tuple #[v, .int .i64 (ask s now c k own).2.1]) ∧ w'.ownsRow w.heap.size 3 1 v (ask s now c k own).1.length ((ask s now c k own).1.map (Value.int .i64)) ∧ TR w' b g x y (ask s now c k own).2.2 ∧ Fr (RK b g x y) w w' := by
  have hbad : badAsk now c k = false := by simp [badAsk, inB]; omega
  have HT := Lib.hid h
  have hbl := h.lt
  obtain ⟨ax, hax, hxs, hx⟩ := h.wx
  obtain ⟨ay, hay, hys, hy⟩ := h.wy
  obtain ⟨t, hyt, ut⟩ := hy k hk.2
  have HU := Lib.hid (And.intro hax (And.intro (hx k hk.2) (And.intro hay hyt)))
  have hano : anoB s now c k = false := by
    unfold anoB
    simp [hw0]
  obtain ⟨k1, k2⟩ := hk
  obtain ⟨n1, n2⟩ := hnow
  obtain ⟨c1, c2⟩ := hc
  have m1 : ¬ now < 0 := by omega
  have m2 : ¬ 1099511627776 < now := by omega
  have m3 : ¬ (c : Int) < 1 := by omega
  have m4 : ¬ 8 < (c : Int) := by omega
  have m5 : ¬ (k : Int) < 1 := by omega
  have m6 : ¬ 32 < (k : Int) := by omega
  have b0 : (0 : Int) ≤ 9 * (k : Int) + (c : Int) := by omega
  have b1 : 9 * (k : Int) + (c : Int) < 297 := by omega
  have q0 : (s.wc (k : Int) != 0) = false := by simp [hw0]
  have q2 : (s.wc (k : Int) == (c : Int)) = false := by simp [hw0]; omega
  have HK := Lib.hid (And.intro (And.intro k1 k2) (And.intro c1 c2))
  clear hax hxs hx hay hys hy hyt ut h
  generalize hwc : s.wc (k : Int) = wc at *
  have HWC := Lib.hid hwc
  have HBAD := Lib.hid hbad
  have HANO := Lib.hid hano
  clear hwc hbad hano
  go_enter Try.func20, Try.ntmps20
  go_wp2_with fail
  go_loopw [12, 13] (fun v z wr => ∃ j : Nat, 1 ≤ j ∧ j ≤ 9 ∧ z = .int .i64 j ∧ wr.ownsRow w.heap.size 3 1 v (cln (othB s.g c k own) (j - 1)).length ((cln (othB s.g c k own) (j - 1)).map (Value.int .i64)) ∧ Below w.heap.size w wr) (fun _ z _ => 9 - (intOf z).toNat)
  case atStart => exact ⟨1, Nat.le_refl _, by omega, rfl, World.ownsRow_nil _ _ _ _, Below.refl _ _⟩
  case round =>
    obtain ⟨j, hj1, hj, rfl, hown, hbel⟩ := hrel
    have HO := Lib.hid hown
    have HB := Lib.hid hbel
    have HT1 := Lib.hid (HT.out.below hbel)
    have hwz : w.heap.size ≤ wr.heap.size := hbel.size
    by_cases hlt : j < 9
    · have hlt' : (j : Int) ≤ 8 := by omega
      obtain ⟨arr, ha, hsz, hg⟩ := HT1.out.gr
      obtain ⟨o, til, g0, g1, g2, g3⟩ := hg k j k2 (by omega)
      have hs := clj_succ (othB s.g c k own) j hj1 (by omega)
      rw [othB_cell g3] at hs
      have HS := Lib.hid (And.intro hs (cln_len (othB s.g c k own) (j - 1) (by omega)))
      have d0 := blk_cell ha g0
      have d1 := blk_cell ha g1
      have d2 := blk_cell ha g2
      have c0 := blk_cell (j := 0) HT1.out.blk rfl
      have bj0 : (0 : Int) ≤ 9 * (k : Int) + (j : Int) := by omega
      have bj1 : 9 * (k : Int) + (j : Int) < 297 := by omega
      clear ha hsz hg g0 g1 g2 g3 hs hown hbel
      generalize (s.g (k : Int) (j : Int)).isSome = si at *
      have hb1 : Below w.heap.size w (wr.alloc (.cells #[.bool si, .bool o, .int .i64 til] 66)) := HB.out.alloc hwz _
      have HB1 := Lib.hid hb1
      have HO1 := Lib.hid (HO.out.alloc (.cells #[.bool si, .bool o, .int .i64 til] 66))
      clear hb1
      by_cases hjc : (j : Int) = (c : Int)
      · have q : ((j : Int) != (c : Int)) = false := by simpa using hjc
        clear hjc
        go_wp2_with fail
        refine ⟨⟨j + 1, by omega, by omega, by go_num, ?_, HB1.out⟩, by simp [intOf]; omega⟩
        rw [HS.out.1, q]
        simpa using HO1.out
      · have q : ((j : Int) != (c : Int)) = true := by simpa using hjc
        clear hjc
        cases si
        · go_wp2_with fail
          refine ⟨⟨j + 1, by omega, by omega, by go_num, ?_, HB1.out⟩, by simp [intOf]; omega⟩
          rw [HS.out.1, q]
          simpa using HO1.out
        · cases own
          · cases o
            · go_wp2_with fail
              refine ⟨⟨j + 1, by omega, by omega, by go_num, ?_, HB1.out⟩, by simp [intOf]; omega⟩
              rw [HS.out.1, q]
              simpa using HO1.out
            · go_wp2_with (at_builtin; refine wpl_appg rfl _ _ rfl rfl HO1.out (by simp; omega) rfl (by simp) (by have := HS.out.2; omega) ?_; intro v3 w3 ho3 hg3; have HO3 := Lib.hid (And.intro ho3 hg3); clear ho3 hg3)
              refine ⟨⟨j + 1, by omega, by omega, by go_num, ?_, HB1.out.grown HO3.out.2 HB1.out.size fun k hk => (HO1.out.lt k hk).1⟩, by simp [intOf]; omega⟩
              rw [HS.out.1, q]
              simpa using HO3.out.1
          · go_wp2_with (at_builtin; refine wpl_appg rfl _ _ rfl rfl HO1.out (by simp; omega) rfl (by simp) (by have := HS.out.2; omega) ?_; intro v3 w3 ho3 hg3; have HO3 := Lib.hid (And.intro ho3 hg3); clear ho3 hg3)
            refine ⟨⟨j + 1, by omega, by omega, by go_num, ?_, HB1.out.grown HO3.out.2 HB1.out.size fun k hk => (HO1.out.lt k hk).1⟩, by simp [intOf]; omega⟩
            rw [HS.out.1, q]
            simpa using HO3.out.1
    · obtain rfl : j = 9 := by omega
      have hlt' : ¬ ((9 : Nat) : Int) ≤ 8 := by omega
      have hcl : cln (othB s.g c k own) (9 - 1) = oth s.g c k own := cln_all _
      rw [hcl] at hown HO
      clear hcl
      have hax1 := blk_below hbel hbl.2.2.1 HU.out.1
      have hay1 := blk_below hbel hbl.2.2.2 HU.out.2.2.1
      have u0 := blk_cell hax1 HU.out.2.1
      have u1 := blk_cell hay1 HU.out.2.2.2
      have z1 := frozen_of_row wr x k _ _ hax1
      have z2 := frozen_of_row wr y k _ _ hay1
      have e0 := blk_cell (j := 0) HT1.out.blk rfl
      have e1 := blk_cell (j := 1) HT1.out.blk rfl
      have e2 := blk_cell (j := 2) HT1.out.blk rfl
      have hne := HT1.out.ne
      obtain ⟨hn1, hn2, hn3, hn4, hn5, hn6⟩ := hne
      clear hax1 hay1
      by_cases hl : oth s.g c k own = []
      · have HA : ask s now c k own = ([], 0, s.setG k c (some (own, now + 64))) := by
          unfold ask
          rw [if_neg (by rw [HBAD.out]; decide), if_pos hl, HANO.out]
          simp only [Bool.false_eq_true, if_false]
          rw [if_neg (by rw [HWC.out]; simpa using q2)]
        have HAA := Lib.hid HA
        clear HA
        rw [hl] at hown HO
        clear hl hbel
        simp only [List.length_nil, List.map_nil] at HO hown
        obtain ⟨Av, cv, rfl, _⟩ := own_shape hown
        clear hown
        obtain ⟨arr, ha, hsz, hg⟩ := HT1.out.gr
        obtain ⟨o, til, g0, g1, g2, _⟩ := hg k c k2 c2
        have d0 := blk_cell ha g0
        have d1 := blk_cell ha g1
        have d2 := blk_cell ha g2
        have y0 := frozen_of_row wr g ((9 * k + c) * 3) _ _ ha
        have y1 := frozen_of_row wr g ((9 * k + c) * 3 + 1) _ _ ha
        have y2 := frozen_of_row wr g ((9 * k + c) * 3 + 2) _ _ ha
        have hG := HT1.out.setG k c HK.out.1 HK.out.2 (some (own, now + 64)) own (now + 64) (fun q hq => by injection hq with hq; rw [← hq]; exact ⟨rfl, rfl⟩)
        simp only [Option.isSome_some] at hG
        have HG := Lib.hid hG
        have HF := Lib.hid ((((Fr.of_below (S := RK b g x y) HB.out).setCell (b := g) (i := (9 * k + c) * 3) (.inl (.inr (.inl rfl))) (.bool true)).setCell (b := g) (i := (9 * k + c) * 3 + 1) (.inl (.inr (.inl rfl))) (.bool own)).setCell (b := g) (i := (9 * k + c) * 3 + 2) (.inl (.inr (.inl rfl))) (.int .i64 (now + 64)))
        clear ha hsz hg g0 g1 g2 hG
        generalize (s.g (k : Int) (c : Int)).isSome = si at *
        go_wp2_with fail
        go_ret2
        rw [HAA.out]
        dsimp only
        exact ⟨_, rfl, World.ownsRow_nil _ _ _ _, HG.out, HF.out⟩
      · have HA : ask s now c k own = (oth s.g c k own, 32, s.setW k c (now + 64)) := by
          unfold ask
          rw [if_neg (by rw [HBAD.out]; decide), if_neg hl, HANO.out]
          simp only [Bool.false_eq_true, if_false]

        have HAA := Lib.hid HA
        clear HA
        have hlen : 0 < (oth s.g c k own).length := List.length_pos_iff.2 hl
        clear hl hbel
        obtain ⟨Av, cv, rfl, _⟩ := own_shape hown
        clear hown
        generalize hn : (oth s.g (c : Int) (k : Int) own).length = n at *
        have HN := Lib.hid hn
        clear hn
        have HW := Lib.hid (HT1.out.setW k HK.out.1 c (now + 64) (by omega) (by have := HK.out.2; omega))
        go_wp2_with fail
        go_ret2
        rw [HAA.out]
        dsimp only
        refine ⟨_, rfl, ?_, HW.out, ((Fr.of_below (S := RK b g x y) HB.out).setCell (b := x) (i := k) (.inl (.inr (.inr (.inl rfl)))) _).setCell (b := y) (i := k) (.inl (.inr (.inr (.inr rfl)))) _⟩
        rw [HN.out]
        refine (HO.out.kept (only_setCell (g := x) ⟨rfl, rfl, rfl, Nat.le_refl _, fun _ _ _ => rfl⟩ _) (.inr ?_)).kept (only_setCell (g := y) ⟨rfl, rfl, rfl, Nat.le_refl _, fun _ _ _ => rfl⟩ _) (.inr ?_)
        · intro e; have := (HO.out.lt _ e).1; omega
        · intro e; have := (HO.out.lt _ e).1; omega
set_option maxRecDepth 100000 in
set_option maxHeartbeats 4000000 in
theorem rask_B {w : World} {b g x y : Nat} {s : Tab} (h : TR w b g x y s) (now : Int) (c k : Nat) (own : Bool) (hk : 1 ≤ k ∧ k ≤ 32) (hc : 1 ≤ c ∧ c ≤ 8) (hnow : 0 ≤ now ∧ now ≤ 1099511627776) (hw0 : s.wc k = c) : Calls Try.prog 20 #[.pointer (some ⟨b, 0, none⟩), .int .i64 now, .int .i64 c, .int .i64 k, .bool own] w fun e w' =>
    ∃ v, e = .returned (.tuple #[v, .int .i64 (ask s now c k own).2.1]) ∧ w'.ownsRow w.heap.size 3 1 v (ask s now c k own).1.length ((ask s now c k own).1.map (Value.int .i64)) ∧ TR w' b g x y (ask s now c k own).2.2 ∧ Fr (RK b g x y) w w' := by
  have hbad : badAsk now c k = false := by simp [badAsk, inB]; omega
  have HT := Lib.hid h
  have hbl := h.lt
  obtain ⟨ax, hax, hxs, hx⟩ := h.wx
  obtain ⟨ay, hay, hys, hy⟩ := h.wy
  obtain ⟨t, hyt, ut⟩ := hy k hk.2
  have HU := Lib.hid (And.intro hax (And.intro (hx k hk.2) (And.intro hay hyt)))
  have hano : anoB s now c k = false := by
    unfold anoB
    simp [hw0]
  obtain ⟨k1, k2⟩ := hk
  obtain ⟨n1, n2⟩ := hnow
  obtain ⟨c1, c2⟩ := hc
  have m1 : ¬ now < 0 := by omega
  have m2 : ¬ 1099511627776 < now := by omega
  have m3 : ¬ (c : Int) < 1 := by omega
  have m4 : ¬ 8 < (c : Int) := by omega
  have m5 : ¬ (k : Int) < 1 := by omega
  have m6 : ¬ 32 < (k : Int) := by omega
  have b0 : (0 : Int) ≤ 9 * (k : Int) + (c : Int) := by omega
  have b1 : 9 * (k : Int) + (c : Int) < 297 := by omega
  have q0 : (s.wc (k : Int) != 0) = true := by simp; omega
  have q1 : (s.wc (k : Int) != (c : Int)) = false := by simp [hw0]
  have q2 : (s.wc (k : Int) == (c : Int)) = true := by simp [hw0]
  clear hw0
  have HK := Lib.hid (And.intro (And.intro k1 k2) (And.intro c1 c2))
  clear hax hxs hx hay hys hy hyt ut h
  generalize hwc : s.wc (k : Int) = wc at *
  have HWC := Lib.hid hwc
  have HBAD := Lib.hid hbad
  have HANO := Lib.hid hano
  clear hwc hbad hano
  go_enter Try.func20, Try.ntmps20
  go_wp2_with fail
  go_loopw [12, 13] (fun v z wr => ∃ j : Nat, 1 ≤ j ∧ j ≤ 9 ∧ z = .int .i64 j ∧ wr.ownsRow w.heap.size 3 1 v (cln (othB s.g c k own) (j - 1)).length ((cln (othB s.g c k own) (j - 1)).map (Value.int .i64)) ∧ Below w.heap.size w wr) (fun _ z _ => 9 - (intOf z).toNat)
  case atStart => exact ⟨1, Nat.le_refl _, by omega, rfl, World.ownsRow_nil _ _ _ _, Below.refl _ _⟩
  case round =>
    obtain ⟨j, hj1, hj, rfl, hown, hbel⟩ := hrel
    have HO := Lib.hid hown
    have HB := Lib.hid hbel
    have HT1 := Lib.hid (HT.out.below hbel)
    have hwz : w.heap.size ≤ wr.heap.size := hbel.size
    by_cases hlt : j < 9
    · have hlt' : (j : Int) ≤ 8 := by omega
      obtain ⟨arr, ha, hsz, hg⟩ := HT1.out.gr
      obtain ⟨o, til, g0, g1, g2, g3⟩ := hg k j k2 (by omega)
      have hs := clj_succ (othB s.g c k own) j hj1 (by omega)
      rw [othB_cell g3] at hs
      have HS := Lib.hid (And.intro hs (cln_len (othB s.g c k own) (j - 1) (by omega)))
      have d0 := blk_cell ha g0
      have d1 := blk_cell ha g1
      have d2 := blk_cell ha g2
      have c0 := blk_cell (j := 0) HT1.out.blk rfl
      have bj0 : (0 : Int) ≤ 9 * (k : Int) + (j : Int) := by omega
      have bj1 : 9 * (k : Int) + (j : Int) < 297 := by omega
      clear ha hsz hg g0 g1 g2 g3 hs hown hbel
      generalize (s.g (k : Int) (j : Int)).isSome = si at *
      have hb1 : Below w.heap.size w (wr.alloc (.cells #[.bool si, .bool o, .int .i64 til] 66)) := HB.out.alloc hwz _
      have HB1 := Lib.hid hb1
      have HO1 := Lib.hid (HO.out.alloc (.cells #[.bool si, .bool o, .int .i64 til] 66))
      clear hb1
      by_cases hjc : (j : Int) = (c : Int)
      · have q : ((j : Int) != (c : Int)) = false := by simpa using hjc
        clear hjc
        go_wp2_with fail
        refine ⟨⟨j + 1, by omega, by omega, by go_num, ?_, HB1.out⟩, by simp [intOf]; omega⟩
        rw [HS.out.1, q]
        simpa using HO1.out
      · have q : ((j : Int) != (c : Int)) = true := by simpa using hjc
        clear hjc
        cases si
        · go_wp2_with fail
          refine ⟨⟨j + 1, by omega, by omega, by go_num, ?_, HB1.out⟩, by simp [intOf]; omega⟩
          rw [HS.out.1, q]
          simpa using HO1.out
        · cases own
          · cases o
            · go_wp2_with fail
              refine ⟨⟨j + 1, by omega, by omega, by go_num, ?_, HB1.out⟩, by simp [intOf]; omega⟩
              rw [HS.out.1, q]
              simpa using HO1.out
            · go_wp2_with (at_builtin; refine wpl_appg rfl _ _ rfl rfl HO1.out (by simp; omega) rfl (by simp) (by have := HS.out.2; omega) ?_; intro v3 w3 ho3 hg3; have HO3 := Lib.hid (And.intro ho3 hg3); clear ho3 hg3)
              refine ⟨⟨j + 1, by omega, by omega, by go_num, ?_, HB1.out.grown HO3.out.2 HB1.out.size fun k hk => (HO1.out.lt k hk).1⟩, by simp [intOf]; omega⟩
              rw [HS.out.1, q]
              simpa using HO3.out.1
          · go_wp2_with (at_builtin; refine wpl_appg rfl _ _ rfl rfl HO1.out (by simp; omega) rfl (by simp) (by have := HS.out.2; omega) ?_; intro v3 w3 ho3 hg3; have HO3 := Lib.hid (And.intro ho3 hg3); clear ho3 hg3)
            refine ⟨⟨j + 1, by omega, by omega, by go_num, ?_, HB1.out.grown HO3.out.2 HB1.out.size fun k hk => (HO1.out.lt k hk).1⟩, by simp [intOf]; omega⟩
            rw [HS.out.1, q]
            simpa using HO3.out.1
    · obtain rfl : j = 9 := by omega
      have hlt' : ¬ ((9 : Nat) : Int) ≤ 8 := by omega
      have hcl : cln (othB s.g c k own) (9 - 1) = oth s.g c k own := cln_all _
      rw [hcl] at hown HO
      clear hcl
      have hax1 := blk_below hbel hbl.2.2.1 HU.out.1
      have hay1 := blk_below hbel hbl.2.2.2 HU.out.2.2.1
      have u0 := blk_cell hax1 HU.out.2.1
      have u1 := blk_cell hay1 HU.out.2.2.2
      have z1 := frozen_of_row wr x k _ _ hax1
      have z2 := frozen_of_row wr y k _ _ hay1
      have e0 := blk_cell (j := 0) HT1.out.blk rfl
      have e1 := blk_cell (j := 1) HT1.out.blk rfl
      have e2 := blk_cell (j := 2) HT1.out.blk rfl
      have hne := HT1.out.ne
      obtain ⟨hn1, hn2, hn3, hn4, hn5, hn6⟩ := hne
      clear hax1 hay1
      by_cases hl : oth s.g c k own = []
      · have HA : ask s now c k own = ([], 0, (s.setW k 0 0).setG k c (some (own, now + 64))) := by
          unfold ask
          rw [if_neg (by rw [HBAD.out]; decide), if_pos hl, HANO.out]
          simp only [Bool.false_eq_true, if_false]
          rw [if_pos (by rw [HWC.out]; simpa using q2)]
        have HAA := Lib.hid HA
        clear HA
        rw [hl] at hown HO
        clear hl hbel
        simp only [List.length_nil, List.map_nil] at HO hown
        obtain ⟨Av, cv, rfl, _⟩ := own_shape hown
        clear hown
        have hW := HT1.out.noW k HK.out.1.2
        have f0 := blk_cell (j := 0) hW.blk rfl
        have HW := Lib.hid hW
        clear hW
        obtain ⟨arr, ha, hsz, hg⟩ := HW.out.gr
        obtain ⟨o, til, g0, g1, g2, _⟩ := hg k c k2 c2
        have d0 := blk_cell ha g0
        have d1 := blk_cell ha g1
        have d2 := blk_cell ha g2
        have y0 := frozen_of_row (wr.setCell ⟨x, k, none⟩ (.int .i64 0)) g ((9 * k + c) * 3) _ _ ha
        have y1 := frozen_of_row (wr.setCell ⟨x, k, none⟩ (.int .i64 0)) g ((9 * k + c) * 3 + 1) _ _ ha
        have y2 := frozen_of_row (wr.setCell ⟨x, k, none⟩ (.int .i64 0)) g ((9 * k + c) * 3 + 2) _ _ ha
        have hG := HW.out.setG k c HK.out.1 HK.out.2 (some (own, now + 64)) own (now + 64) (fun q hq => by injection hq with hq; rw [← hq]; exact ⟨rfl, rfl⟩)
        simp only [Option.isSome_some] at hG
        have HG := Lib.hid hG
        have HF := Lib.hid (((((Fr.of_below (S := RK b g x y) HB.out).setCell (b := x) (i := k) (.inl (.inr (.inr (.inl rfl)))) (.int .i64 0)).setCell (b := g) (i := (9 * k + c) * 3) (.inl (.inr (.inl rfl))) (.bool true)).setCell (b := g) (i := (9 * k + c) * 3 + 1) (.inl (.inr (.inl rfl))) (.bool own)).setCell (b := g) (i := (9 * k + c) * 3 + 2) (.inl (.inr (.inl rfl))) (.int .i64 (now + 64)))
        clear ha hsz hg g0 g1 g2 hG
        generalize ((s.setW (k : Int) 0 0).g (k : Int) (c : Int)).isSome = si at *
        go_wp2_with fail
        go_ret2
        rw [HAA.out]
        dsimp only
        exact ⟨_, rfl, World.ownsRow_nil _ _ _ _, HG.out, HF.out⟩
      · have HA : ask s now c k own = (oth s.g c k own, 32, s.setW k c (now + 64)) := by
          unfold ask
          rw [if_neg (by rw [HBAD.out]; decide), if_neg hl, HANO.out]
          simp only [Bool.false_eq_true, if_false]

        have HAA := Lib.hid HA
        clear HA
        have hlen : 0 < (oth s.g c k own).length := List.length_pos_iff.2 hl
        clear hl hbel
        obtain ⟨Av, cv, rfl, _⟩ := own_shape hown
        clear hown
        generalize hn : (oth s.g (c : Int) (k : Int) own).length = n at *
        have HN := Lib.hid hn
        clear hn
        have HW := Lib.hid (HT1.out.setW k HK.out.1 c (now + 64) (by omega) (by have := HK.out.2; omega))
        go_wp2_with fail
        go_ret2
        rw [HAA.out]
        dsimp only
        refine ⟨_, rfl, ?_, HW.out, ((Fr.of_below (S := RK b g x y) HB.out).setCell (b := x) (i := k) (.inl (.inr (.inr (.inl rfl)))) _).setCell (b := y) (i := k) (.inl (.inr (.inr (.inr rfl)))) _⟩
        rw [HN.out]
        refine (HO.out.kept (only_setCell (g := x) ⟨rfl, rfl, rfl, Nat.le_refl _, fun _ _ _ => rfl⟩ _) (.inr ?_)).kept (only_setCell (g := y) ⟨rfl, rfl, rfl, Nat.le_refl _, fun _ _ _ => rfl⟩ _) (.inr ?_)
        · intro e; have := (HO.out.lt _ e).1; omega
        · intro e; have := (HO.out.lt _ e).1; omega
set_option maxRecDepth 100000 in
set_option maxHeartbeats 4000000 in
theorem rask_C {w : World} {b g x y : Nat} {s : Tab} (h : TR w b g x y s) (now : Int) (c k : Nat) (own : Bool) (hk : 1 ≤ k ∧ k ≤ 32) (hc : 1 ≤ c ∧ c ≤ 8) (hnow : 0 ≤ now ∧ now ≤ 1099511627776) (hw0 : s.wc k ≠ 0) (hw1 : s.wc k ≠ c) (hw2 : now < s.wt k) : Calls Try.prog 20 #[.pointer (some ⟨b, 0, none⟩), .int .i64 now, .int .i64 c, .int .i64 k, .bool own] w fun e w' =>
    ∃ v, e = .returned (.tuple #[v, .int .i64 (ask s now c k own).2.1]) ∧ w'.ownsRow w.heap.size 3 1 v (ask s now c k own).1.length ((ask s now c k own).1.map (Value.int .i64)) ∧ TR w' b g x y (ask s now c k own).2.2 ∧ Fr (RK b g x y) w w' := by
  have hbad : badAsk now c k = false := by simp [badAsk, inB]; omega
  have HT := Lib.hid h
  have hbl := h.lt
  obtain ⟨ax, hax, hxs, hx⟩ := h.wx
  obtain ⟨ay, hay, hys, hy⟩ := h.wy
  obtain ⟨t, hyt, ut⟩ := hy k hk.2
  have HU := Lib.hid (And.intro hax (And.intro (hx k hk.2) (And.intro hay hyt)))
  have hano : anoB s now c k = true := by
    unfold anoB
    simp [hw0, hw1, hw2]
  obtain ⟨k1, k2⟩ := hk
  obtain ⟨n1, n2⟩ := hnow
  obtain ⟨c1, c2⟩ := hc
  have m1 : ¬ now < 0 := by omega
  have m2 : ¬ 1099511627776 < now := by omega
  have m3 : ¬ (c : Int) < 1 := by omega
  have m4 : ¬ 8 < (c : Int) := by omega
  have m5 : ¬ (k : Int) < 1 := by omega
  have m6 : ¬ 32 < (k : Int) := by omega
  have b0 : (0 : Int) ≤ 9 * (k : Int) + (c : Int) := by omega
  have b1 : 9 * (k : Int) + (c : Int) < 297 := by omega
  have q0 : (s.wc (k : Int) != 0) = true := by simp [hw0]
  have q1 : (s.wc (k : Int) != (c : Int)) = true := by simp [hw1]
  have q2 : (s.wc (k : Int) == (c : Int)) = false := by simp [hw1]
  have q3 : now < t := by rw [ut hw0]; exact hw2
  clear hw0 hw1 hw2
  have HK := Lib.hid (And.intro (And.intro k1 k2) (And.intro c1 c2))
  clear hax hxs hx hay hys hy hyt ut h
  generalize hwc : s.wc (k : Int) = wc at *
  have HWC := Lib.hid hwc
  have HBAD := Lib.hid hbad
  have HANO := Lib.hid hano
  clear hwc hbad hano
  go_enter Try.func20, Try.ntmps20
  go_wp2_with fail
  go_loopw [12, 13] (fun v z wr => ∃ j : Nat, 1 ≤ j ∧ j ≤ 9 ∧ z = .int .i64 j ∧ wr.ownsRow w.heap.size 3 1 v (cln (othB s.g c k own) (j - 1)).length ((cln (othB s.g c k own) (j - 1)).map (Value.int .i64)) ∧ Below w.heap.size w wr) (fun _ z _ => 9 - (intOf z).toNat)
  case atStart => exact ⟨1, Nat.le_refl _, by omega, rfl, World.ownsRow_nil _ _ _ _, Below.refl _ _⟩
  case round =>
    obtain ⟨j, hj1, hj, rfl, hown, hbel⟩ := hrel
    have HO := Lib.hid hown
    have HB := Lib.hid hbel
    have HT1 := Lib.hid (HT.out.below hbel)
    have hwz : w.heap.size ≤ wr.heap.size := hbel.size
    by_cases hlt : j < 9
    · have hlt' : (j : Int) ≤ 8 := by omega
      obtain ⟨arr, ha, hsz, hg⟩ := HT1.out.gr
      obtain ⟨o, til, g0, g1, g2, g3⟩ := hg k j k2 (by omega)
      have hs := clj_succ (othB s.g c k own) j hj1 (by omega)
      rw [othB_cell g3] at hs
      have HS := Lib.hid (And.intro hs (cln_len (othB s.g c k own) (j - 1) (by omega)))
      have d0 := blk_cell ha g0
      have d1 := blk_cell ha g1
      have d2 := blk_cell ha g2
      have c0 := blk_cell (j := 0) HT1.out.blk rfl
      have bj0 : (0 : Int) ≤ 9 * (k : Int) + (j : Int) := by omega
      have bj1 : 9 * (k : Int) + (j : Int) < 297 := by omega
      clear ha hsz hg g0 g1 g2 g3 hs hown hbel
      generalize (s.g (k : Int) (j : Int)).isSome = si at *
      have hb1 : Below w.heap.size w (wr.alloc (.cells #[.bool si, .bool o, .int .i64 til] 66)) := HB.out.alloc hwz _
      have HB1 := Lib.hid hb1
      have HO1 := Lib.hid (HO.out.alloc (.cells #[.bool si, .bool o, .int .i64 til] 66))
      clear hb1
      by_cases hjc : (j : Int) = (c : Int)
      · have q : ((j : Int) != (c : Int)) = false := by simpa using hjc
        clear hjc
        go_wp2_with fail
        refine ⟨⟨j + 1, by omega, by omega, by go_num, ?_, HB1.out⟩, by simp [intOf]; omega⟩
        rw [HS.out.1, q]
        simpa using HO1.out
      · have q : ((j : Int) != (c : Int)) = true := by simpa using hjc
        clear hjc
        cases si
        · go_wp2_with fail
          refine ⟨⟨j + 1, by omega, by omega, by go_num, ?_, HB1.out⟩, by simp [intOf]; omega⟩
          rw [HS.out.1, q]
          simpa using HO1.out
        · cases own
          · cases o
            · go_wp2_with fail
              refine ⟨⟨j + 1, by omega, by omega, by go_num, ?_, HB1.out⟩, by simp [intOf]; omega⟩
              rw [HS.out.1, q]
              simpa using HO1.out
            · go_wp2_with (at_builtin; refine wpl_appg rfl _ _ rfl rfl HO1.out (by simp; omega) rfl (by simp) (by have := HS.out.2; omega) ?_; intro v3 w3 ho3 hg3; have HO3 := Lib.hid (And.intro ho3 hg3); clear ho3 hg3)
              refine ⟨⟨j + 1, by omega, by omega, by go_num, ?_, HB1.out.grown HO3.out.2 HB1.out.size fun k hk => (HO1.out.lt k hk).1⟩, by simp [intOf]; omega⟩
              rw [HS.out.1, q]
              simpa using HO3.out.1
          · go_wp2_with (at_builtin; refine wpl_appg rfl _ _ rfl rfl HO1.out (by simp; omega) rfl (by simp) (by have := HS.out.2; omega) ?_; intro v3 w3 ho3 hg3; have HO3 := Lib.hid (And.intro ho3 hg3); clear ho3 hg3)
            refine ⟨⟨j + 1, by omega, by omega, by go_num, ?_, HB1.out.grown HO3.out.2 HB1.out.size fun k hk => (HO1.out.lt k hk).1⟩, by simp [intOf]; omega⟩
            rw [HS.out.1, q]
            simpa using HO3.out.1
    · obtain rfl : j = 9 := by omega
      have hlt' : ¬ ((9 : Nat) : Int) ≤ 8 := by omega
      have hcl : cln (othB s.g c k own) (9 - 1) = oth s.g c k own := cln_all _
      rw [hcl] at hown HO
      clear hcl
      have hax1 := blk_below hbel hbl.2.2.1 HU.out.1
      have hay1 := blk_below hbel hbl.2.2.2 HU.out.2.2.1
      have u0 := blk_cell hax1 HU.out.2.1
      have u1 := blk_cell hay1 HU.out.2.2.2
      have z1 := frozen_of_row wr x k _ _ hax1
      have z2 := frozen_of_row wr y k _ _ hay1
      have e0 := blk_cell (j := 0) HT1.out.blk rfl
      have e1 := blk_cell (j := 1) HT1.out.blk rfl
      have e2 := blk_cell (j := 2) HT1.out.blk rfl
      have hne := HT1.out.ne
      obtain ⟨hn1, hn2, hn3, hn4, hn5, hn6⟩ := hne
      clear hax1 hay1
      by_cases hl : oth s.g c k own = []
      · have HA : ask s now c k own = ([], 32, s) := by
          unfold ask
          rw [if_neg (by rw [HBAD.out]; decide), if_pos hl, HANO.out]
          simp only [if_true]

        have HAA := Lib.hid HA
        clear HA
        rw [hl] at hown HO
        clear hl hbel
        simp only [List.length_nil, List.map_nil] at HO hown
        obtain ⟨Av, cv, rfl, _⟩ := own_shape hown
        clear hown
        go_wp2_with fail
        go_ret2
        rw [HAA.out]
        dsimp only
        exact ⟨_, rfl, World.ownsRow_nil _ _ _ _, HT1.out, Fr.of_below (S := RK b g x y) HB.out⟩
      · have HA : ask s now c k own = (oth s.g c k own, 32, s) := by
          unfold ask
          rw [if_neg (by rw [HBAD.out]; decide), if_neg hl, HANO.out]
          simp only [if_true]

        have HAA := Lib.hid HA
        clear HA
        have hlen : 0 < (oth s.g c k own).length := List.length_pos_iff.2 hl
        clear hl hbel
        obtain ⟨Av, cv, rfl, _⟩ := own_shape hown
        clear hown
        generalize hn : (oth s.g (c : Int) (k : Int) own).length = n at *
        have HN := Lib.hid hn
        clear hn
        go_wp2_with fail
        go_ret2
        rw [HAA.out]
        dsimp only
        exact ⟨_, rfl, by rw [HN.out]; exact HO.out, HT1.out, Fr.of_below (S := RK b g x y) HB.out⟩
set_option maxRecDepth 100000 in
set_option maxHeartbeats 4000000 in
theorem rask_D {w : World} {b g x y : Nat} {s : Tab} (h : TR w b g x y s) (now : Int) (c k : Nat) (own : Bool) (hk : 1 ≤ k ∧ k ≤ 32) (hc : 1 ≤ c ∧ c ≤ 8) (hnow : 0 ≤ now ∧ now ≤ 1099511627776) (hw0 : s.wc k ≠ 0) (hw1 : s.wc k ≠ c) (hw2 : ¬ now < s.wt k) : Calls Try.prog 20 #[.pointer (some ⟨b, 0, none⟩), .int .i64 now, .int .i64 c, .int .i64 k, .bool own] w fun e w' =>
    ∃ v, e = .returned (.tuple #[v, .int .i64 (ask s now c k own).2.1]) ∧ w'.ownsRow w.heap.size 3 1 v (ask s now c k own).1.length ((ask s now c k own).1.map (Value.int .i64)) ∧ TR w' b g x y (ask s now c k own).2.2 ∧ Fr (RK b g x y) w w' := by
  have hbad : badAsk now c k = false := by simp [badAsk, inB]; omega
  have HT := Lib.hid h
  have hbl := h.lt
  obtain ⟨ax, hax, hxs, hx⟩ := h.wx
  obtain ⟨ay, hay, hys, hy⟩ := h.wy
  obtain ⟨t, hyt, ut⟩ := hy k hk.2
  have HU := Lib.hid (And.intro hax (And.intro (hx k hk.2) (And.intro hay hyt)))
  have hano : anoB s now c k = false := by
    unfold anoB
    simp [hw2]
  obtain ⟨k1, k2⟩ := hk
  obtain ⟨n1, n2⟩ := hnow
  obtain ⟨c1, c2⟩ := hc
  have m1 : ¬ now < 0 := by omega
  have m2 : ¬ 1099511627776 < now := by omega
  have m3 : ¬ (c : Int) < 1 := by omega
  have m4 : ¬ 8 < (c : Int) := by omega
  have m5 : ¬ (k : Int) < 1 := by omega
  have m6 : ¬ 32 < (k : Int) := by omega
  have b0 : (0 : Int) ≤ 9 * (k : Int) + (c : Int) := by omega
  have b1 : 9 * (k : Int) + (c : Int) < 297 := by omega
  have q0 : (s.wc (k : Int) != 0) = true := by simp [hw0]
  have q1 : (s.wc (k : Int) != (c : Int)) = true := by simp [hw1]
  have q2 : (s.wc (k : Int) == (c : Int)) = false := by simp [hw1]
  have q3 : ¬ now < t := by rw [ut hw0]; exact hw2
  have q4 : decide (now < t) = false := decide_eq_false q3
  clear hw0 hw1 hw2
  have HK := Lib.hid (And.intro (And.intro k1 k2) (And.intro c1 c2))
  clear hax hxs hx hay hys hy hyt ut h
  generalize hwc : s.wc (k : Int) = wc at *
  have HWC := Lib.hid hwc
  have HBAD := Lib.hid hbad
  have HANO := Lib.hid hano
  clear hwc hbad hano
  go_enter Try.func20, Try.ntmps20
  go_wp2_with fail
  go_loopw [12, 13] (fun v z wr => ∃ j : Nat, 1 ≤ j ∧ j ≤ 9 ∧ z = .int .i64 j ∧ wr.ownsRow w.heap.size 3 1 v (cln (othB s.g c k own) (j - 1)).length ((cln (othB s.g c k own) (j - 1)).map (Value.int .i64)) ∧ Below w.heap.size w wr) (fun _ z _ => 9 - (intOf z).toNat)
  case atStart => exact ⟨1, Nat.le_refl _, by omega, rfl, World.ownsRow_nil _ _ _ _, Below.refl _ _⟩
  case round =>
    obtain ⟨j, hj1, hj, rfl, hown, hbel⟩ := hrel
    have HO := Lib.hid hown
    have HB := Lib.hid hbel
    have HT1 := Lib.hid (HT.out.below hbel)
    have hwz : w.heap.size ≤ wr.heap.size := hbel.size
    by_cases hlt : j < 9
    · have hlt' : (j : Int) ≤ 8 := by omega
      obtain ⟨arr, ha, hsz, hg⟩ := HT1.out.gr
      obtain ⟨o, til, g0, g1, g2, g3⟩ := hg k j k2 (by omega)
      have hs := clj_succ (othB s.g c k own) j hj1 (by omega)
      rw [othB_cell g3] at hs
      have HS := Lib.hid (And.intro hs (cln_len (othB s.g c k own) (j - 1) (by omega)))
      have d0 := blk_cell ha g0
      have d1 := blk_cell ha g1
      have d2 := blk_cell ha g2
      have c0 := blk_cell (j := 0) HT1.out.blk rfl
      have bj0 : (0 : Int) ≤ 9 * (k : Int) + (j : Int) := by omega
      have bj1 : 9 * (k : Int) + (j : Int) < 297 := by omega
      clear ha hsz hg g0 g1 g2 g3 hs hown hbel
      generalize (s.g (k : Int) (j : Int)).isSome = si at *
      have hb1 : Below w.heap.size w (wr.alloc (.cells #[.bool si, .bool o, .int .i64 til] 66)) := HB.out.alloc hwz _
      have HB1 := Lib.hid hb1
      have HO1 := Lib.hid (HO.out.alloc (.cells #[.bool si, .bool o, .int .i64 til] 66))
      clear hb1
      by_cases hjc : (j : Int) = (c : Int)
      · have q : ((j : Int) != (c : Int)) = false := by simpa using hjc
        clear hjc
        go_wp2_with fail
        refine ⟨⟨j + 1, by omega, by omega, by go_num, ?_, HB1.out⟩, by simp [intOf]; omega⟩
        rw [HS.out.1, q]
        simpa using HO1.out
      · have q : ((j : Int) != (c : Int)) = true := by simpa using hjc
        clear hjc
        cases si
        · go_wp2_with fail
          refine ⟨⟨j + 1, by omega, by omega, by go_num, ?_, HB1.out⟩, by simp [intOf]; omega⟩
          rw [HS.out.1, q]
          simpa using HO1.out
        · cases own
          · cases o
            · go_wp2_with fail
              refine ⟨⟨j + 1, by omega, by omega, by go_num, ?_, HB1.out⟩, by simp [intOf]; omega⟩
              rw [HS.out.1, q]
              simpa using HO1.out
            · go_wp2_with (at_builtin; refine wpl_appg rfl _ _ rfl rfl HO1.out (by simp; omega) rfl (by simp) (by have := HS.out.2; omega) ?_; intro v3 w3 ho3 hg3; have HO3 := Lib.hid (And.intro ho3 hg3); clear ho3 hg3)
              refine ⟨⟨j + 1, by omega, by omega, by go_num, ?_, HB1.out.grown HO3.out.2 HB1.out.size fun k hk => (HO1.out.lt k hk).1⟩, by simp [intOf]; omega⟩
              rw [HS.out.1, q]
              simpa using HO3.out.1
          · go_wp2_with (at_builtin; refine wpl_appg rfl _ _ rfl rfl HO1.out (by simp; omega) rfl (by simp) (by have := HS.out.2; omega) ?_; intro v3 w3 ho3 hg3; have HO3 := Lib.hid (And.intro ho3 hg3); clear ho3 hg3)
            refine ⟨⟨j + 1, by omega, by omega, by go_num, ?_, HB1.out.grown HO3.out.2 HB1.out.size fun k hk => (HO1.out.lt k hk).1⟩, by simp [intOf]; omega⟩
            rw [HS.out.1, q]
            simpa using HO3.out.1
    · obtain rfl : j = 9 := by omega
      have hlt' : ¬ ((9 : Nat) : Int) ≤ 8 := by omega
      have hcl : cln (othB s.g c k own) (9 - 1) = oth s.g c k own := cln_all _
      rw [hcl] at hown HO
      clear hcl
      have hax1 := blk_below hbel hbl.2.2.1 HU.out.1
      have hay1 := blk_below hbel hbl.2.2.2 HU.out.2.2.1
      have u0 := blk_cell hax1 HU.out.2.1
      have u1 := blk_cell hay1 HU.out.2.2.2
      have z1 := frozen_of_row wr x k _ _ hax1
      have z2 := frozen_of_row wr y k _ _ hay1
      have e0 := blk_cell (j := 0) HT1.out.blk rfl
      have e1 := blk_cell (j := 1) HT1.out.blk rfl
      have e2 := blk_cell (j := 2) HT1.out.blk rfl
      have hne := HT1.out.ne
      obtain ⟨hn1, hn2, hn3, hn4, hn5, hn6⟩ := hne
      clear hax1 hay1
      by_cases hl : oth s.g c k own = []
      · have HA : ask s now c k own = ([], 0, s.setG k c (some (own, now + 64))) := by
          unfold ask
          rw [if_neg (by rw [HBAD.out]; decide), if_pos hl, HANO.out]
          simp only [Bool.false_eq_true, if_false]
          rw [if_neg (by rw [HWC.out]; simpa using q2)]
        have HAA := Lib.hid HA
        clear HA
        rw [hl] at hown HO
        clear hl hbel
        simp only [List.length_nil, List.map_nil] at HO hown
        obtain ⟨Av, cv, rfl, _⟩ := own_shape hown
        clear hown
        obtain ⟨arr, ha, hsz, hg⟩ := HT1.out.gr
        obtain ⟨o, til, g0, g1, g2, _⟩ := hg k c k2 c2
        have d0 := blk_cell ha g0
        have d1 := blk_cell ha g1
        have d2 := blk_cell ha g2
        have y0 := frozen_of_row wr g ((9 * k + c) * 3) _ _ ha
        have y1 := frozen_of_row wr g ((9 * k + c) * 3 + 1) _ _ ha
        have y2 := frozen_of_row wr g ((9 * k + c) * 3 + 2) _ _ ha
        have hG := HT1.out.setG k c HK.out.1 HK.out.2 (some (own, now + 64)) own (now + 64) (fun q hq => by injection hq with hq; rw [← hq]; exact ⟨rfl, rfl⟩)
        simp only [Option.isSome_some] at hG
        have HG := Lib.hid hG
        have HF := Lib.hid ((((Fr.of_below (S := RK b g x y) HB.out).setCell (b := g) (i := (9 * k + c) * 3) (.inl (.inr (.inl rfl))) (.bool true)).setCell (b := g) (i := (9 * k + c) * 3 + 1) (.inl (.inr (.inl rfl))) (.bool own)).setCell (b := g) (i := (9 * k + c) * 3 + 2) (.inl (.inr (.inl rfl))) (.int .i64 (now + 64)))
        clear ha hsz hg g0 g1 g2 hG
        generalize (s.g (k : Int) (c : Int)).isSome = si at *
        go_wp2_with fail
        go_ret2
        rw [HAA.out]
        dsimp only
        exact ⟨_, rfl, World.ownsRow_nil _ _ _ _, HG.out, HF.out⟩
      · have HA : ask s now c k own = (oth s.g c k own, 32, s.setW k c (now + 64)) := by
          unfold ask
          rw [if_neg (by rw [HBAD.out]; decide), if_neg hl, HANO.out]
          simp only [Bool.false_eq_true, if_false]

        have HAA := Lib.hid HA
        clear HA
        have hlen : 0 < (oth s.g c k own).length := List.length_pos_iff.2 hl
        clear hl hbel
        obtain ⟨Av, cv, rfl, _⟩ := own_shape hown
        clear hown
        generalize hn : (oth s.g (c : Int) (k : Int) own).length = n at *
        have HN := Lib.hid hn
        clear hn
        have HW := Lib.hid (HT1.out.setW k HK.out.1 c (now + 64) (by omega) (by have := HK.out.2; omega))
        go_wp2_with fail
        go_ret2
        rw [HAA.out]
        dsimp only
        refine ⟨_, rfl, ?_, HW.out, ((Fr.of_below (S := RK b g x y) HB.out).setCell (b := x) (i := k) (.inl (.inr (.inr (.inl rfl)))) _).setCell (b := y) (i := k) (.inl (.inr (.inr (.inr rfl)))) _⟩
        rw [HN.out]
        refine (HO.out.kept (only_setCell (g := x) ⟨rfl, rfl, rfl, Nat.le_refl _, fun _ _ _ => rfl⟩ _) (.inr ?_)).kept (only_setCell (g := y) ⟨rfl, rfl, rfl, Nat.le_refl _, fun _ _ _ => rfl⟩ _) (.inr ?_)
        · intro e; have := (HO.out.lt _ e).1; omega
        · intro e; have := (HO.out.lt _ e).1; omega
theorem rask_any {w : World} {b g x y : Nat} {s : Tab} (h : TR w b g x y s) (now c i : Int) (own : Bool) : Calls Try.prog 20 #[.pointer (some ⟨b, 0, none⟩), .int .i64 now, .int .i64 c, .int .i64 i, .bool own] w fun e w' =>
    ∃ v, e = .returned (.tuple #[v, .int .i64 (ask s now c i own).2.1]) ∧ w'.ownsRow w.heap.size 3 1 v (ask s now c i own).1.length ((ask s now c i own).1.map (Value.int .i64)) ∧ TR w' b g x y (ask s now c i own).2.2 ∧ Fr (RK b g x y) w w' := by
  cases hbad : badAsk now c i
  · have hb : (0 ≤ now ∧ now ≤ 1099511627776) ∧ (1 ≤ c ∧ c ≤ 8) ∧ 1 ≤ i ∧ i ≤ 32 := by
      simp [badAsk, inB] at hbad
      omega
    obtain ⟨h1, h2, h3, h4⟩ := hb
    obtain ⟨k, rfl⟩ := Int.eq_ofNat_of_zero_le (show 0 ≤ i by omega)
    obtain ⟨j, rfl⟩ := Int.eq_ofNat_of_zero_le (show 0 ≤ c by omega)
    have hk : 1 ≤ k ∧ k ≤ 32 := by omega
    have hj : 1 ≤ j ∧ j ≤ 8 := by omega
    by_cases hw0 : s.wc k = 0
    · exact rask_A h now j k own hk hj h1 hw0
    · by_cases hw1 : s.wc k = j
      · exact rask_B h now j k own hk hj h1 hw1
      · by_cases hw2 : now < s.wt k
        · exact rask_C h now j k own hk hj h1 hw0 hw1 hw2
        · exact rask_D h now j k own hk hj h1 hw0 hw1 hw2
  · have e : ask s now c i own = ([], 1, s) := by unfold ask; rw [if_pos hbad]
    rw [e]
    refine (rask_bad now c i own hbad).mono ?_
    rintro e w' ⟨rfl, rfl⟩
    exact ⟨_, rfl, World.ownsRow_nil _ _ _ _, h, Fr.refl _ _⟩
end Go.Proofs.Ytpjgcpnjfopolaa
