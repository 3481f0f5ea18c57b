/-
  Ask, where it asks for something that there is.
-/
import Derived.Test.YtpjgcpnjfopolaaAsk
namespace Go.Proofs.Ytpjgcpnjfopolaa
open Go.RowKit Go.Deep
theorem own_set {w w' : World} {B b m : Nat} {s : Tab} {v : Value} {n : Nat} {xs : List Value} (h : w.ownsRow B 3 1 v n xs) (hT : TP w b m s) (hg : w.grownBy w' (some b)) : w'.ownsRow B 3 1 v n xs := by
  refine h.kept hg (.inr ?_)
  rcases h.2 with ⟨rfl, _⟩ | ⟨g, cap, cur, rfl, _, hgb, _⟩
  · simp [Value.ownBlock]
  · intro e
    have e : g = b := by injection e
    obtain ⟨arr, ha, _⟩ := hT.tab
    rw [e, ha] at hgb
    injection hgb with hgb
    injection hgb with _ h2 _
    exact absurd h2 (by decide)
set_option maxRecDepth 100000 in
set_option maxHeartbeats 2000000 in
theorem ask_A {w : World} {b m : Nat} {s : Tab} (h : TP w b m s) (now c : Int) (k : Nat) (own : Bool) (hk : 1 ≤ k ∧ k ≤ 32) (hc : 1 ≤ c ∧ c ≤ 8) (hnow : 0 ≤ now ∧ now ≤ 1099511627776) (hw0 : s.wc k = 0) : Calls Try.prog 12 #[.pointer (some ⟨b, 0, none⟩), .int .i64 now, .int .i64 c, .int .i64 k, .bool own] w fun e w' =>
    ∃ v, e = .returned (.tuple #[v, .int .i64 (ask s now c k own).2.1]) ∧ w'.ownsRow w.heap.size 3 1 v (ask s now c k own).1.length ((ask s now c k own).1.map (Value.int .i64)) ∧ TP w' b m (ask s now c k own).2.2 ∧ Fr (fun x => x = b ∨ x = m) w w' := by
  have hbad : badAsk now c k = false := by simp [badAsk, inB]; omega
  have in1 : inB 0 now 1099511627776 = true := by simp [inB]; omega
  have in2 : inB 1 c 8 = true := by simp [inB]; omega
  have in3 : inB 1 (k : Int) 32 = true := by simp [inB]; omega
  have HOT := Lib.hid (others_any h c k own)
  have HTP := fun w1 (hb1 : Below w.heap.size w w1) => h.below hb1
  obtain ⟨arr, ha, hw⟩ := h.tab
  have hbl := h.lt.1
  have c0 := blk_cell ha hw.2.1
  obtain ⟨u0, t, u1, ut⟩ := hw.2.2 k hk.2
  have u0 := blk_cell ha u0
  have u1 := blk_cell ha u1
  have hano : anoB s now c k = false := by
    unfold anoB
    simp [hw0]
  obtain ⟨k1, k2⟩ := hk
  obtain ⟨n1, n2⟩ := hnow
  obtain ⟨c1, c2⟩ := hc
  have kk1 : (0 : Int) ≤ (k : Int) := by omega
  have kk2 : (k : Int) < 33 := by omega
  have q0 : (s.wc (k : Int) != 0) = false := by simp [hw0]
  have q2 : (s.wc (k : Int) == c) = false := by simp [hw0]; omega
  have HU := Lib.hid (And.intro ha hw)
  have HT := Lib.hid HTP
  have HK := Lib.hid (And.intro (And.intro k1 k2) (And.intro c1 c2))
  clear ha hw HTP ut h
  generalize hwc : s.wc (k : Int) = wc at *
  have HWC := Lib.hid hwc
  clear hwc
  by_cases hl : oth s.g c k own = []
  · have HA : ask s now c k own = ([], 0, s.setG k c (some (own, now + 64))) := by
      unfold ask
      rw [if_neg (by rw [hbad]; decide), if_pos hl, hano]
      simp only [Bool.false_eq_true, if_false]
      rw [if_neg (by rw [HWC.out]; intro e; subst e; simp at q2)]
    rw [HA]
    clear HA hano hbad
    rw [hl] at HOT
    clear hl
    go_enter Try.func12, Try.ntmps12
    go_wp2_with (go_at_call 24; refine (in_any _ _ _ _).mono ?_; rintro e w' ⟨rfl, rfl⟩)
    refine (HOT.out).mono ?_
    rintro e w1 ⟨v, rfl, ho1, hb1⟩
    have HO := Lib.hid (And.intro ho1 hb1)
    have hT := HT.out w1 hb1
    have HT1 := Lib.hid hT
    obtain ⟨arr1, ha1, hw1⟩ := hT.tab
    have d0 := (hb1.cell (p := ⟨b, 0, none⟩) hbl).trans c0
    have d1 := (hb1.cell (p := ⟨b, 1 + k * 2, none⟩) hbl).trans u0
    have d2 := (hb1.cell (p := ⟨b, 1 + k * 2 + 1, none⟩) hbl).trans u1
    have z1 := frozen_of_row w1 b (1 + k * 2) _ _ ha1
    have z2 := frozen_of_row w1 b (1 + k * 2 + 1) _ _ ha1
    obtain ⟨Av, cv, rfl, _⟩ := own_shape ho1
    obtain ⟨es, clock, hm, hr⟩ := hT.map
    obtain ⟨w2, es2, clock2, hst, hm2, hr2, hg2⟩ := run_store hm hr (k : Int) c own (now + 64)
    have HT3 := Lib.hid (hT.setG hm2 hr2 hg2 (by omega) (by omega))
    have HF3 := Lib.hid ((Fr.of_below (S := fun x => x = b ∨ x = m) HO.out.2).trans (Fr.of_grown hg2 fun x hx => by injection hx with hx; exact .inr hx.symm))
    clear ho1 hb1 hT ha1 hw1 HOT hm hr hm2 hr2 hg2
    go_wp2_with fail
    go_ret2
    exact ⟨_, rfl, World.ownsRow_nil _ _ _ _, HT3.out, HF3.out⟩
  · have HA : ask s now c k own = (oth s.g c k own, 32, s.setW k c (now + 64)) := by
      unfold ask
      rw [if_neg (by rw [hbad]; decide), if_neg hl, hano]
      simp only [Bool.false_eq_true, if_false]

    rw [HA]
    clear HA hano hbad
    have hlen : 0 < (oth s.g c k own).length := List.length_pos_iff.2 hl
    clear hl
    go_enter Try.func12, Try.ntmps12
    go_wp2_with (go_at_call 24; refine (in_any _ _ _ _).mono ?_; rintro e w' ⟨rfl, rfl⟩)
    refine (HOT.out).mono ?_
    rintro e w1 ⟨v, rfl, ho1, hb1⟩
    have HO := Lib.hid (And.intro ho1 hb1)
    have hT := HT.out w1 hb1
    have HT1 := Lib.hid hT
    obtain ⟨arr1, ha1, hw1⟩ := hT.tab
    have d0 := (hb1.cell (p := ⟨b, 0, none⟩) hbl).trans c0
    have d1 := (hb1.cell (p := ⟨b, 1 + k * 2, none⟩) hbl).trans u0
    have d2 := (hb1.cell (p := ⟨b, 1 + k * 2 + 1, none⟩) hbl).trans u1
    have z1 := frozen_of_row w1 b (1 + k * 2) _ _ ha1
    have z2 := frozen_of_row w1 b (1 + k * 2 + 1) _ _ ha1
    obtain ⟨Av, cv, rfl, _⟩ := own_shape ho1
    clear ho1 hb1 hT ha1 hw1
    have HL := Lib.hid hlen
    generalize hn : (oth s.g c (k : Int) own).length = n at *
    have HN := Lib.hid hn
    clear hn HOT
    go_wp2_with fail
    go_ret2
    exact ⟨_, rfl, by rw [HN.out]; exact own_set HO.out.1 HT1.out (only_setCell (only_setCell ⟨rfl, rfl, rfl, Nat.le_refl _, fun _ _ _ => rfl⟩ _) _), HT1.out.setW k HK.out.1.2 c _ (by have := HK.out.2; omega) HK.out.2.2 (.inl HK.out.1.1), ((Fr.of_below HO.out.2).setCell (.inl (.inl rfl)) _).setCell (.inl (.inl rfl)) _⟩
set_option maxRecDepth 100000 in
set_option maxHeartbeats 2000000 in
theorem ask_B {w : World} {b m : Nat} {s : Tab} (h : TP w b m s) (now c : Int) (k : Nat) (own : Bool) (hk : 1 ≤ k ∧ k ≤ 32) (hc : 1 ≤ c ∧ c ≤ 8) (hnow : 0 ≤ now ∧ now ≤ 1099511627776) (hw0 : s.wc k = c) : Calls Try.prog 12 #[.pointer (some ⟨b, 0, none⟩), .int .i64 now, .int .i64 c, .int .i64 k, .bool own] w fun e w' =>
    ∃ v, e = .returned (.tuple #[v, .int .i64 (ask s now c k own).2.1]) ∧ w'.ownsRow w.heap.size 3 1 v (ask s now c k own).1.length ((ask s now c k own).1.map (Value.int .i64)) ∧ TP w' b m (ask s now c k own).2.2 ∧ Fr (fun x => x = b ∨ x = m) w w' := by
  have hbad : badAsk now c k = false := by simp [badAsk, inB]; omega
  have in1 : inB 0 now 1099511627776 = true := by simp [inB]; omega
  have in2 : inB 1 c 8 = true := by simp [inB]; omega
  have in3 : inB 1 (k : Int) 32 = true := by simp [inB]; omega
  have HOT := Lib.hid (others_any h c k own)
  have HTP := fun w1 (hb1 : Below w.heap.size w w1) => h.below hb1
  obtain ⟨arr, ha, hw⟩ := h.tab
  have hbl := h.lt.1
  have c0 := blk_cell ha hw.2.1
  obtain ⟨u0, t, u1, ut⟩ := hw.2.2 k hk.2
  have u0 := blk_cell ha u0
  have u1 := blk_cell ha u1
  have hano : anoB s now c k = false := by
    unfold anoB
    simp [hw0]
  obtain ⟨k1, k2⟩ := hk
  obtain ⟨n1, n2⟩ := hnow
  obtain ⟨c1, c2⟩ := hc
  have kk1 : (0 : Int) ≤ (k : Int) := by omega
  have kk2 : (k : Int) < 33 := by omega
  have q0 : (s.wc (k : Int) != 0) = true := by simp; omega
  have q1 : (s.wc (k : Int) != c) = false := by simp [hw0]
  have q2 : (s.wc (k : Int) == c) = true := by simp [hw0]
  clear hw0
  have HU := Lib.hid (And.intro ha hw)
  have HT := Lib.hid HTP
  have HK := Lib.hid (And.intro (And.intro k1 k2) (And.intro c1 c2))
  clear ha hw HTP ut h
  generalize hwc : s.wc (k : Int) = wc at *
  have HWC := Lib.hid hwc
  clear hwc
  by_cases hl : oth s.g c k own = []
  · have HA : ask s now c k own = ([], 0, (s.setW k 0 0).setG k c (some (own, now + 64))) := by
      unfold ask
      rw [if_neg (by rw [hbad]; decide), if_pos hl, hano]
      simp only [Bool.false_eq_true, if_false]
      rw [if_pos (by rw [HWC.out]; simpa using q2)]
    rw [HA]
    clear HA hano hbad
    rw [hl] at HOT
    clear hl
    go_enter Try.func12, Try.ntmps12
    go_wp2_with (go_at_call 24; refine (in_any _ _ _ _).mono ?_; rintro e w' ⟨rfl, rfl⟩)
    refine (HOT.out).mono ?_
    rintro e w1 ⟨v, rfl, ho1, hb1⟩
    have HO := Lib.hid (And.intro ho1 hb1)
    have hT := HT.out w1 hb1
    have HT1 := Lib.hid hT
    obtain ⟨arr1, ha1, hw1⟩ := hT.tab
    have d0 := (hb1.cell (p := ⟨b, 0, none⟩) hbl).trans c0
    have d1 := (hb1.cell (p := ⟨b, 1 + k * 2, none⟩) hbl).trans u0
    have d2 := (hb1.cell (p := ⟨b, 1 + k * 2 + 1, none⟩) hbl).trans u1
    have z1 := frozen_of_row w1 b (1 + k * 2) _ _ ha1
    have z2 := frozen_of_row w1 b (1 + k * 2 + 1) _ _ ha1
    obtain ⟨Av, cv, rfl, _⟩ := own_shape ho1
    have HT2 := Lib.hid (hT.setW k k2 0 0 (Int.le_refl _) (by decide) (.inr rfl))
    have HF2 := Lib.hid (((Fr.of_below (S := fun x => x = b ∨ x = m) HO.out.2).setCell (b := b) (i := 1 + k * 2) (.inl (.inl rfl)) (.int .i64 0)).setCell (b := b) (i := 1 + k * 2 + 1) (.inl (.inl rfl)) (.int .i64 0))
    obtain ⟨arr2, ha2, hw2⟩ := HT2.out.tab
    have e0 := blk_cell ha2 hw2.2.1
    obtain ⟨es, clock, hm, hr⟩ := HT2.out.map
    obtain ⟨w2, es2, clock2, hst, hm2, hr2, hg2⟩ := run_store hm hr (k : Int) c own (now + 64)
    have HT3 := Lib.hid (HT2.out.setG hm2 hr2 hg2 (by omega) (by omega))
    have HF3 := Lib.hid (HF2.out.trans (Fr.of_grown hg2 fun x hx => by injection hx with hx; exact .inr hx.symm))
    clear ho1 hb1 hT ha1 hw1 HOT ha2 hw2 hm hr hm2 hr2 hg2
    go_wp2_with fail
    go_ret2
    exact ⟨_, rfl, World.ownsRow_nil _ _ _ _, HT3.out, HF3.out⟩
  · have HA : ask s now c k own = (oth s.g c k own, 32, s.setW k c (now + 64)) := by
      unfold ask
      rw [if_neg (by rw [hbad]; decide), if_neg hl, hano]
      simp only [Bool.false_eq_true, if_false]

    rw [HA]
    clear HA hano hbad
    have hlen : 0 < (oth s.g c k own).length := List.length_pos_iff.2 hl
    clear hl
    go_enter Try.func12, Try.ntmps12
    go_wp2_with (go_at_call 24; refine (in_any _ _ _ _).mono ?_; rintro e w' ⟨rfl, rfl⟩)
    refine (HOT.out).mono ?_
    rintro e w1 ⟨v, rfl, ho1, hb1⟩
    have HO := Lib.hid (And.intro ho1 hb1)
    have hT := HT.out w1 hb1
    have HT1 := Lib.hid hT
    obtain ⟨arr1, ha1, hw1⟩ := hT.tab
    have d0 := (hb1.cell (p := ⟨b, 0, none⟩) hbl).trans c0
    have d1 := (hb1.cell (p := ⟨b, 1 + k * 2, none⟩) hbl).trans u0
    have d2 := (hb1.cell (p := ⟨b, 1 + k * 2 + 1, none⟩) hbl).trans u1
    have z1 := frozen_of_row w1 b (1 + k * 2) _ _ ha1
    have z2 := frozen_of_row w1 b (1 + k * 2 + 1) _ _ ha1
    obtain ⟨Av, cv, rfl, _⟩ := own_shape ho1
    clear ho1 hb1 hT ha1 hw1
    have HL := Lib.hid hlen
    generalize hn : (oth s.g c (k : Int) own).length = n at *
    have HN := Lib.hid hn
    clear hn HOT
    go_wp2_with fail
    go_ret2
    exact ⟨_, rfl, by rw [HN.out]; exact own_set HO.out.1 HT1.out (only_setCell (only_setCell ⟨rfl, rfl, rfl, Nat.le_refl _, fun _ _ _ => rfl⟩ _) _), HT1.out.setW k HK.out.1.2 c _ (by have := HK.out.2; omega) HK.out.2.2 (.inl HK.out.1.1), ((Fr.of_below HO.out.2).setCell (.inl (.inl rfl)) _).setCell (.inl (.inl rfl)) _⟩
set_option maxRecDepth 100000 in
set_option maxHeartbeats 2000000 in
theorem ask_C {w : World} {b m : Nat} {s : Tab} (h : TP w b m s) (now c : Int) (k : Nat) (own : Bool) (hk : 1 ≤ k ∧ k ≤ 32) (hc : 1 ≤ c ∧ c ≤ 8) (hnow : 0 ≤ now ∧ now ≤ 1099511627776) (hw0 : s.wc k ≠ 0) (hw1 : s.wc k ≠ c) (hw2 : now < s.wt k) : Calls Try.prog 12 #[.pointer (some ⟨b, 0, none⟩), .int .i64 now, .int .i64 c, .int .i64 k, .bool own] w fun e w' =>
    ∃ v, e = .returned (.tuple #[v, .int .i64 (ask s now c k own).2.1]) ∧ w'.ownsRow w.heap.size 3 1 v (ask s now c k own).1.length ((ask s now c k own).1.map (Value.int .i64)) ∧ TP w' b m (ask s now c k own).2.2 ∧ Fr (fun x => x = b ∨ x = m) w w' := by
  have hbad : badAsk now c k = false := by simp [badAsk, inB]; omega
  have in1 : inB 0 now 1099511627776 = true := by simp [inB]; omega
  have in2 : inB 1 c 8 = true := by simp [inB]; omega
  have in3 : inB 1 (k : Int) 32 = true := by simp [inB]; omega
  have HOT := Lib.hid (others_any h c k own)
  have HTP := fun w1 (hb1 : Below w.heap.size w w1) => h.below hb1
  obtain ⟨arr, ha, hw⟩ := h.tab
  have hbl := h.lt.1
  have c0 := blk_cell ha hw.2.1
  obtain ⟨u0, t, u1, ut⟩ := hw.2.2 k hk.2
  have u0 := blk_cell ha u0
  have u1 := blk_cell ha u1
  have hano : anoB s now c k = true := by
    unfold anoB
    simp [hw0, hw1, hw2]
  obtain ⟨k1, k2⟩ := hk
  obtain ⟨n1, n2⟩ := hnow
  obtain ⟨c1, c2⟩ := hc
  have kk1 : (0 : Int) ≤ (k : Int) := by omega
  have kk2 : (k : Int) < 33 := by omega
  have q0 : (s.wc (k : Int) != 0) = true := by simp [hw0]
  have q1 : (s.wc (k : Int) != c) = true := by simp [hw1]
  have q2 : (s.wc (k : Int) == c) = false := by simp [hw1]
  have q3 : now < t := by rw [ut hw0]; exact hw2
  clear hw0 hw1 hw2
  have HU := Lib.hid (And.intro ha hw)
  have HT := Lib.hid HTP
  have HK := Lib.hid (And.intro (And.intro k1 k2) (And.intro c1 c2))
  clear ha hw HTP ut h
  generalize hwc : s.wc (k : Int) = wc at *
  have HWC := Lib.hid hwc
  clear hwc
  by_cases hl : oth s.g c k own = []
  · have HA : ask s now c k own = ([], 32, s) := by
      unfold ask
      rw [if_neg (by rw [hbad]; decide), if_pos hl, hano]
      simp only [if_true]

    rw [HA]
    clear HA hano hbad
    rw [hl] at HOT
    clear hl
    go_enter Try.func12, Try.ntmps12
    go_wp2_with (go_at_call 24; refine (in_any _ _ _ _).mono ?_; rintro e w' ⟨rfl, rfl⟩)
    refine (HOT.out).mono ?_
    rintro e w1 ⟨v, rfl, ho1, hb1⟩
    have HO := Lib.hid (And.intro ho1 hb1)
    have hT := HT.out w1 hb1
    have HT1 := Lib.hid hT
    obtain ⟨arr1, ha1, hw1⟩ := hT.tab
    have d0 := (hb1.cell (p := ⟨b, 0, none⟩) hbl).trans c0
    have d1 := (hb1.cell (p := ⟨b, 1 + k * 2, none⟩) hbl).trans u0
    have d2 := (hb1.cell (p := ⟨b, 1 + k * 2 + 1, none⟩) hbl).trans u1
    have z1 := frozen_of_row w1 b (1 + k * 2) _ _ ha1
    have z2 := frozen_of_row w1 b (1 + k * 2 + 1) _ _ ha1
    obtain ⟨Av, cv, rfl, _⟩ := own_shape ho1
    clear ho1 hb1 hT ha1 hw1 HOT
    go_wp2_with fail
    go_ret2
    exact ⟨_, rfl, World.ownsRow_nil _ _ _ _, HT1.out, Fr.of_below HO.out.2⟩
  · have HA : ask s now c k own = (oth s.g c k own, 32, s) := by
      unfold ask
      rw [if_neg (by rw [hbad]; decide), if_neg hl, hano]
      simp only [if_true]

    rw [HA]
    clear HA hano hbad
    have hlen : 0 < (oth s.g c k own).length := List.length_pos_iff.2 hl
    clear hl
    go_enter Try.func12, Try.ntmps12
    go_wp2_with (go_at_call 24; refine (in_any _ _ _ _).mono ?_; rintro e w' ⟨rfl, rfl⟩)
    refine (HOT.out).mono ?_
    rintro e w1 ⟨v, rfl, ho1, hb1⟩
    have HO := Lib.hid (And.intro ho1 hb1)
    have hT := HT.out w1 hb1
    have HT1 := Lib.hid hT
    obtain ⟨arr1, ha1, hw1⟩ := hT.tab
    have d0 := (hb1.cell (p := ⟨b, 0, none⟩) hbl).trans c0
    have d1 := (hb1.cell (p := ⟨b, 1 + k * 2, none⟩) hbl).trans u0
    have d2 := (hb1.cell (p := ⟨b, 1 + k * 2 + 1, none⟩) hbl).trans u1
    have z1 := frozen_of_row w1 b (1 + k * 2) _ _ ha1
    have z2 := frozen_of_row w1 b (1 + k * 2 + 1) _ _ ha1
    obtain ⟨Av, cv, rfl, _⟩ := own_shape ho1
    clear ho1 hb1 hT ha1 hw1
    have HL := Lib.hid hlen
    generalize hn : (oth s.g c (k : Int) own).length = n at *
    have HN := Lib.hid hn
    clear hn HOT
    go_wp2_with fail
    go_ret2
    exact ⟨_, rfl, by rw [HN.out]; exact HO.out.1, HT1.out, Fr.of_below HO.out.2⟩
set_option maxRecDepth 100000 in
set_option maxHeartbeats 2000000 in
theorem ask_D {w : World} {b m : Nat} {s : Tab} (h : TP w b m s) (now c : Int) (k : Nat) (own : Bool) (hk : 1 ≤ k ∧ k ≤ 32) (hc : 1 ≤ c ∧ c ≤ 8) (hnow : 0 ≤ now ∧ now ≤ 1099511627776) (hw0 : s.wc k ≠ 0) (hw1 : s.wc k ≠ c) (hw2 : ¬ now < s.wt k) : Calls Try.prog 12 #[.pointer (some ⟨b, 0, none⟩), .int .i64 now, .int .i64 c, .int .i64 k, .bool own] w fun e w' =>
    ∃ v, e = .returned (.tuple #[v, .int .i64 (ask s now c k own).2.1]) ∧ w'.ownsRow w.heap.size 3 1 v (ask s now c k own).1.length ((ask s now c k own).1.map (Value.int .i64)) ∧ TP w' b m (ask s now c k own).2.2 ∧ Fr (fun x => x = b ∨ x = m) w w' := by
  have hbad : badAsk now c k = false := by simp [badAsk, inB]; omega
  have in1 : inB 0 now 1099511627776 = true := by simp [inB]; omega
  have in2 : inB 1 c 8 = true := by simp [inB]; omega
  have in3 : inB 1 (k : Int) 32 = true := by simp [inB]; omega
  have HOT := Lib.hid (others_any h c k own)
  have HTP := fun w1 (hb1 : Below w.heap.size w w1) => h.below hb1
  obtain ⟨arr, ha, hw⟩ := h.tab
  have hbl := h.lt.1
  have c0 := blk_cell ha hw.2.1
  obtain ⟨u0, t, u1, ut⟩ := hw.2.2 k hk.2
  have u0 := blk_cell ha u0
  have u1 := blk_cell ha u1
  have hano : anoB s now c k = false := by
    unfold anoB
    simp [hw2]
  obtain ⟨k1, k2⟩ := hk
  obtain ⟨n1, n2⟩ := hnow
  obtain ⟨c1, c2⟩ := hc
  have kk1 : (0 : Int) ≤ (k : Int) := by omega
  have kk2 : (k : Int) < 33 := by omega
  have q0 : (s.wc (k : Int) != 0) = true := by simp [hw0]
  have q1 : (s.wc (k : Int) != c) = true := by simp [hw1]
  have q2 : (s.wc (k : Int) == c) = false := by simp [hw1]
  have q3 : ¬ now < t := by rw [ut hw0]; exact hw2
  have q4 : decide (now < t) = false := decide_eq_false q3
  clear hw0 hw1 hw2
  have HU := Lib.hid (And.intro ha hw)
  have HT := Lib.hid HTP
  have HK := Lib.hid (And.intro (And.intro k1 k2) (And.intro c1 c2))
  clear ha hw HTP ut h
  generalize hwc : s.wc (k : Int) = wc at *
  have HWC := Lib.hid hwc
  clear hwc
  by_cases hl : oth s.g c k own = []
  · have HA : ask s now c k own = ([], 0, s.setG k c (some (own, now + 64))) := by
      unfold ask
      rw [if_neg (by rw [hbad]; decide), if_pos hl, hano]
      simp only [Bool.false_eq_true, if_false]
      rw [if_neg (by rw [HWC.out]; simpa using q2)]
    rw [HA]
    clear HA hano hbad
    rw [hl] at HOT
    clear hl
    go_enter Try.func12, Try.ntmps12
    go_wp2_with (go_at_call 24; refine (in_any _ _ _ _).mono ?_; rintro e w' ⟨rfl, rfl⟩)
    refine (HOT.out).mono ?_
    rintro e w1 ⟨v, rfl, ho1, hb1⟩
    have HO := Lib.hid (And.intro ho1 hb1)
    have hT := HT.out w1 hb1
    have HT1 := Lib.hid hT
    obtain ⟨arr1, ha1, hw1⟩ := hT.tab
    have d0 := (hb1.cell (p := ⟨b, 0, none⟩) hbl).trans c0
    have d1 := (hb1.cell (p := ⟨b, 1 + k * 2, none⟩) hbl).trans u0
    have d2 := (hb1.cell (p := ⟨b, 1 + k * 2 + 1, none⟩) hbl).trans u1
    have z1 := frozen_of_row w1 b (1 + k * 2) _ _ ha1
    have z2 := frozen_of_row w1 b (1 + k * 2 + 1) _ _ ha1
    obtain ⟨Av, cv, rfl, _⟩ := own_shape ho1
    obtain ⟨es, clock, hm, hr⟩ := hT.map
    obtain ⟨w2, es2, clock2, hst, hm2, hr2, hg2⟩ := run_store hm hr (k : Int) c own (now + 64)
    have HT3 := Lib.hid (hT.setG hm2 hr2 hg2 (by omega) (by omega))
    have HF3 := Lib.hid ((Fr.of_below (S := fun x => x = b ∨ x = m) HO.out.2).trans (Fr.of_grown hg2 fun x hx => by injection hx with hx; exact .inr hx.symm))
    clear ho1 hb1 hT ha1 hw1 HOT hm hr hm2 hr2 hg2
    go_wp2_with fail
    go_ret2
    exact ⟨_, rfl, World.ownsRow_nil _ _ _ _, HT3.out, HF3.out⟩
  · have HA : ask s now c k own = (oth s.g c k own, 32, s.setW k c (now + 64)) := by
      unfold ask
      rw [if_neg (by rw [hbad]; decide), if_neg hl, hano]
      simp only [Bool.false_eq_true, if_false]

    rw [HA]
    clear HA hano hbad
    have hlen : 0 < (oth s.g c k own).length := List.length_pos_iff.2 hl
    clear hl
    go_enter Try.func12, Try.ntmps12
    go_wp2_with (go_at_call 24; refine (in_any _ _ _ _).mono ?_; rintro e w' ⟨rfl, rfl⟩)
    refine (HOT.out).mono ?_
    rintro e w1 ⟨v, rfl, ho1, hb1⟩
    have HO := Lib.hid (And.intro ho1 hb1)
    have hT := HT.out w1 hb1
    have HT1 := Lib.hid hT
    obtain ⟨arr1, ha1, hw1⟩ := hT.tab
    have d0 := (hb1.cell (p := ⟨b, 0, none⟩) hbl).trans c0
    have d1 := (hb1.cell (p := ⟨b, 1 + k * 2, none⟩) hbl).trans u0
    have d2 := (hb1.cell (p := ⟨b, 1 + k * 2 + 1, none⟩) hbl).trans u1
    have z1 := frozen_of_row w1 b (1 + k * 2) _ _ ha1
    have z2 := frozen_of_row w1 b (1 + k * 2 + 1) _ _ ha1
    obtain ⟨Av, cv, rfl, _⟩ := own_shape ho1
    clear ho1 hb1 hT ha1 hw1
    have HL := Lib.hid hlen
    generalize hn : (oth s.g c (k : Int) own).length = n at *
    have HN := Lib.hid hn
    clear hn HOT
    go_wp2_with fail
    go_ret2
    exact ⟨_, rfl, by rw [HN.out]; exact own_set HO.out.1 HT1.out (only_setCell (only_setCell ⟨rfl, rfl, rfl, Nat.le_refl _, fun _ _ _ => rfl⟩ _) _), HT1.out.setW k HK.out.1.2 c _ (by have := HK.out.2; omega) HK.out.2.2 (.inl HK.out.1.1), ((Fr.of_below HO.out.2).setCell (.inl (.inl rfl)) _).setCell (.inl (.inl rfl)) _⟩
theorem ask_any {w : World} {b m : Nat} {s : Tab} (h : TP w b m s) (now c i : Int) (own : Bool) : Calls Try.prog 12 #[.pointer (some ⟨b, 0, none⟩), .int .i64 now, .int .i64 c, .int .i64 i, .bool own] w fun e w' =>
    ∃ v, e = .returned (.tuple #[v, .int .i64 (ask s now c i own).2.1]) ∧ w'.ownsRow w.heap.size 3 1 v (ask s now c i own).1.length ((ask s now c i own).1.map (Value.int .i64)) ∧ TP w' b m (ask s now c i own).2.2 ∧ Fr (fun x => x = b ∨ x = m) w w' := by
  cases hbad : badAsk now c i
  · have hb : (0 ≤ now ∧ now ≤ 1099511627776) ∧ (1 ≤ c ∧ c ≤ 8) ∧ 1 ≤ i ∧ i ≤ 32 := by
      simp [badAsk, inB] at hbad
      omega
    obtain ⟨h1, h2, h3, h4⟩ := hb
    obtain ⟨k, rfl⟩ := Int.eq_ofNat_of_zero_le (show 0 ≤ i by omega)
    have hk : 1 ≤ k ∧ k ≤ 32 := by omega
    by_cases hw0 : s.wc k = 0
    · exact ask_A h now c k own hk h2 h1 hw0
    · by_cases hw1 : s.wc k = c
      · exact ask_B h now c k own hk h2 h1 hw1
      · by_cases hw2 : now < s.wt k
        · exact ask_C h now c k own hk h2 h1 hw0 hw1 hw2
        · exact ask_D h now c k own hk h2 h1 hw0 hw1 hw2
  · have e : ask s now c i own = ([], 1, s) := by unfold ask; rw [if_pos hbad]
    rw [e]
    refine (ask_bad now c i own hbad).mono ?_
    rintro e w' ⟨rfl, rfl⟩
    exact ⟨_, rfl, World.ownsRow_nil _ _ _ _, h, Fr.refl _ _⟩
end Go.Proofs.Ytpjgcpnjfopolaa

