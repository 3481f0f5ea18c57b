/-
  LeaseOwns answers true at every list of deeds, and leaves what came in as it was. No condition.
-/
import Derived.Test.YtpjgcpnjfopolaaLike
namespace Go.Proofs.Ytpjgcpnjfopolaa
open Go.ChangeShapes Go.WideShapes Go.ChangeAt Go.RowKit Go.Deep
theorem Two.set {w0 w : World} {b m b' g x y : Nat} {s s' : Tab} (h : Two w0 w b m b' g x y s s') {gg : Nat} (h1 : ¬ PK b m gg) (h2 : ¬ RK b' g x y gg) (h3 : w0.heap.size ≤ gg) (i : Nat) (u : Value) : Two w0 (w.setCell ⟨gg, i, none⟩ u) b m b' g x y s s' := by
  have k : Fr (fun k => k = gg) w (w.setCell ⟨gg, i, none⟩ u) := Fr.setCell (S := fun k => k = gg) (Fr.refl _ w) (b := gg) (i := i) (.inl rfl) u
  exact ⟨h.p.fr k (fun e => h1 (by rw [← e]; exact .inl rfl)) (fun e => h1 (by rw [← e]; exact .inr rfl)), h.r.fr k (fun j hj e => h2 (by rw [← e]; exact hj)), h.apart, h.low, h.low', h.bel.trans (k.below h.bel.size (fun k e => by rw [e]; exact h3))⟩
/-- The two tables, and a row of one's own beside them. -/
structure Wrt (w0 w : World) (b m b' g x y : Nat) (s : Tab) (A : Option Addr) (e : TypeId) (n : Nat) : Prop where
  two : Two w0 w b m b' g x y s s
  row : 0 < n → ∃ gg arr, A = some ⟨gg, 0, none⟩ ∧ (¬ PK b m gg ∧ ¬ RK b' g x y gg ∧ w0.heap.size ≤ gg) ∧ w.heap[gg]? = some (.cells arr e (0, 0)) ∧ n ≤ arr.size
theorem Wrt.of {w0 w1 w : World} {b m b' g x y : Nat} {s s1 s2 : Tab} (h1 : Two w0 w1 b m b' g x y s1 s2) (h : Two w0 w b m b' g x y s s) {e : TypeId} {sz n : Nat} {v : Value} {xs : List Value} (ho : w.ownsRow w1.heap.size e sz v n xs) : ∃ A cap, v = .slice A n cap ∧ Wrt w0 w b m b' g x y s A e (n * sz) := by
  rcases ho.2 with ⟨rfl, rfl⟩ | ⟨gg, cap, cur, rfl, hb, hg, h3, _, h5, _⟩
  · exact ⟨none, 0, rfl, h, fun h => by omega⟩
  · exact ⟨_, cap, rfl, h, fun _ => ⟨gg, cur, rfl, ⟨h1.nk hb, h1.nk' hb, Nat.le_trans h1.bel.size hb⟩, hg, by rw [h5]; exact Nat.mul_le_mul_right _ h3⟩⟩
theorem Wrt.set {w0 w : World} {b m b' g x y : Nat} {s : Tab} {gg : Nat} {e : TypeId} {n : Nat} (h : Wrt w0 w b m b' g x y s (some ⟨gg, 0, none⟩) e n) (hn : 0 < n) (i : Nat) (u : Value) : Wrt w0 (w.setCell ⟨gg, i, none⟩ u) b m b' g x y s (some ⟨gg, 0, none⟩) e n := by
  obtain ⟨g2, arr, e1, ⟨k1, k2, k3⟩, k4, k5⟩ := h.row hn
  injection e1 with e1
  injection e1 with e1
  subst e1
  exact ⟨h.two.set k1 k2 k3 i u, fun _ => ⟨gg, _, rfl, ⟨k1, k2, k3⟩, setRow_cell _ _ _ _ _ _ k4, by simpa using k5⟩⟩
theorem ovr_le8 (g : Int → Int → Option (Bool × Int)) (now : Int) : (ovr g now).length ≤ 8 := List.length_filter_le _ _
set_option maxRecDepth 100000 in
set_option maxHeartbeats 16000000 in
theorem lawOwns (A : Option Addr) (n cap : Nat) (d : Nat → Dd) (w : World) (hd : Deeds w A n d) :
    Calls Try.prog 7 #[.slice A n cap] w fun e w' => e = .returned (.bool true) ∧ Below w.heap.size w w' := by
  have HD := Lib.hid hd
  clear hd
  go_enter Try.func7, Try.ntmps7
  go_wp2_with fail
  refine (new_any w).mono ?_
  rintro e w1 ⟨b, m, rfl, ht1, hlb, hlm, hb1⟩
  have H1 := Lib.hid (And.intro ht1 (And.intro hlb (And.intro hlm hb1)))
  clear ht1 hlb hlm hb1
  go_wp2_with fail
  refine (rnew_any w1).mono ?_
  rintro e w2 ⟨b', g, x, y, rfl, ht2, hl2, hb2⟩
  have HT := Lib.hid (two_start H1.out.1 H1.out.2.1 H1.out.2.2.1 H1.out.2.2.2 ht2 hl2 hb2)
  clear ht2 hl2 hb2
  go_wp2_with fail
  go_loopw [5] (fun z wr => ∃ (k : Nat) (s : Tab), k ≤ 20 ∧ k ≤ n ∧ z = .int .i64 k ∧ Two w wr b m b' g x y s s) (fun z _ => 20 - (intOf z).toNat)
  case atStart => exact ⟨0, s0, by omega, by omega, rfl, HT.out⟩
  case round =>
    obtain ⟨k, s, hk, hkn, rfl, ht⟩ := hrel
    have HTK := Lib.hid ht
    clear ht
    by_cases hin : k < n ∧ k < 20
    · obtain ⟨hlt, h60⟩ := hin
      have hlt' : (k : Int) < (n : Int) := by omega
      have h60' : (k : Int) < 20 := by omega
      obtain ⟨bd, off, rfl, hbw, hcell⟩ := HD.out (by omega)
      obtain ⟨d0, d1, d2, d3, d4⟩ := hcell k hlt
      have e0 := (HTK.out.bel.cell (p := ⟨bd, off + k * 5, none⟩) hbw).trans d0
      have e1 := (HTK.out.bel.cell (p := ⟨bd, off + k * 5 + 1, none⟩) hbw).trans d1
      have e2 := (HTK.out.bel.cell (p := ⟨bd, off + k * 5 + 2, none⟩) hbw).trans d2
      have e3 := (HTK.out.bel.cell (p := ⟨bd, off + k * 5 + 3, none⟩) hbw).trans d3
      have e4 := (HTK.out.bel.cell (p := ⟨bd, off + k * 5 + 4, none⟩) hbw).trans d4
      clear hcell d0 d1 d2 d3 d4
      generalize (d k).k = a0 at *
      generalize (d k).now = a1 at *
      generalize (d k).c = a2 at *
      generalize (d k).i = a3 at *
      generalize (d k).own = a4 at *
      have HTA := Lib.hid (HTK.out.below ((Below.refl _ _).alloc (Nat.le_refl _) (.cells #[.int .i64 a0, .int .i64 a1, .int .i64 a2, .int .i64 a3, .bool a4] 28)))
      have HNN := Lib.hid (And.intro (HTK.out.nk (Nat.le_refl _)) (HTK.out.nk' (Nat.le_refl _)))
      have HBX := Lib.hid (show (wr.alloc (.cells #[.int .i64 a0, .int .i64 a1, .int .i64 a2, .int .i64 a3, .bool a4] 28)).heap[wr.heap.size]? = some (.cells #[.int .i64 a0, .int .i64 a1, .int .i64 a2, .int .i64 a3, .bool a4] 28) from heap_alloc_new _ _)
      by_cases hk0 : a0 = 0
      · subst hk0
        go_wp2_with fail
        refine (ask_any HTA.out.p a1 a2 a3 a4).mono ?_
        rintro e w3 ⟨v3, rfl, ho3, ht3, hf3⟩
        have hblk := hf3.blk HNN.out.1 HBX.out
        have f1 := blk_cell (j := 1) hblk rfl
        have f2 := blk_cell (j := 2) hblk rfl
        have f3 := blk_cell (j := 3) hblk rfl
        have f4 := blk_cell (j := 4) hblk rfl
        have HT3 := Lib.hid (HTA.out.left ht3 hf3)
        have HO3 := Lib.hid ho3
        have HRA := Lib.hid (rask_any HT3.out.r a1 a2 a3 a4)
        have HNO := Lib.hid (show ∀ k, v3.ownBlock = some k → ¬ RK b' g x y k from fun k hk hr => HTA.out.nk' ((ho3.lt k hk).1) hr)
        obtain ⟨Av, cv, hv3, _⟩ := own_shape ho3
        have HL := Lib.hid (ask_len s a1 a2 a3 a4)
        clear ho3 ht3 hf3 hblk
        subst hv3
        go_wp2_with fail
        refine (HRA.out).mono ?_
        rintro e w4 ⟨v4, rfl, _, ht4, hf4⟩
        have HT4 := Lib.hid (HT3.out.right ht4 hf4)
        obtain ⟨A3, c3, hv, hwr⟩ := Wrt.of HTA.out HT4.out (own_fr HO3.out hf4 HNO.out)
        injection hv with hv1 _ hv2
        subst hv1 hv2
        have HW := Lib.hid hwr
        clear ht4 hf4 hwr HRA f1 f2 f3 f4 e0 e1 e2 e3 e4 HO3 HNO
        generalize (ask s a1 a2 a3 a4).2.2 = s2 at *
        generalize (ask s a1 a2 a3 a4).2.1 = er at *
        generalize (ask s a1 a2 a3 a4).1.length = na at *
        have hna8 : na ≤ 8 := HL.out
        go_wp2_with fail
        go_loopw [9] (fun z wr => ∃ j : Nat, j ≤ na ∧ z = .int .i64 j ∧ Wrt w wr b m b' g x y s2 Av 3 (na * 1)) (fun z _ => na - (intOf z).toNat)
        case atStart => exact ⟨0, by omega, rfl, HW.out⟩
        case round =>
          obtain ⟨j, hj, rfl, hwj⟩ := hrel
          have HWJ := Lib.hid hwj
          clear hwj
          by_cases hjl : j < na
          · have hjl' : (j : Int) < (na : Int) := by omega
            obtain ⟨gg, arr, rfl, _, hgg, hsz⟩ := HWJ.out.row (by omega)
            have p0 := blk_cell hgg (Array.getElem?_eq_getElem (show j < arr.size by omega))
            have z0 := frozen_of_row wr gg j _ _ hgg
            generalize arr[j]'(by omega) = u0 at *
            clear hgg hsz
            have HST := Lib.hid (HWJ.out.set (by omega) j (.int .i64 77))
            go_wp2_with fail
            exact ⟨⟨j + 1, by omega, by go_num, HST.out⟩, by simp [intOf]; omega⟩
          · obtain rfl : j = na := by omega
            have hjl' : ¬ (j : Int) < (j : Int) := by omega
            have HTT := Lib.hid HWJ.out.two
            clear HWJ HW
            go_wp2_with fail
            have HAL := Lib.hid (all_any HTT.out.p)
            refine (HAL.out).mono ?_
            rintro e w5 ⟨v5, rfl, ho5, hb5⟩
            have HT5 := Lib.hid (HTT.out.below hb5)
            obtain ⟨A5, c5, rfl, hw5⟩ := Wrt.of HTT.out HT5.out ho5
            have HW5 := Lib.hid hw5
            have HLL := Lib.hid (allL_len (g := s2.g))
            clear ho5 hb5 hw5 HAL
            generalize (allL s2.g).length = nl at *
            have hnl2 : nl ≤ 256 := HLL.out
            go_wp2_with fail
            go_loopw [11] (fun z wr => ∃ j : Nat, j ≤ nl ∧ z = .int .i64 j ∧ Wrt w wr b m b' g x y s2 A5 40 (nl * 4)) (fun z _ => nl - (intOf z).toNat)
            case atStart => exact ⟨0, by omega, rfl, HW5.out⟩
            case round =>
              obtain ⟨j5, hj5, rfl, hwj5⟩ := hrel
              have HWJ5 := Lib.hid hwj5
              clear hwj5
              by_cases hjl5 : j5 < nl
              · have hjl5' : (j5 : Int) < (nl : Int) := by omega
                obtain ⟨gg, arr, rfl, _, hgg, hsz⟩ := HWJ5.out.row (by omega)
                have p0 := blk_cell hgg (Array.getElem?_eq_getElem (show j5 * 4 < arr.size by omega))
                have p1 := blk_cell hgg (Array.getElem?_eq_getElem (show j5 * 4 + 1 < arr.size by omega))
                have p2 := blk_cell hgg (Array.getElem?_eq_getElem (show j5 * 4 + 2 < arr.size by omega))
                have p3 := blk_cell hgg (Array.getElem?_eq_getElem (show j5 * 4 + 3 < arr.size by omega))
                have z0 := frozen_of_row wr gg (j5 * 4) _ _ hgg
                have z1 := frozen_of_row wr gg (j5 * 4 + 1) _ _ hgg
                have z2 := frozen_of_row wr gg (j5 * 4 + 2) _ _ hgg
                have z3 := frozen_of_row wr gg (j5 * 4 + 3) _ _ hgg
                generalize arr[j5 * 4]'(by omega) = u0 at *
                generalize arr[j5 * 4 + 1]'(by omega) = u1 at *
                generalize arr[j5 * 4 + 2]'(by omega) = u2 at *
                generalize arr[j5 * 4 + 3]'(by omega) = u3 at *
                clear hgg hsz
                have HST := Lib.hid ((((HWJ5.out.set (by omega) (j5 * 4) (.int .i64 0)).set (by omega) (j5 * 4 + 1) (.int .i64 0)).set (by omega) (j5 * 4 + 2) (.bool false)).set (by omega) (j5 * 4 + 3) (.int .i64 0))
                go_wp2_with fail
                exact ⟨⟨j5 + 1, by omega, by go_num, HST.out⟩, by simp [intOf]; omega⟩
              · obtain rfl : j5 = nl := by omega
                have hjl5' : ¬ (j5 : Int) < (j5 : Int) := by omega
                have HT6 := Lib.hid HWJ5.out.two
                clear HWJ5 HW5
                go_wp2_with fail
                refine (over_any HT6.out.p 99).mono ?_
                rintro e w7 ⟨v7, rfl, ho7, hb7⟩
                have HT7 := Lib.hid (HT6.out.below hb7)
                obtain ⟨A7, c7, rfl, hw7⟩ := Wrt.of HT6.out HT7.out ho7
                have HW7 := Lib.hid hw7
                have HLO := Lib.hid (ovr_le8 s2.g 99)
                clear ho7 hb7 hw7
                generalize (ovr s2.g 99).length = no at *
                have hno2 : no ≤ 8 := HLO.out
                go_wp2_with fail
                go_loopw [13] (fun z wr => ∃ j : Nat, j ≤ no ∧ z = .int .i64 j ∧ Wrt w wr b m b' g x y s2 A7 3 (no * 1)) (fun z _ => no - (intOf z).toNat)
                case atStart => exact ⟨0, by omega, rfl, HW7.out⟩
                case round =>
                  obtain ⟨j7, hj7, rfl, hwj7⟩ := hrel
                  have HWJ7 := Lib.hid hwj7
                  clear hwj7
                  by_cases hjl7 : j7 < no
                  · have hjl7' : (j7 : Int) < (no : Int) := by omega
                    obtain ⟨gg, arr, rfl, _, hgg, hsz⟩ := HWJ7.out.row (by omega)
                    have p0 := blk_cell hgg (Array.getElem?_eq_getElem (show j7 < arr.size by omega))
                    have z0 := frozen_of_row wr gg j7 _ _ hgg
                    generalize arr[j7]'(by omega) = u0 at *
                    clear hgg hsz
                    have HST := Lib.hid (HWJ7.out.set (by omega) j7 (.int .i64 9))
                    go_wp2_with fail
                    exact ⟨⟨j7 + 1, by omega, by go_num, HST.out⟩, by simp [intOf]; omega⟩
                  · obtain rfl : j7 = no := by omega
                    have hjl7' : ¬ (j7 : Int) < (j7 : Int) := by omega
                    go_wp2_with fail
                    exact ⟨⟨k + 1, s2, by omega, by omega, by go_num, HWJ7.out.two⟩, by simp [intOf]; omega⟩
      · have hk0' : ¬ a0 = 0 := hk0
        have hk0b : (a0 == 0) = false := by simpa using hk0
        have HDO := Lib.hid (does_any HTA.out a0 a1 a2 a3 a4)
        clear hk0
        generalize stp s a0 a1 a2 a3 a4 = s2 at *
        go_wp2_with fail
        refine (HDO.out).mono ?_
        rintro e w4 ⟨rfl, ht4⟩
        have HTT := Lib.hid ht4
        clear ht4 HDO e0 e1 e2 e3 e4
        go_wp2_with fail
        have HAL := Lib.hid (all_any HTT.out.p)
        refine (HAL.out).mono ?_
        rintro e w5 ⟨v5, rfl, ho5, hb5⟩
        have HT5 := Lib.hid (HTT.out.below hb5)
        obtain ⟨A5, c5, rfl, hw5⟩ := Wrt.of HTT.out HT5.out ho5
        have HW5 := Lib.hid hw5
        have HLL := Lib.hid (allL_len (g := s2.g))
        clear ho5 hb5 hw5 HAL
        generalize (allL s2.g).length = nl at *
        have hnl2 : nl ≤ 256 := HLL.out
        go_wp2_with fail
        go_loopw [11] (fun z wr => ∃ j : Nat, j ≤ nl ∧ z = .int .i64 j ∧ Wrt w wr b m b' g x y s2 A5 40 (nl * 4)) (fun z _ => nl - (intOf z).toNat)
        case atStart => exact ⟨0, by omega, rfl, HW5.out⟩
        case round =>
          obtain ⟨j5, hj5, rfl, hwj5⟩ := hrel
          have HWJ5 := Lib.hid hwj5
          clear hwj5
          by_cases hjl5 : j5 < nl
          · have hjl5' : (j5 : Int) < (nl : Int) := by omega
            obtain ⟨gg, arr, rfl, _, hgg, hsz⟩ := HWJ5.out.row (by omega)
            have p0 := blk_cell hgg (Array.getElem?_eq_getElem (show j5 * 4 < arr.size by omega))
            have p1 := blk_cell hgg (Array.getElem?_eq_getElem (show j5 * 4 + 1 < arr.size by omega))
            have p2 := blk_cell hgg (Array.getElem?_eq_getElem (show j5 * 4 + 2 < arr.size by omega))
            have p3 := blk_cell hgg (Array.getElem?_eq_getElem (show j5 * 4 + 3 < arr.size by omega))
            have z0 := frozen_of_row wr gg (j5 * 4) _ _ hgg
            have z1 := frozen_of_row wr gg (j5 * 4 + 1) _ _ hgg
            have z2 := frozen_of_row wr gg (j5 * 4 + 2) _ _ hgg
            have z3 := frozen_of_row wr gg (j5 * 4 + 3) _ _ hgg
            generalize arr[j5 * 4]'(by omega) = u0 at *
            generalize arr[j5 * 4 + 1]'(by omega) = u1 at *
            generalize arr[j5 * 4 + 2]'(by omega) = u2 at *
            generalize arr[j5 * 4 + 3]'(by omega) = u3 at *
            clear hgg hsz
            have HST := Lib.hid ((((HWJ5.out.set (by omega) (j5 * 4) (.int .i64 0)).set (by omega) (j5 * 4 + 1) (.int .i64 0)).set (by omega) (j5 * 4 + 2) (.bool false)).set (by omega) (j5 * 4 + 3) (.int .i64 0))
            go_wp2_with fail
            exact ⟨⟨j5 + 1, by omega, by go_num, HST.out⟩, by simp [intOf]; omega⟩
          · obtain rfl : j5 = nl := by omega
            have hjl5' : ¬ (j5 : Int) < (j5 : Int) := by omega
            have HT6 := Lib.hid HWJ5.out.two
            clear HWJ5 HW5
            go_wp2_with fail
            refine (over_any HT6.out.p 99).mono ?_
            rintro e w7 ⟨v7, rfl, ho7, hb7⟩
            have HT7 := Lib.hid (HT6.out.below hb7)
            obtain ⟨A7, c7, rfl, hw7⟩ := Wrt.of HT6.out HT7.out ho7
            have HW7 := Lib.hid hw7
            have HLO := Lib.hid (ovr_le8 s2.g 99)
            clear ho7 hb7 hw7
            generalize (ovr s2.g 99).length = no at *
            have hno2 : no ≤ 8 := HLO.out
            go_wp2_with fail
            go_loopw [13] (fun z wr => ∃ j : Nat, j ≤ no ∧ z = .int .i64 j ∧ Wrt w wr b m b' g x y s2 A7 3 (no * 1)) (fun z _ => no - (intOf z).toNat)
            case atStart => exact ⟨0, by omega, rfl, HW7.out⟩
            case round =>
              obtain ⟨j7, hj7, rfl, hwj7⟩ := hrel
              have HWJ7 := Lib.hid hwj7
              clear hwj7
              by_cases hjl7 : j7 < no
              · have hjl7' : (j7 : Int) < (no : Int) := by omega
                obtain ⟨gg, arr, rfl, _, hgg, hsz⟩ := HWJ7.out.row (by omega)
                have p0 := blk_cell hgg (Array.getElem?_eq_getElem (show j7 < arr.size by omega))
                have z0 := frozen_of_row wr gg j7 _ _ hgg
                generalize arr[j7]'(by omega) = u0 at *
                clear hgg hsz
                have HST := Lib.hid (HWJ7.out.set (by omega) j7 (.int .i64 9))
                go_wp2_with fail
                exact ⟨⟨j7 + 1, by omega, by go_num, HST.out⟩, by simp [intOf]; omega⟩
              · obtain rfl : j7 = no := by omega
                have hjl7' : ¬ (j7 : Int) < (j7 : Int) := by omega
                go_wp2_with fail
                exact ⟨⟨k + 1, s2, by omega, by omega, by go_num, HWJ7.out.two⟩, by simp [intOf]; omega⟩
    · have hor : ¬ (k : Int) < (n : Int) ∨ ((k : Int) < (n : Int) ∧ ¬ (k : Int) < 20) := by omega
      clear hin
      have HLK := Lib.hid (like_any HTK.out)
      rcases hor with hx1 | ⟨hx1, hx2⟩
      all_goals
        go_wp2_with fail
        refine (HLK.out).mono ?_
        rintro e w5 ⟨rfl, hb5⟩
        have HB5 := Lib.hid (below_then HTK.out.bel hb5)
        clear hb5
        go_wp2_with (go_at_call 11; refine (lives_any _).mono ?_; rintro e w6 ⟨rfl, hb6⟩; have HB6 := Lib.hid hb6; clear hb6)
        go_ret
        exact ⟨rfl, below_then HB5.out HB6.out⟩
/-! ### THE ROW -/
set_option maxRecDepth 100000 in
theorem leaseOwns_lifted (os : Os) (started : os.Started) (H : Type) (enc : TypeId × Value → H) :
    ReturnsInHanded {} Try.checked os 7 .any (Rows.leaseOwnsSpec.pre6 enc Try.prog Try.f7 Rows.leaseOwnsRow.domain false) (Rows.leaseOwnsSpec.post enc Try.prog Try.f7 false true false false) := by
  refine returnsInHanded_of_change (C := Try.checked) own started (by kernel_rfl) Try.func7
    (ChangeSpec.witness6 (enc := enc) (C := Try.checked) false ⟨#[], #[.slice none 0 0], []⟩ 8 (by kernel_rfl) (by kernel_rfl) (by kernel_rfl) (by kernel_rfl)) ?_
  intro W base args ds gs before hval0 hW _ _
  have hval : ∀ (j : Nat) t v, Try.f7.params[j]? = some t → args[j]? = some v → Value.okWide Try.prog W .any base t v := hval0
  have hW' := hW
  obtain ⟨p, q, hA0, hV, rfl, _, _⟩ := hW
  have hA : DataW.TrodAll enc Try.prog W 0 (fun _ => true) true Try.f7.params.toList args.toList ds p := hA0
  rw [Try.params7] at hA hval
  obtain ⟨v0, vs0, d0, ds0, p0, q0, hargs, rfl, rfl, h0, r0⟩ := trodAll_cons hA
  obtain ⟨rfl, rfl, rfl⟩ := trodAll_nil r0
  obtain rfl : args = #[v0] := by cases args; simp_all
  obtain ⟨rfl, rfl⟩ := trodVars_none hV
  have k0 := h0
  have lt0 : ∀ x ∈ p0, x.block < W.heap.size := by obtain ⟨m, hm⟩ := k0; exact DataW.trod_lt m _ _ _ hm
  obtain ⟨A0, n0, c0, dd0, rfl, w0⟩ := open_deeds (hval 0 22 v0 rfl rfl) h0
  clear hA0 hval0
  refine (lawOwns A0 n0 c0 dd0 W w0).mono fun e W' ⟨he, bel⟩ => ?_
  subst he
  exact ⟨_, rfl, _, _, _, [], _, [], hW', trodAll_mk1 (shut_bool Try.underlying4 _), (trodAll_cons_mk (Below.trod laidOut (by kernel_rfl) (of_decide_eq_true (by kernel_rfl)) k0 bel lt0) trodAll_mk0), rfl, bel.frame _, fun h => by cases h⟩
theorem leaseOwns_over : Rows.leaseOwnsRow.holds Try.pinned (OpenSpec.ofChange Rows.leaseOwnsSpec) :=
  OpenClaim.holds_of_wide 7 Try.f7 rfl rfl rfl rfl rfl rfl rfl ⟨rfl, rfl, rfl, rfl, rfl⟩ rfl rfl rfl rfl rfl (by kernel_rfl) Try.func7 (by kernel_rfl)
    (of_decide_eq_true (by kernel_rfl)) (by unfold Func.isWrapper; first | (rw [if_pos (by decide +kernel)]; kernel_rfl) | (rw [if_neg (by decide +kernel)]; exact ⟨rfl, rfl⟩))
    (fun os started H enc _ => leaseOwns_lifted os started H enc)
/-- THE STATEMENT. -/
theorem leaseOwns_holds : Rows.LeaseOwnsSaid := leaseOwns_over
end Go.Proofs.Ytpjgcpnjfopolaa
