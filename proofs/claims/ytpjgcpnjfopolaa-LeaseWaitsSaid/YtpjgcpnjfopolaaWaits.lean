/-
  LeaseWaits answers true at every input, and leaves what came in as it was. No condition.
-/
import Derived.Test.YtpjgcpnjfopolaaOverLaw
import Derived.Deep.CutBlock
namespace Go.Proofs.Ytpjgcpnjfopolaa
open Go.ChangeShapes Go.WideShapes Go.ChangeAt Go.RowKit Go.Deep
/-- Client c alone has a grant of inode i, if any, and waits for it up to 64. -/
structure Wt (s : Tab) (c i : Int) : Prop where
  wc : s.wc i = c
  wt : s.wt i = 64
  only : ∀ k, k ≠ c → s.g i k = none
theorem Wt.other {s : Tab} {c i : Int} (h : Wt s c i) (hc : 1 ≤ c) {c' now : Int} (hne : c' ≠ c) (hn : now < 64) (own : Bool) : ((ask s now c' i own).2.1 == 0) = false ∧ (ask s now c' i own).2.2 = s := by
  have ha : anoB s now c' i = true := by
    unfold anoB
    rw [h.wc, h.wt]
    simp
    omega
  unfold ask
  split
  · exact ⟨rfl, rfl⟩
  · split <;> exact ⟨rfl, rfl⟩
theorem Wt.oth {s : Tab} {c i : Int} (h : Wt s c i) (own : Bool) : oth s.g c i own = [] := by
  unfold Go.Proofs.Ytpjgcpnjfopolaa.oth
  rw [List.filter_eq_nil_iff]
  intro k _
  unfold othB
  by_cases hk : k = c
  · simp [hk]
  · rw [h.only k hk]; simp
theorem Wt.last {s : Tab} {c i : Int} (h : Wt s c i) (hc : 1 ≤ c ∧ c ≤ 8) (hi : 1 ≤ i ∧ i ≤ 32) {now : Int} (hn : 0 ≤ now ∧ now < 64) (own : Bool) :
    (ask s now c i own).1 = [] ∧ (ask s now c i own).2.1 = 0 ∧ (ask s now c i own).2.2.g i c = some (own, now + 64) := by
  have ha : anoB s now c i = false := by unfold anoB; rw [h.wc]; simp
  have hb : badAsk now c i = false := by simp [badAsk, inB]; omega
  unfold ask
  rw [if_neg (by rw [hb]; decide), if_pos (h.oth own), ha]
  simp [Tab.setG, upd]
theorem ask_first {s : Tab} {c i : Int} (hc : 1 ≤ c ∧ c ≤ 8) (hi : 1 ≤ i ∧ i ≤ 32) (hw : s.wc i = 0 ∨ s.wc i = c) (own : Bool) :
    (Go.Proofs.Ytpjgcpnjfopolaa.oth s.g c i own = [] ∧ (ask s 0 c i own).1 = [] ∧ (ask s 0 c i own).2.1 = 0) ∨
    (0 < (ask s 0 c i own).1.length ∧ (ask s 0 c i own).2.1 = 32 ∧ (ask s 0 c i own).2.2 = s.setW i c 64) := by
  have ha : anoB s 0 c i = false := by
    unfold anoB
    rcases hw with h | h
    · rw [h]; rfl
    · rw [h]; simp
  have hb : badAsk 0 c i = false := by simp [badAsk, inB]; omega
  unfold ask
  rw [if_neg (by rw [hb]; decide)]
  by_cases ho : Go.Proofs.Ytpjgcpnjfopolaa.oth s.g c i own = []
  · rw [if_pos ho, ha]
    exact .inl ⟨ho, rfl, rfl⟩
  · rw [if_neg ho, ha]
    exact .inr ⟨List.length_pos_iff.2 ho, rfl, rfl⟩
/-- While the others drop. -/
structure Dr (s : Tab) (c i : Int) (j : Nat) : Prop where
  wc : s.wc i = c
  wt : s.wt i = 64
  only : ∀ k : Int, 1 ≤ k → k < (j : Int) → k ≠ c → s.g i k = none
theorem Dr.start (s : Tab) (c i : Int) : Dr (s.setW i c 64) c i 1 := ⟨by simp [Tab.setW], by simp [Tab.setW], fun k h1 h2 _ => by omega⟩
theorem Dr.drop {s : Tab} {c i : Int} {j : Nat} (h : Dr s c i j) (hj : (j : Int) ≠ c) : Dr (s.drop j) c i (j + 1) :=
  ⟨by unfold Tab.drop; simp only [h.wc]; rw [if_neg (Ne.symm hj)], h.wt, fun k h1 h2 hk => by
    unfold Tab.drop
    simp only
    by_cases e : k = j
    · rw [if_pos e]
    · rw [if_neg e]; exact h.only k h1 (by omega) hk⟩
theorem Dr.skip {s : Tab} {c i : Int} {j : Nat} (h : Dr s c i j) (hj : (j : Int) = c) : Dr s c i (j + 1) :=
  ⟨h.wc, h.wt, fun k h1 h2 hk => h.only k h1 (by omega) hk⟩
theorem Dr.done {s : Tab} {c i : Int} (h : Dr s c i 9) (hok : s.Ok) : Wt s c i :=
  ⟨h.wc, h.wt, fun k hk => by
    by_cases h1 : 1 ≤ k ∧ k ≤ 8
    · exact h.only k h1.1 (by omega) hk
    · cases hg : s.g i k with
      | none => rfl
      | some p => exact absurd (hok.g i k p hg).2 h1⟩
theorem Two.one {w0 w : World} {b m b' g x y : Nat} {s s' : Tab} (h : Two w0 w b m b' g x y s s') : One w0 w b m s := ⟨h.p, h.low, h.bel⟩
set_option maxRecDepth 100000 in
set_option maxHeartbeats 8000000 in
theorem lawWaits (A : Option Addr) (n cap : Nat) (d : Nat → Dd) (c i : Int) (own : Bool) (A2 : Option Addr) (n2 cap2 : Nat) (d2 : Nat → Dd) (later : Int) (w : World) (hl1 : -9223372036854775808 ≤ later) (hl2 : later ≤ 9223372036854775807) (hd : Deeds w A n d) (hd2 : Deeds w A2 n2 d2) :
    Calls Try.prog 3 #[.slice A n cap, .int .i64 c, .int .i64 i, .bool own, .slice A2 n2 cap2, .int .i64 later] w fun e w' => e = .returned (.bool true) ∧ Below w.heap.size w w' := by
  have HD := Lib.hid hd
  have HD2 := Lib.hid hd2
  clear hd hd2
  go_enter Try.func3, Try.ntmps3
  go_wp2_with fail
  refine (new_any w).mono ?_
  rintro e w1 ⟨b, m, rfl, ht1, hlb, hlm, hb1⟩
  have H1 := Lib.hid (And.intro ht1 (And.intro hlb (And.intro hlm hb1)))
  clear ht1 hlb hlm hb1
  go_wp2_with fail
  refine (rnew_any w1).mono ?_
  rintro e w2 ⟨b', g, x, y, rfl, ht2, hl2, hb2⟩
  have HT := Lib.hid (two_start H1.out.1 H1.out.2.1 H1.out.2.2.1 H1.out.2.2.2 ht2 hl2 hb2)
  clear ht2 hl2 hb2
  go_upto_block 0 with fail
  go_cut [15, 16] from 32 to 50 (fun _ _ wx => ∃ s, Two w wx b m b' g x y s s)
  case first =>
    go_wp2_with fail
    go_loopw [15] (fun z wr => ∃ (k : Nat) (s : Tab), k ≤ 20 ∧ k ≤ n ∧ z = .int .i64 k ∧ Two w wr b m b' g x y s s) (fun z _ => 20 - (intOf z).toNat)
    case atStart => exact ⟨0, s0, by omega, by omega, rfl, HT.out⟩
    case round =>
      obtain ⟨k, s, hk, hkn, rfl, ht⟩ := hrel
      have HTK := Lib.hid ht
      clear ht
      by_cases hin : k < n ∧ k < 20
      · obtain ⟨hlt, h20⟩ := hin
        have hlt' : (k : Int) < (n : Int) := by omega
        have h20' : (k : Int) < 20 := by omega
        obtain ⟨bd, off, rfl, hbw, hcell⟩ := HD.out (by omega)
        obtain ⟨d0, d1, d2, d3, d4⟩ := hcell k hlt
        have e0 := (HTK.out.bel.cell (p := ⟨bd, off + k * 5, none⟩) hbw).trans d0
        have e1 := (HTK.out.bel.cell (p := ⟨bd, off + k * 5 + 1, none⟩) hbw).trans d1
        have e2 := (HTK.out.bel.cell (p := ⟨bd, off + k * 5 + 2, none⟩) hbw).trans d2
        have e3 := (HTK.out.bel.cell (p := ⟨bd, off + k * 5 + 3, none⟩) hbw).trans d3
        have e4 := (HTK.out.bel.cell (p := ⟨bd, off + k * 5 + 4, none⟩) hbw).trans d4
        have HDO := Lib.hid fun W (hW : Two w W b m b' g x y s s) => does_any hW (d k).k 0 (d k).c (d k).i (d k).own
        clear hcell d0 d1 d2 d3 d4
        generalize (d k).k = a0 at *
        generalize (d k).now = a1 at *
        generalize (d k).c = a2 at *
        generalize (d k).i = a3 at *
        generalize (d k).own = a4 at *
        go_wp2_with fail
        refine (HDO.out _ (HTK.out.below ((Below.refl _ _).alloc (Nat.le_refl _) _))).mono ?_
        rintro e w3 ⟨rfl, ht3⟩
        have HT3 := Lib.hid ht3
        clear ht3
        go_wp2_with fail
        exact ⟨⟨k + 1, _, by omega, by omega, by go_num, HT3.out⟩, by simp [intOf]; omega⟩
      · have hor : ¬ (k : Int) < (n : Int) ∨ ((k : Int) < (n : Int) ∧ ¬ (k : Int) < 20) := by omega
        clear hin
        rcases hor with hx1 | ⟨hx1, hx2⟩
        all_goals
          go_wp2_with fail
          go_meet
          case rel => exact ⟨s, HTK.out⟩
  case rest =>
    obtain ⟨s, ht⟩ := hcut
    have HTK := Lib.hid ht
    clear ht
    by_cases hcc : (1 ≤ c ∧ c ≤ 8) ∧ 1 ≤ i ∧ i ≤ 32
    · obtain ⟨⟨c1, c2⟩, i1, i2⟩ := hcc
      have c1' : ¬ c < 1 := by omega
      have c2' : ¬ 8 < c := by omega
      have i1' : ¬ i < 1 := by omega
      have i2' : ¬ 32 < i := by omega
      have HCI := Lib.hid (And.intro (And.intro c1 c2) (And.intro i1 i2))
      obtain ⟨ki, hki⟩ := Int.eq_ofNat_of_zero_le (show 0 ≤ i by omega)
      subst hki
      obtain ⟨ax, hax, _, hx⟩ := HTK.out.r.wx
      have u0 := blk_cell hax (hx ki (by omega))
      have u1 := blk_cell (j := 1) HTK.out.r.blk rfl
      have ik0 : (0 : Int) ≤ (ki : Int) := by omega
      have ik1 : (ki : Int) < 33 := by omega
      have HAF := Lib.hid (fun h => ask_first (s := s) (c := c) (i := ki) ⟨c1, c2⟩ ⟨i1, i2⟩ h own)
      clear hax hx
      by_cases hw : s.wc ki = 0 ∨ s.wc ki = c
      · have HAK := Lib.hid (HAF.out hw)
        have HA := Lib.hid (ask_any HTK.out.p 0 c ki own)
        have hor2 : ((s.wc (ki : Int) != 0) = false) ∨ ((s.wc (ki : Int) != 0) = true ∧ (s.wc (ki : Int) != c) = false) := by
          rcases hw with hw | hw
          · exact .inl (by simp [hw])
          · exact .inr ⟨by simp [hw]; omega, by simp [hw]⟩
        clear hw HAF
        generalize s.wc (ki : Int) = wck at *
        rcases hor2 with q0 | ⟨q0, q1⟩
        all_goals
          go_wp2_with fail
          refine (HA.out).mono ?_
          rintro e w3 ⟨v3, rfl, ho3, ht3, hf3⟩
          have H3 := Lib.hid (HTK.out.one.turn ht3 hf3)
          obtain ⟨A3, q3, rfl, _⟩ := own_shape ho3
          clear ho3 ht3 hf3
          rcases HAK.out with ⟨_, hl, he⟩ | ⟨hl, he, hs⟩
          · rw [hl, he]
            clear hl he
            go_wp2_with (go_at_call 11; refine (lives_any _).mono ?_; rintro e w6 ⟨rfl, hb6⟩; have HB6 := Lib.hid hb6; clear hb6)
            go_ret
            exact ⟨rfl, below_then H3.out.bel HB6.out⟩
          · rw [he]
            rw [hs] at H3
            have HL := Lib.hid hl
            clear hl he hs HA HAK u0 u1 q0
            generalize hnn : (ask s 0 c (ki : Int) own).1.length = nn at *
            have hnn0 : 0 < nn := HL.out
            clear hnn
            go_upto_block 2 with fail
            go_cut [19] from 102 to 111 (fun _ wx => ∃ s', Wt s' c ki ∧ One w wx b m s')
            case first =>
              go_wp2_with fail
              go_loopw [19] (fun z wr => ∃ (j : Nat) (s' : Tab), 1 ≤ j ∧ j ≤ 9 ∧ z = .int .i64 j ∧ Dr s' c ki j ∧ One w wr b m s') (fun z _ => 9 - (intOf z).toNat)
              case atStart => exact ⟨1, _, Nat.le_refl _, by omega, rfl, Dr.start s c ki, H3.out⟩
              case round =>
                obtain ⟨j, s', hj1, hj, rfl, hdr, ho⟩ := hrel
                have HDR := Lib.hid hdr
                have HON := Lib.hid ho
                clear hdr ho
                by_cases hj9 : j < 9
                · have hj9' : (j : Int) ≤ 8 := by omega
                  by_cases hjc : (j : Int) = c
                  · have qj : ((j : Int) != c) = false := by simpa using hjc
                    have HDS := Lib.hid (HDR.out.skip hjc)
                    clear hjc
                    go_wp2_with fail
                    exact ⟨⟨j + 1, s', by omega, by omega, by go_num, HDS.out, HON.out⟩, by simp [intOf]; omega⟩
                  · have qj : ((j : Int) != c) = true := by simpa using hjc
                    have HDS := Lib.hid (HDR.out.drop hjc)
                    have HDP := Lib.hid (drop_any HON.out.p j)
                    clear hjc
                    go_wp2_with (go_at_call 13; refine (HDP.out).mono ?_; rintro e w4 ⟨rfl, ht4, hf4⟩; have HO4 := Lib.hid (HON.out.turn ht4 hf4); clear ht4 hf4)
                    exact ⟨⟨j + 1, _, by omega, by omega, by go_num, HDS.out, HO4.out⟩, by simp [intOf]; omega⟩
                · obtain rfl : j = 9 := by omega
                  have hj9' : ¬ ((9 : Nat) : Int) ≤ 8 := by omega
                  have HWT := Lib.hid (HDR.out.done HON.out.p.ok)
                  clear hj1 hj
                  go_wp2_with fail
                  go_meet
                  case rel => exact ⟨s', HWT.out, HON.out⟩
            case rest =>
              obtain ⟨s', hwt, ho4⟩ := hcut
              have HWT := Lib.hid hwt
              have HON := Lib.hid ho4
              clear hwt ho4 H3
              go_upto_block 4 with fail
              go_cut [20, 21, 22, 23] from 112 to 156 (fun _ _ _ _ wx => One w wx b m s')
              case first =>
                go_wp2_with fail
                go_loopw [20] (fun z wr => ∃ k4 : Nat, k4 ≤ 20 ∧ k4 ≤ n2 ∧ z = .int .i64 k4 ∧ One w wr b m s') (fun z _ => 20 - (intOf z).toNat)
                case atStart => exact ⟨0, by omega, by omega, rfl, HON.out⟩
                case round =>
                  obtain ⟨k4, hk4, hk4n, rfl, ho4⟩ := hrel
                  have HO4 := Lib.hid ho4
                  clear ho4
                  by_cases hin4 : k4 < n2 ∧ k4 < 20
                  · obtain ⟨hlt4, h204⟩ := hin4
                    have hlt4' : (k4 : Int) < (n2 : Int) := by omega
                    have h204' : (k4 : Int) < 20 := by omega
                    obtain ⟨bd, off, rfl, hbw, hcell⟩ := HD2.out (by omega)
                    obtain ⟨d0, d1, d2', d3, d4⟩ := hcell k4 hlt4
                    have e0 := (HO4.out.bel.cell (p := ⟨bd, off + k4 * 5, none⟩) hbw).trans d0
                    have e1 := (HO4.out.bel.cell (p := ⟨bd, off + k4 * 5 + 1, none⟩) hbw).trans d1
                    have e2 := (HO4.out.bel.cell (p := ⟨bd, off + k4 * 5 + 2, none⟩) hbw).trans d2'
                    have e3 := (HO4.out.bel.cell (p := ⟨bd, off + k4 * 5 + 3, none⟩) hbw).trans d3
                    have e4 := (HO4.out.bel.cell (p := ⟨bd, off + k4 * 5 + 4, none⟩) hbw).trans d4
                    clear hcell d0 d1 d2' d3 d4
                    generalize (d2 k4).k = a0 at *
                    generalize (d2 k4).now = a1 at *
                    generalize (d2 k4).c = a2 at *
                    generalize (d2 k4).i = a3 at *
                    generalize (d2 k4).own = a4 at *
                    have HBX := Lib.hid (HO4.out.below ((Below.refl _ _).alloc (Nat.le_refl _) (.cells #[.int .i64 a0, .int .i64 a1, .int .i64 a2, .int .i64 a3, .bool a4] 28)))
                    by_cases t0 : a0 = 0
                    · have q0 : (a0 == 0) = true := by simpa using t0
                      by_cases t1 : a2 = c
                      · have q1 : (a2 != c) = false := by simpa using t1
                        clear t0 t1
                        go_wp2_with fail
                        exact ⟨⟨k4 + 1, by omega, by omega, by go_num, HBX.out⟩, by simp [intOf]; omega⟩
                      · have q1 : (a2 != c) = true := by simpa using t1
                        have HNE := Lib.hid t1
                        by_cases t2 : a3 = (ki : Int)
                        · have q2 : (a3 == (ki : Int)) = true := by simpa using t2
                          have HEQ := Lib.hid t2
                          clear t0 t1 t2
                          have HW5 := Lib.hid (show ((ask s' (a1.tmod 64) a2 a3 a4).2.1 == 0) = false ∧ (ask s' (a1.tmod 64) a2 a3 a4).2.2 = s' from by
                            rw [HEQ.out]
                            exact HWT.out.other HCI.out.1.1 HNE.out (Int.tmod_lt_of_pos a1 (by decide)) a4)
                          have HA5 := Lib.hid (ask_any HBX.out.p (a1.tmod 64) a2 a3 a4)
                          go_wp2_with fail
                          refine (HA5.out).mono ?_
                          rintro e w7 ⟨v7, rfl, ho7, ht7, hf7⟩
                          rw [HW5.out.2] at ht7
                          have HO7 := Lib.hid (HBX.out.turn ht7 hf7)
                          have her := HW5.out.1
                          obtain ⟨A7, q7, rfl, _⟩ := own_shape ho7
                          clear ho7 ht7 hf7
                          generalize (ask s' (a1.tmod 64) a2 a3 a4).2.1 = er at *
                          generalize (ask s' (a1.tmod 64) a2 a3 a4).1.length = nl at *
                          go_wp2_with fail
                          exact ⟨⟨k4 + 1, by omega, by omega, by go_num, HO7.out⟩, by simp [intOf]; omega⟩
                        · have q2 : (a3 == (ki : Int)) = false := by simpa using t2
                          clear t0 t1 t2
                          go_wp2_with fail
                          exact ⟨⟨k4 + 1, by omega, by omega, by go_num, HBX.out⟩, by simp [intOf]; omega⟩
                    · have q0 : (a0 == 0) = false := by simpa using t0
                      clear t0
                      go_wp2_with fail
                      exact ⟨⟨k4 + 1, by omega, by omega, by go_num, HBX.out⟩, by simp [intOf]; omega⟩
                  · have hor4 : ¬ (k4 : Int) < (n2 : Int) ∨ ((k4 : Int) < (n2 : Int) ∧ ¬ (k4 : Int) < 20) := by omega
                    clear hin4
                    rcases hor4 with hy1 | ⟨hy1, hy2⟩
                    all_goals
                      go_wp2_with fail
                      go_meet
                      case rel => exact HO4.out
              case rest =>
                have HO4 := Lib.hid hcut
                clear hcut
                by_cases hlt0 : later < 0
                · have hX : 0 ≤ -((later + 1).tmod 64) ∧ -((later + 1).tmod 64) < 64 := by
                    rw [← Int.neg_tmod]
                    exact ⟨Int.tmod_nonneg _ (by omega), Int.tmod_lt_of_pos _ (by decide)⟩
                  have HLA := Lib.hid (HWT.out.last HCI.out.1 HCI.out.2 (now := (-((later + 1).tmod 64))) hX own)
                  clear hX
                  go_wp2_with fail
                  refine (ask_any HO4.out.p (-((later + 1).tmod 64)) c ki own).mono ?_
                  rintro e w8 ⟨v8, rfl, ho8, ht8, hf8⟩
                  have HO8 := Lib.hid (HO4.out.turn ht8 hf8)
                  rw [HLA.out.1] at ho8
                  have hfi := find_any ht8 c ki
                  obtain ⟨A8, q8, rfl, _⟩ := own_shape ho8
                  rw [HLA.out.2.1]
                  have hgot : got (ask s' (-((later + 1).tmod 64)) c ki own).2.2.g (ki : Int) c = .agg #[.int .i64 c, .int .i64 ki, .bool own, .int .i64 ((-((later + 1).tmod 64)) + 64)] := by
                    unfold got
                    rw [HLA.out.2.2]
                    rfl
                  rw [hgot, HLA.out.2.2] at hfi
                  have HFI := Lib.hid hfi
                  clear ho8 ht8 hf8 hgot hfi
                  generalize (-((later + 1).tmod 64)) + 64 = tl at *
                  go_wp2_with fail
                  refine (HFI.out).mono ?_
                  rintro e w9 ⟨rfl, hb9⟩
                  have HO9 := Lib.hid ((HO8.out.below hb9).below ((Below.refl _ _).alloc (Nat.le_refl _) (.cells #[.int .i64 c, .int .i64 ki, .bool own, .int .i64 tl] 40)))
                  clear hb9 HLA
                  go_wp2_with (go_at_call 11; refine (lives_any _).mono ?_; rintro e w6 ⟨rfl, hb6⟩; have HB6 := Lib.hid hb6; clear hb6)
                  all_goals
                    go_ret
                    exact ⟨rfl, below_then HO9.out.bel HB6.out⟩
                · have hX : 0 ≤ later % 64 ∧ later % 64 < 64 := by omega
                  have hl0 : 0 ≤ later := by omega
                  have HLA := Lib.hid (HWT.out.last HCI.out.1 HCI.out.2 (now := (later % 64)) hX own)
                  clear hX
                  go_wp2_with fail
                  refine (ask_any HO4.out.p (later % 64) c ki own).mono ?_
                  rintro e w8 ⟨v8, rfl, ho8, ht8, hf8⟩
                  have HO8 := Lib.hid (HO4.out.turn ht8 hf8)
                  rw [HLA.out.1] at ho8
                  have hfi := find_any ht8 c ki
                  obtain ⟨A8, q8, rfl, _⟩ := own_shape ho8
                  rw [HLA.out.2.1]
                  have hgot : got (ask s' (later % 64) c ki own).2.2.g (ki : Int) c = .agg #[.int .i64 c, .int .i64 ki, .bool own, .int .i64 ((later % 64) + 64)] := by
                    unfold got
                    rw [HLA.out.2.2]
                    rfl
                  rw [hgot, HLA.out.2.2] at hfi
                  have HFI := Lib.hid hfi
                  clear ho8 ht8 hf8 hgot hfi
                  generalize (later % 64) + 64 = tl at *
                  go_wp2_with fail
                  refine (HFI.out).mono ?_
                  rintro e w9 ⟨rfl, hb9⟩
                  have HO9 := Lib.hid ((HO8.out.below hb9).below ((Below.refl _ _).alloc (Nat.le_refl _) (.cells #[.int .i64 c, .int .i64 ki, .bool own, .int .i64 tl] 40)))
                  clear hb9 HLA
                  go_wp2_with (go_at_call 11; refine (lives_any _).mono ?_; rintro e w6 ⟨rfl, hb6⟩; have HB6 := Lib.hid hb6; clear hb6)
                  all_goals
                    go_ret
                    exact ⟨rfl, below_then HO9.out.bel HB6.out⟩
      · have q0 : (s.wc (ki : Int) != 0) = true := by simp; omega
        have q1 : (s.wc (ki : Int) != c) = true := by simp; omega
        clear hw HAF
        generalize s.wc (ki : Int) = wck at *
        go_wp2_with (go_at_call 11; refine (lives_any _).mono ?_; rintro e w6 ⟨rfl, hb6⟩; have HB6 := Lib.hid hb6; clear hb6)
        go_ret
        exact ⟨rfl, below_then HTK.out.bel HB6.out⟩
    · have hor2 : c < 1 ∨ (¬ c < 1 ∧ 8 < c) ∨ (¬ c < 1 ∧ ¬ 8 < c ∧ i < 1) ∨ (¬ c < 1 ∧ ¬ 8 < c ∧ ¬ i < 1 ∧ 32 < i) := by omega
      clear hcc
      rcases hor2 with q1 | ⟨q1, q2⟩ | ⟨q1, q2, q3⟩ | ⟨q1, q2, q3, q4⟩
      all_goals
        go_wp2_with (go_at_call 11; refine (lives_any _).mono ?_; rintro e w6 ⟨rfl, hb6⟩; have HB6 := Lib.hid hb6; clear hb6)
        go_ret
        exact ⟨rfl, below_then HTK.out.bel HB6.out⟩
/-! ### THE ROW -/
set_option maxRecDepth 100000 in
theorem leaseWaits_lifted (os : Os) (started : os.Started) (H : Type) (enc : TypeId × Value → H) :
    ReturnsInHanded {} Try.checked os 3 .any (Rows.leaseWaitsSpec.pre6 enc Try.prog Try.f3 Rows.leaseWaitsRow.domain false) (Rows.leaseWaitsSpec.post enc Try.prog Try.f3 false true false false) := by
  refine returnsInHanded_of_change (C := Try.checked) own started (by kernel_rfl) Try.func3
    (ChangeSpec.witness6 (enc := enc) (C := Try.checked) false ⟨#[], #[.slice none 0 0, .int .i64 0, .int .i64 0, .bool false, .slice none 0 0, .int .i64 0], []⟩ 8 (by kernel_rfl) (by kernel_rfl) (by kernel_rfl) (by kernel_rfl)) ?_
  intro W base args ds gs before hval0 hW _ _
  have hval : ∀ (j : Nat) t v, Try.f3.params[j]? = some t → args[j]? = some v → Value.okWide Try.prog W .any base t v := hval0
  have hW' := hW
  obtain ⟨p, q, hA0, hV, rfl, _, _⟩ := hW
  have hA : DataW.TrodAll enc Try.prog W 0 (fun _ => true) true Try.f3.params.toList args.toList ds p := hA0
  rw [Try.params3] at hA hval
  obtain ⟨v0, vs0, d0, ds0, p0, q0, hargs, rfl, rfl, h0, r0⟩ := trodAll_cons hA
  obtain ⟨v1, vs1, d1, ds1, p1, q1, rfl, rfl, rfl, h1, r1⟩ := trodAll_cons r0
  obtain ⟨v2, vs2, d2, ds2, p2, q2, rfl, rfl, rfl, h2, r2⟩ := trodAll_cons r1
  obtain ⟨v3, vs3, d3, ds3, p3, q3, rfl, rfl, rfl, h3, r3⟩ := trodAll_cons r2
  obtain ⟨v4, vs4, d4, ds4, p4, q4, rfl, rfl, rfl, h4, r4⟩ := trodAll_cons r3
  obtain ⟨v5, vs5, d5, ds5, p5, q5, rfl, rfl, rfl, h5, r5⟩ := trodAll_cons r4
  obtain ⟨rfl, rfl, rfl⟩ := trodAll_nil r5
  obtain rfl : args = #[v0, v1, v2, v3, v4, v5] := by cases args; simp_all
  obtain ⟨rfl, rfl⟩ := trodVars_none hV
  have k0 := h0
  have lt0 : ∀ x ∈ p0, x.block < W.heap.size := by obtain ⟨m, hm⟩ := k0; exact DataW.trod_lt m _ _ _ hm
  obtain ⟨A0, n0, c0, dd0, rfl, w0⟩ := open_deeds (hval 0 22 v0 rfl rfl) h0
  obtain ⟨a1, rfl, rfl, rfl, w1⟩ := open_int Try.underlying3 (hval 1 3 v1 rfl rfl) h1
  obtain ⟨a2, rfl, rfl, rfl, w2⟩ := open_int Try.underlying3 (hval 2 3 v2 rfl rfl) h2
  obtain ⟨a3, rfl, rfl, rfl⟩ := open_bool Try.underlying4 (hval 3 4 v3 rfl rfl) h3
  have k4 := h4
  have lt4 : ∀ x ∈ p4, x.block < W.heap.size := by obtain ⟨m, hm⟩ := k4; exact DataW.trod_lt m _ _ _ hm
  obtain ⟨A4, n4, c4, dd4, rfl, w4⟩ := open_deeds (hval 4 22 v4 rfl rfl) h4
  obtain ⟨a5, rfl, rfl, rfl, w5⟩ := open_int Try.underlying3 (hval 5 3 v5 rfl rfl) h5
  clear hA0 hval0
  refine (lawWaits A0 n0 c0 dd0 a1 a2 a3 A4 n4 c4 dd4 a5 W (bounds_i64 w5).1 (bounds_i64 w5).2 w0 w4).mono fun e W' ⟨he, bel⟩ => ?_
  subst he
  exact ⟨_, rfl, _, _, _, [], _, [], hW', trodAll_mk1 (shut_bool Try.underlying4 _), (trodAll_cons_mk (Below.trod laidOut (by kernel_rfl) (of_decide_eq_true (by kernel_rfl)) k0 bel lt0) (trodAll_cons_mk (shut_int Try.underlying3 w1) (trodAll_cons_mk (shut_int Try.underlying3 w2) (trodAll_cons_mk (shut_bool Try.underlying4 a3) (trodAll_cons_mk (Below.trod laidOut (by kernel_rfl) (of_decide_eq_true (by kernel_rfl)) k4 bel lt4) (trodAll_cons_mk (shut_int Try.underlying3 w5) trodAll_mk0)))))), rfl, bel.frame _, fun h => by cases h⟩
theorem leaseWaits_over : Rows.leaseWaitsRow.holds Try.pinned (OpenSpec.ofChange Rows.leaseWaitsSpec) :=
  OpenClaim.holds_of_wide 3 Try.f3 rfl rfl rfl rfl rfl rfl rfl ⟨rfl, rfl, rfl, rfl, rfl⟩ rfl rfl rfl rfl rfl (by kernel_rfl) Try.func3 (by kernel_rfl)
    (of_decide_eq_true (by kernel_rfl)) (by unfold Func.isWrapper; first | (rw [if_pos (by decide +kernel)]; kernel_rfl) | (rw [if_neg (by decide +kernel)]; exact ⟨rfl, rfl⟩))
    (fun os started H enc _ => leaseWaits_lifted os started H enc)
/-- THE STATEMENT. -/
theorem leaseWaits_holds : Rows.LeaseWaitsSaid := leaseWaits_over
end Go.Proofs.Ytpjgcpnjfopolaa
