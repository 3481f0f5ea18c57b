/-
  ClockBound: for any number of nodes, any passes and any moment among them the law returns true: the clocks go nearly alike. No condition.
-/
import Derived.Test.YteodeemghhbfpaaOpen
namespace Go.Proofs.Yteodeemghhbfpaa
open Go.ChangeShapes Go.WideShapes Go.ChangeAt Go.RowKit
/-- What has gone by since a moment th at which the eighths were e0. -/
structure Near (s : St) (e0 : Nat → Int) (th : Int) : Prop where
  t0 : 0 ≤ th
  t1 : th ≤ s.now
  nn : ∀ k, k < s.l.length → 0 ≤ e0 k
  lo : ∀ k, k < s.l.length → 7 * (s.now - th) ≤ s.l.getD k 0 - e0 k
  hi : ∀ k, k < s.l.length → s.l.getD k 0 - e0 k ≤ 9 * (s.now - th)
theorem Near.start (m : Nat) : Near ⟨List.replicate m 0, 0, false⟩ (fun _ => 0) 0 := by
  refine ⟨by decide, by simp, fun _ _ => by simp, fun k h => ?_, fun k h => ?_⟩
  all_goals
    simp only [List.length_replicate] at h
    simp [h]
theorem Near.here {s : St} (h : Fine s) : Near s (fun k => s.l.getD k 0) s.now :=
  ⟨h.now0, Int.le_refl _, fun k _ => (h.cells k).1, fun k _ => by omega, fun k _ => by omega⟩
theorem rate_near {f : Nat → Int} {n : Nat} (h : anyFar 1 f n = false) (i : Nat) : 7 ≤ rate f n i ∧ rate f n i ≤ 9 := by
  unfold rate
  split
  · rename_i hk
    have := far_of_any h hk
    unfold far at this
    simp at this
    omega
  · omega
theorem Near.step {s : St} {e0 : Nat → Int} {th : Int} (h : Near s e0 th) (t : Int) (n : Nat) (f : Nat → Int) (hf : anyFar 1 f n = false) : Near (step s t n f) e0 th ∧ (step s t n f).wild = s.wild := by
  cases hb : bad s t n f
  · obtain ⟨h1, h2, h3, h4, h5⟩ := good_parts hb
    have hn : (Go.Proofs.Yteodeemghhbfpaa.step s t n f).now = s.now + t := by unfold Go.Proofs.Yteodeemghhbfpaa.step; rw [if_neg (by rw [hb]; decide)]
    have hw : (Go.Proofs.Yteodeemghhbfpaa.step s t n f).wild = s.wild := by unfold Go.Proofs.Yteodeemghhbfpaa.step; rw [if_neg (by rw [hb]; decide), hf]; exact Bool.or_false _
    have hl := step_len s t n f
    refine ⟨⟨h.t0, by rw [hn]; have := h.t1; omega, fun k hk => h.nn k (by omega), fun k hk => ?_, fun k hk => ?_⟩, hw⟩
    all_goals
      rw [hl] at hk
      rw [hn, step_get hb k hk]
      have hr := rate_near hf k
      have k1 : t * 7 ≤ t * rate f n k := Int.mul_le_mul_of_nonneg_left hr.1 (by omega)
      have k2 : t * rate f n k ≤ t * 9 := Int.mul_le_mul_of_nonneg_left hr.2 (by omega)
      have := h.lo k hk
      have := h.hi k hk
      omega
  · have : Go.Proofs.Yteodeemghhbfpaa.step s t n f = s := by unfold Go.Proofs.Yteodeemghhbfpaa.step; rw [if_pos hb]
    rw [this]
    exact ⟨h, rfl⟩
theorem Near.ends {s : St} {e0 : Nat → Int} {th : Int} (h : Near s e0 th) (k : Nat) (hk : k < s.l.length) :
    8 * (sh s.l (k : Int) - e0 k / 8) < 9 * (s.now - th) + 8 ∧ 7 * (s.now - th) - 8 < 8 * (sh s.l (k : Int) - e0 k / 8) := by
  have h1 := h.lo k hk
  have h2 := h.hi k hk
  have e : sh s.l (k : Int) = s.l.getD k 0 / 8 := if_pos ⟨by omega, by omega⟩
  rw [e]
  omega
def halves (f : Nat → Int) : Nat → Int := fun i => (f i).tmod 2
theorem halves_near (f : Nat → Int) (n : Nat) : anyFar 1 (halves f) n = false := by
  simp only [anyFar, List.any_eq_false, List.mem_range]
  intro i _
  unfold far halves
  have h1 : (f i).tmod 2 < 2 := Int.tmod_lt_of_pos _ (by decide)
  have h2 : -2 < (f i).tmod 2 := Int.lt_tmod_of_pos _ (by decide)
  simp
  omega
/-- What the clocks showed at a moment. -/
def Was (w : World) (g2 m : Nat) (e0 : Nat → Int) : Prop := ∃ cur : Array Value, w.heap[g2]? = some (.cells cur 3 (0, 0)) ∧ m ≤ cur.size ∧ ∀ k, k < m → cur[k]? = some (.int .i64 (e0 k / 8))
theorem Was.cell {w : World} {g2 m : Nat} {e0 : Nat → Int} (h : Was w g2 m e0) (k : Nat) (hk : k < m) : w.cell? ⟨g2, k, none⟩ = some (.int .i64 (e0 k / 8)) := by
  obtain ⟨cur, h1, h2, h3⟩ := h
  exact blk_cell h1 (h3 k hk)
theorem Was.f {w : World} {g2 m : Nat} {e0 : Nat → Int} (h : Was w g2 m e0) (k : Nat) : w.frozen? ⟨g2, k, none⟩ = false := by
  obtain ⟨cur, h1, h2, h3⟩ := h
  exact frozen_of_row _ _ _ _ _ h1
theorem Was.fr {S : Nat → Prop} {w w' : World} {g2 m : Nat} {e0 : Nat → Int} (h : Was w g2 m e0) (k : Fr S w w') (hs : ¬ S g2) : Was w' g2 m e0 := by
  obtain ⟨cur, h1, h2, h3⟩ := h
  exact ⟨cur, k.blk hs h1, h2, h3⟩
theorem Was.set {w : World} {g2 m : Nat} {e0 e1 : Nat → Int} (h : Was w g2 m e0) (k : Nat) (hk : k < m) (z : Int) (hz : e1 k / 8 = z) (he : ∀ i, i ≠ k → e1 i = e0 i) : Was (w.setCell ⟨g2, k, none⟩ (.int .i64 z)) g2 m e1 := by
  obtain ⟨cur, h1, h2, h3⟩ := h
  refine ⟨cur.setIfInBounds k (.int .i64 z), setRow_cell w g2 _ _ _ k h1, by simpa using h2, fun i hi => ?_⟩
  by_cases e : i = k
  · subst e
    rw [hz]
    simp [show i < cur.size by omega]
  · rw [he i e, ← h3 i hi]
    simp [Ne.symm e]
/-- The eighths of a moment, the first k of them anew. -/
def anew (l : List Int) (e0 : Nat → Int) (k : Nat) : Nat → Int := fun i => if i < k then l.getD i 0 else e0 i
def zeros (q : Nat) : List Value := List.replicate q (.int .i64 0)
theorem zeros_succ (q : Nat) : zeros (q + 1) = zeros q ++ [.int .i64 0] := List.replicate_succ'
def halved (f : Nat → Int) (q : Nat) : List Value := (List.range q).map fun (i : Nat) => .int .i64 (halves f i)
theorem halved_succ (f : Nat → Int) (q : Nat) : halved f (q + 1) = halved f q ++ [.int .i64 (halves f q)] := by simp [halved, List.range_succ]
theorem halved_get (f : Nat → Int) (q i : Nat) (h : i < q) : (halved f q)[i]? = some (.int .i64 (halves f i)) := by simp [halved, h]
def S3 (c g g2 : Nat) : Nat → Prop := fun x => Two c g x ∨ x = g2
theorem anew_this (l : List Int) (e0 : Nat → Int) (q : Nat) : anew l e0 (q + 1) q = l.getD q 0 := if_pos (Nat.lt_succ_self q)
theorem anew_other (l : List Int) (e0 : Nat → Int) {q i : Nat} (h : i ≠ q) : anew l e0 (q + 1) i = anew l e0 q i := by
  unfold anew
  by_cases hi : i < q
  · rw [if_pos hi, if_pos (by omega)]
  · rw [if_neg hi, if_neg (by omega)]
theorem Near.anew {s : St} (h : Fine s) (e0 : Nat → Int) (m : Nat) (hm : s.l.length = m) : Near s (anew s.l e0 m) s.now := by
  have e : ∀ k, k < s.l.length → Go.Proofs.Yteodeemghhbfpaa.anew s.l e0 m k = s.l.getD k 0 := fun k hk => if_pos (by omega)
  exact ⟨h.now0, Int.le_refl _, fun k hk => by rw [e k hk]; exact (h.cells k).1, fun k hk => by rw [e k hk]; omega, fun k hk => by rw [e k hk]; omega⟩
set_option maxRecDepth 100000 in
set_option maxHeartbeats 16000000 in
theorem lawBound (nn : Int) (A : Option Addr) (n cap : Nat) (p : Nat → One) (fro : Int) (w : World) (_ : n ≤ cap) (_ : cap ≤ maxLen) (hp : Passes w A n p) :
    Calls Try.prog 5 #[.int .i64 nn, .slice A n cap, .int .i64 fro] w fun e w' => e = .returned (.bool true) ∧ Below w.heap.size w w' := by
  by_cases hin : 1 ≤ nn ∧ nn ≤ 9
  · obtain ⟨h1, h2⟩ := hin
    obtain ⟨m, rfl⟩ := Int.eq_ofNat_of_zero_le (show 0 ≤ nn by omega)
    go_enter Try.func5, Try.ntmps5
    go_wp2_with fail
    refine (new_yes m _ h1 h2).mono ?_
    rintro e w1 ⟨c, g, rfl, hc1, hg1, hat1, hb1⟩
    have HC1 := Lib.hid (And.intro hc1 hg1)
    have BEL := Lib.hid hb1
    have HP := Lib.hid hp
    have HAT := Lib.hid hat1
    clear hp hat1 hb1 hc1 hg1
    go_wp2_with fail
    go_loopw [8, 9] (fun v i wx => ∃ q : Nat, q ≤ m ∧ i = .int .i64 q ∧ wx.ownsRow w1.heap.size 3 1 v q (zeros q) ∧ Below w1.heap.size w1 wx) (fun _ i _ => m - (intOf i).toNat)
    case atStart => exact ⟨0, Nat.zero_le _, rfl, World.ownsRow_nil _ _ _ _, Below.refl _ _⟩
    case round =>
      obtain ⟨q, hq, rfl, hown, hbx⟩ := hrel
      have hB := hbx.size
      by_cases hlq : q < m
      · have hd : decide ((q : Int) < (m : Int)) = true := by simp; omega
        have HSS := Lib.hid (zeros_succ q)
        go_wp2_with (at_builtin; refine wpl_app 30 3 (.int .i64 0) 8 Try.underlying30 info3 rfl (by decide) rfl _ _ rfl rfl hown hbx hB rfl rfl (by omega) ?_; intro v' w' hown' hbel' hB')
        exact ⟨⟨q + 1, by omega, by go_num, by rw [HSS.out]; exact hown', hbel'⟩, by simp [intOf]; omega⟩
      · obtain rfl : m = q := by omega
        have hd : decide ((m : Int) < (m : Int)) = false := by simp
        obtain ⟨G, gc, rfl, hGg⟩ := own_shape hown
        obtain ⟨g2, rfl, hg2, hg2', hrow⟩ := hGg (by omega)
        obtain ⟨cur, hcur, hcs⟩ := own_blk hown
        have hwas : Was wr g2 m (fun _ => 0) := ⟨cur, hcur, hcs, fun k hk => by
          have h1 := hrow k hk
          rw [cell_of_row wr g2 k cur 3 (0, 0) hcur] at h1
          rw [h1]
          simp [zeros, hk]⟩
        have hcc := HAT.out.below hbx
        have hs3 : ∀ x, S3 c g g2 x → w.heap.size ≤ x := fun x hx => by have := BEL.out.size; have := HC1.out.1; have := HC1.out.2; rcases hx with (rfl | rfl) | rfl <;> omega
        have hgw : ¬ Two c g g2 := fun h => by
          have k1 := blk_lt HAT.out.blk
          have k2 := blk_lt HAT.out.row
          rcases h with rfl | rfl <;> omega
        have hfine : Fine ⟨List.replicate (m : Int).toNat 0, 0, false⟩ := Fine.start _ (by omega)
        have BELW := Lib.hid (below_then BEL.out hbx)
        have HWAS := Lib.hid hwas
        have HCC := Lib.hid hcc
        have HS3 := Lib.hid hs3
        have HGW := Lib.hid hgw
        have HFI := Lib.hid hfine
        clear hown hbx hB hrow hcur hcs hwas hcc hs3 hgw hfine hg2 hg2' hGg HC1 BEL HAT
        generalize hwo : wr = wo at *
        clear hwo
        go_wp2_with fail
        go_loopw [10, 11] (fun y i wr => ∃ (j : Nat) (s : St) (e0 : Nat → Int) (th : Int), j ≤ n ∧ i = .int .i64 j ∧ y = .int .i64 th ∧ Fine s ∧ s.l.length = m ∧ s.wild = false ∧ Near s e0 th ∧ CAt wr 42 c g s.l s.now false ∧ Was wr g2 m e0 ∧ Fr (S3 c g g2) wo wr) (fun _ i _ => n - (intOf i).toNat)
        case atStart => exact ⟨0, ⟨List.replicate (m : Int).toNat 0, 0, false⟩, fun _ => 0, 0, Nat.zero_le _, rfl, rfl, HFI.out, by simp, rfl, Near.start _, HCC.out, HWAS.out, Fr.refl _ _⟩
        case round =>
          obtain ⟨j, s, e0, th, hj, rfl, rfl, hfi, hln, hwi, hne, hcc, hwas, hfr⟩ := hrel
          have bel : Below w.heap.size w wr := BELW.out.trans (hfr.below BELW.out.size HS3.out)
          have BELR := Lib.hid bel
          have HCC1 := Lib.hid hcc
          have HWAS1 := Lib.hid hwas
          have HFR := Lib.hid hfr
          have HFL := Lib.hid (And.intro hfi (And.intro hln hwi))
          have HNE := Lib.hid hne
          clear hcc hwas hfr hfi hln hwi hne HCC HWAS HFI
          by_cases hlt : j < n ∧ j < 30
          · obtain ⟨hlt1, hlt2⟩ := hlt
            obtain ⟨b, off, rfl, hb, hcells⟩ := HP.out.at_ (by omega)
            have hd1 : decide ((j : Int) < (n : Int)) = true := by simp; omega
            have hd2 : decide ((j : Int) < 30) = true := by simp; omega
            have hpl := HP.out.le j hlt1
            have hpm := HP.out.max j hlt1
            have hpo := HP.out.old j hlt1
            have hps := HP.out.skews j hlt1
            obtain ⟨hct, hcs⟩ := hcells j hlt1
            generalize hone : p j = o at *
            obtain ⟨t, A', n', cap', f⟩ := o
            simp only at hpl hpm hpo hps hct hcs
            have hps' : Skews wr A' n' f := hps.below bel
            have hA1 : 0 < n' → ∀ x, A' = some x → ¬ S3 c g g2 x.block := fun h0 x e hx => by have := HS3.out _ hx; have := hpo (by omega) x e; omega
            have hb4 : ¬ S3 c g g2 b := fun hx => by have := HS3.out _ hx; omega
            have q1 := (bel.cell (p := ⟨b, off + j * 2, none⟩) hb).trans hct
            have q2 := (bel.cell (p := ⟨b, off + j * 2 + 1, none⟩) hb).trans hcs
            have HQ := Lib.hid (And.intro q1 q2)
            have HPS := Lib.hid hps'
            have HA1 := Lib.hid hA1
            have HB4 := Lib.hid hb4
            have HPLM := Lib.hid (And.intro hpl hpm)
            have HONE := Lib.hid hone
            clear hcells hps hps' hA1 hpo hpl hpm hct hcs hone bel q1 q2 hb4
            by_cases hfro : (j : Int) = fro
            · have hft : ((j : Int) == fro) = true := by simpa using hfro
              clear hfro
              go_wp2_with fail
              go_loopw [12] (fun i wx => ∃ q : Nat, q ≤ m ∧ i = .int .i64 q ∧ Was wx g2 m (anew s.l e0 q) ∧ CAt wx 42 c g s.l s.now false ∧ Fr (S3 c g g2) wr wx) (fun i _ => m - (intOf i).toNat)
              case atStart => exact ⟨0, Nat.zero_le _, rfl, by rw [show anew s.l e0 0 = e0 from funext fun i => if_neg (Nat.not_lt_zero i)]; exact HWAS1.out, HCC1.out, Fr.refl _ _⟩
              case round =>
                obtain ⟨q, hq, rfl, hwas, hcc, hfx⟩ := hrel
                by_cases hlq : q < m
                · have hd : decide ((q : Int) < (m : Int)) = true := by simp; omega
                  have cw := hwas.cell q hlq
                  have fw := hwas.f q
                  have HSX := Lib.hid (show_any hcc (q : Int))
                  have he : sh s.l (q : Int) = s.l.getD q 0 / 8 := if_pos ⟨by omega, by have := HFL.out.2.1; omega⟩
                  have hset := hwas.set (e1 := anew s.l e0 (q + 1)) q hlq (sh s.l (q : Int)) (by rw [anew_this, he]) (fun i hi => anew_other s.l e0 hi)
                  have hcs := hcc.fr (S := fun x => x = g2) ((Fr.refl (fun x => x = g2) wr).setCell (b := g2) (i := q) (.inl rfl) (.int .i64 (sh s.l (q : Int)))) (fun h => HGW.out (.inl h.symm)) (fun h => HGW.out (.inr h.symm))
                  have hfs := hfx.setCell (b := g2) (i := q) (.inl (.inr rfl)) (.int .i64 (sh s.l (q : Int)))
                  generalize sh s.l (q : Int) = z at *
                  generalize anew s.l e0 q q / 8 = y at *
                  have HSET := Lib.hid (And.intro hset (And.intro hcs hfs))
                  clear hset hcs hfs hcc hwas hfx he
                  go_wp2_with (go_at_call 15; refine (HSX.out).mono ?_; rintro e w6 ⟨rfl, rfl⟩)
                  exact ⟨⟨q + 1, by omega, by go_num, HSET.out.1, HSET.out.2.1, HSET.out.2.2⟩, by simp [intOf]; omega⟩
                · obtain rfl : m = q := by omega
                  have hd : decide ((m : Int) < (m : Int)) = false := by simp
                  have hnear := Near.anew HFL.out.1 e0 m HFL.out.2.1
                  have HTX := Lib.hid (true_any hcc)
                  have HCC2 := Lib.hid hcc
                  have HWAS2 := Lib.hid hwas
                  have HNE2 := Lib.hid hnear
                  have HFR2 := Lib.hid (HFR.out.trans hfx)
                  have HQ2 := Lib.hid (And.intro (hfx.cell HB4.out HQ.out.1) (hfx.cell HB4.out HQ.out.2))
                  have HPS2 := Lib.hid (HPS.out.fr hfx HA1.out)
                  have BELR2 := Lib.hid (BELR.out.trans (hfx.below BELR.out.size HS3.out))
                  clear hnear hcc hwas hfx HCC1 HWAS1 HNE HFR HQ HPS BELR HA1
                  generalize anew s.l e0 m = e1 at *
                  go_wp2_with fail
                  refine (HTX.out).mono ?_
                  rintro e w6 ⟨rfl, rfl⟩
                  clear HTX
                  go_wp2_with fail
                  go_loopw [13, 14] (fun v i wx => ∃ q : Nat, q ≤ n' ∧ q ≤ m ∧ i = .int .i64 q ∧ wx.ownsRow wr.heap.size 3 1 v q (halved f q) ∧ Below wr.heap.size wr wx) (fun _ i _ => m - (intOf i).toNat)
                  case atStart => exact ⟨0, Nat.zero_le _, Nat.zero_le _, rfl, World.ownsRow_nil _ _ _ _, Below.refl _ _⟩
                  case round =>
                    obtain ⟨q, hq1, hq2, rfl, hown, hbx⟩ := hrel
                    have hB := hbx.size
                    have q1 := (hbx.cell (p := ⟨b, off + j * 2, none⟩) (Nat.lt_of_lt_of_le hb BELR2.out.size)).trans HQ2.out.1
                    have q2 := (hbx.cell (p := ⟨b, off + j * 2 + 1, none⟩) (Nat.lt_of_lt_of_le hb BELR2.out.size)).trans HQ2.out.2
                    by_cases hlq : q < n' ∧ q < m
                    · obtain ⟨hlq1, hlq2⟩ := hlq
                      have hd3 : decide ((q : Int) < (n' : Int)) = true := by simp; omega
                      have hd4 : decide ((q : Int) < (m : Int)) = true := by simp; omega
                      obtain ⟨sb, so, rfl, hsb, hsc⟩ := HPS2.out (by omega)
                      have hsx := (hbx.cell (p := ⟨sb, so + q, none⟩) hsb).trans (hsc q hlq1)
                      have HSS := Lib.hid (halved_succ f q)
                      have HHV : Hid (halves f q = (f q).tmod 2) := Lib.hid rfl
                      have hm1 : (f q).tmod 2 < 2 := Int.tmod_lt_of_pos _ (by decide)
                      have hm2 : -2 < (f q).tmod 2 := Int.lt_tmod_of_pos _ (by decide)
                      generalize halves f q = hv at *
                      generalize f q = y at *
                      clear hsc
                      go_wp2_with (at_builtin; refine wpl_app 30 3 (.int .i64 0) 8 Try.underlying30 info3 rfl (by decide) rfl _ _ rfl rfl hown hbx hB rfl rfl (by omega) ?_; intro v' w' hown' hbel' hB')
                      exact ⟨⟨q + 1, by omega, by omega, by go_num, by rw [HSS.out, HHV.out]; exact hown', hbel'⟩, by simp [intOf]; omega⟩
                    · obtain ⟨G, gc, rfl, hGg⟩ := own_shape hown
                      have hsk : Skews wr G q (halves f) := fun h0 => by
                        obtain ⟨g3, e, k1, k2, k3⟩ := hGg h0
                        exact ⟨g3, 0, e, k2, fun jj hjj => by rw [Nat.zero_add, k3 jj hjj, halved_get _ _ _ hjj]⟩
                      have hG1 : 0 < q → ∀ x, G = some x → ¬ Two c g x.block := fun h0 x e hx => by
                        obtain ⟨g3, e', k1, k2, k3⟩ := hGg h0
                        rw [e'] at e
                        injection e with e
                        subst e
                        have k4 := blk_lt HCC2.out.blk
                        have k5 := blk_lt HCC2.out.row
                        rcases hx with k6 | k6
                        all_goals
                          simp only at k6
                          omega
                      have hccx : CAt wr 42 c g s.l s.now s.wild := by rw [HFL.out.2.2]; exact HCC2.out.below hbx
                      have hp1 := pass_any c g s t G q gc (halves f) wr hccx HFL.out.1 hsk hG1 (by omega)
                      have hfrx := HFR2.out.trans (Fr.of_below hbx)
                      have hwx := HWAS2.out.fr (Fr.of_below (S := fun _ => False) hbx) id
                      have HPA := Lib.hid hp1
                      have HFRX := Lib.hid hfrx
                      have HWX := Lib.hid hwx
                      have hor : n' ≤ q ∨ (q < n' ∧ m ≤ q) := (Nat.lt_or_ge q n').elim (fun h => .inr ⟨h, Nat.le_of_not_lt fun h2 => hlq ⟨h, h2⟩⟩) .inl
                      clear hsk hG1 hccx hp1 hfrx hwx hown hbx hGg hlq hB
                      rcases hor with hu3 | ⟨hu3, hu4⟩
                      all_goals
                        go_wp2_with fail
                        refine (HPA.out).mono ?_
                        rintro e w4 ⟨rfl, hcc4, hf4⟩
                        have hnear := HNE2.out.step t q (halves f) (halves_near f q)
                        have hfi4 := HFL.out.1.step t q (halves f)
                        have hln4 := (step_len s t q (halves f)).trans HFL.out.2.1
                        have hwas4 := HWX.out.fr hf4 HGW.out
                        have hfr4 := HFRX.out.trans (hf4.mono fun x hx => Or.inl hx)
                        rw [hnear.2, HFL.out.2.2] at hcc4
                        have hwi4 := hnear.2.trans HFL.out.2.2
                        have hnear4 := hnear.1
                        generalize step s t q (halves f) = s2 at *
                        have HEND := Lib.hid (And.intro hfi4 (And.intro hln4 (And.intro hwi4 (And.intro hnear4 (And.intro hcc4 (And.intro hwas4 hfr4))))))
                        clear hnear hnear4 hfi4 hln4 hwas4 hfr4 hcc4 hwi4 hf4
                        go_wp2_with fail
                        exact ⟨⟨j + 1, s2, e1, s.now, by omega, by go_num, rfl, HEND.out.1, HEND.out.2.1, HEND.out.2.2.1, HEND.out.2.2.2.1, HEND.out.2.2.2.2.1, HEND.out.2.2.2.2.2.1, HEND.out.2.2.2.2.2.2⟩, by simp [intOf]; omega⟩
            · have hft : ((j : Int) == fro) = false := by simpa using hfro
              have HCC2 := HCC1
              have HWAS2 := HWAS1
              have HNE2 := HNE
              have HFR2 := HFR
              have HQ2 := HQ
              have HPS2 := HPS
              have BELR2 := BELR
              clear HCC1 HWAS1 HNE HFR HQ HPS BELR HA1 hfro
              go_wp2_with fail
              go_loopw [13, 14] (fun v i wx => ∃ q : Nat, q ≤ n' ∧ q ≤ m ∧ i = .int .i64 q ∧ wx.ownsRow wr.heap.size 3 1 v q (halved f q) ∧ Below wr.heap.size wr wx) (fun _ i _ => m - (intOf i).toNat)
              case atStart => exact ⟨0, Nat.zero_le _, Nat.zero_le _, rfl, World.ownsRow_nil _ _ _ _, Below.refl _ _⟩
              case round =>
                obtain ⟨q, hq1, hq2, rfl, hown, hbx⟩ := hrel
                have hB := hbx.size
                have q1 := (hbx.cell (p := ⟨b, off + j * 2, none⟩) (Nat.lt_of_lt_of_le hb BELR2.out.size)).trans HQ2.out.1
                have q2 := (hbx.cell (p := ⟨b, off + j * 2 + 1, none⟩) (Nat.lt_of_lt_of_le hb BELR2.out.size)).trans HQ2.out.2
                by_cases hlq : q < n' ∧ q < m
                · obtain ⟨hlq1, hlq2⟩ := hlq
                  have hd3 : decide ((q : Int) < (n' : Int)) = true := by simp; omega
                  have hd4 : decide ((q : Int) < (m : Int)) = true := by simp; omega
                  obtain ⟨sb, so, rfl, hsb, hsc⟩ := HPS2.out (by omega)
                  have hsx := (hbx.cell (p := ⟨sb, so + q, none⟩) hsb).trans (hsc q hlq1)
                  have HSS := Lib.hid (halved_succ f q)
                  have HHV : Hid (halves f q = (f q).tmod 2) := Lib.hid rfl
                  have hm1 : (f q).tmod 2 < 2 := Int.tmod_lt_of_pos _ (by decide)
                  have hm2 : -2 < (f q).tmod 2 := Int.lt_tmod_of_pos _ (by decide)
                  generalize halves f q = hv at *
                  generalize f q = y at *
                  clear hsc
                  go_wp2_with (at_builtin; refine wpl_app 30 3 (.int .i64 0) 8 Try.underlying30 info3 rfl (by decide) rfl _ _ rfl rfl hown hbx hB rfl rfl (by omega) ?_; intro v' w' hown' hbel' hB')
                  exact ⟨⟨q + 1, by omega, by omega, by go_num, by rw [HSS.out, HHV.out]; exact hown', hbel'⟩, by simp [intOf]; omega⟩
                · obtain ⟨G, gc, rfl, hGg⟩ := own_shape hown
                  have hsk : Skews wr G q (halves f) := fun h0 => by
                    obtain ⟨g3, e, k1, k2, k3⟩ := hGg h0
                    exact ⟨g3, 0, e, k2, fun jj hjj => by rw [Nat.zero_add, k3 jj hjj, halved_get _ _ _ hjj]⟩
                  have hG1 : 0 < q → ∀ x, G = some x → ¬ Two c g x.block := fun h0 x e hx => by
                    obtain ⟨g3, e', k1, k2, k3⟩ := hGg h0
                    rw [e'] at e
                    injection e with e
                    subst e
                    have k4 := blk_lt HCC2.out.blk
                    have k5 := blk_lt HCC2.out.row
                    rcases hx with k6 | k6
                    all_goals
                      simp only at k6
                      omega
                  have hccx : CAt wr 42 c g s.l s.now s.wild := by rw [HFL.out.2.2]; exact HCC2.out.below hbx
                  have hp1 := pass_any c g s t G q gc (halves f) wr hccx HFL.out.1 hsk hG1 (by omega)
                  have hfrx := HFR2.out.trans (Fr.of_below hbx)
                  have hwx := HWAS2.out.fr (Fr.of_below (S := fun _ => False) hbx) id
                  have HPA := Lib.hid hp1
                  have HFRX := Lib.hid hfrx
                  have HWX := Lib.hid hwx
                  have hor : n' ≤ q ∨ (q < n' ∧ m ≤ q) := (Nat.lt_or_ge q n').elim (fun h => .inr ⟨h, Nat.le_of_not_lt fun h2 => hlq ⟨h, h2⟩⟩) .inl
                  clear hsk hG1 hccx hp1 hfrx hwx hown hbx hGg hlq hB
                  rcases hor with hu3 | ⟨hu3, hu4⟩
                  all_goals
                    go_wp2_with fail
                    refine (HPA.out).mono ?_
                    rintro e w4 ⟨rfl, hcc4, hf4⟩
                    have hnear := HNE2.out.step t q (halves f) (halves_near f q)
                    have hfi4 := HFL.out.1.step t q (halves f)
                    have hln4 := (step_len s t q (halves f)).trans HFL.out.2.1
                    have hwas4 := HWX.out.fr hf4 HGW.out
                    have hfr4 := HFRX.out.trans (hf4.mono fun x hx => Or.inl hx)
                    rw [hnear.2, HFL.out.2.2] at hcc4
                    have hwi4 := hnear.2.trans HFL.out.2.2
                    have hnear4 := hnear.1
                    generalize step s t q (halves f) = s2 at *
                    have HEND := Lib.hid (And.intro hfi4 (And.intro hln4 (And.intro hwi4 (And.intro hnear4 (And.intro hcc4 (And.intro hwas4 hfr4))))))
                    clear hnear hnear4 hfi4 hln4 hwas4 hfr4 hcc4 hwi4 hf4
                    go_wp2_with fail
                    exact ⟨⟨j + 1, s2, e0, th, by omega, by go_num, rfl, HEND.out.1, HEND.out.2.1, HEND.out.2.2.1, HEND.out.2.2.2.1, HEND.out.2.2.2.2.1, HEND.out.2.2.2.2.2.1, HEND.out.2.2.2.2.2.2⟩, by simp [intOf]; omega⟩
          · have hnow := HFL.out.1.now1
            have hd5 : 0 ≤ s.now - th := by have := HNE.out.t1; omega
            have hd6 : s.now - th ≤ 1099511627776 := by have := HNE.out.t0; omega
            have ht0 := HNE.out.t0
            have ht1 := HNE.out.t1
            have HTX := Lib.hid (true_any HCC1.out)
            have HKX := Lib.hid (fun w' (hb : Below wr.heap.size wr w') => kept_any (HCC1.out.below hb))
            have hor : n ≤ j ∨ (j < n ∧ 30 ≤ j) := by omega
            clear hlt HP bel
            rcases hor with hu1 | ⟨hu1, hu2⟩
            all_goals
              go_wp2_with fail
              refine (HTX.out).mono ?_
              rintro e w6 ⟨rfl, rfl⟩
              go_wp2_with fail
              generalize hdd : s.now - th = d at *
              have HDD := Lib.hid hdd
              clear hdd
              go_loopw [16] (fun i wx => ∃ q : Nat, q ≤ m ∧ i = .int .i64 q ∧ Below wr.heap.size wr wx) (fun i _ => m - (intOf i).toNat)
              case atStart => exact ⟨0, Nat.zero_le _, rfl, Below.refl _ _⟩
              case round =>
                obtain ⟨q, hq, rfl, hbx⟩ := hrel
                by_cases hlq : q < m
                · have hd7 : decide ((q : Int) < (m : Int)) = true := by simp; omega
                  have hccx := HCC1.out.below hbx
                  have hwx := (HWAS1.out.fr (Fr.of_below (S := fun _ => False) hbx) id).cell q hlq
                  have hends := HNE.out.ends q (by have := HFL.out.2.1; omega)
                  rw [HDD.out] at hends
                  have hz1 : 0 ≤ sh s.l (q : Int) ∧ sh s.l (q : Int) ≤ 17592186044416 := by
                    have hc := HFL.out.1.small q
                    rw [show sh s.l (q : Int) = s.l.getD q 0 / 8 from if_pos ⟨by omega, by have := HFL.out.2.1; omega⟩]
                    omega
                  have hz2 : 0 ≤ e0 q / 8 ∧ e0 q / 8 ≤ 17592186044416 := by
                    have hc := HFL.out.1.small q
                    have h2 := HNE.out.nn q (by have := HFL.out.2.1; omega)
                    have h3 := HNE.out.lo q (by have := HFL.out.2.1; omega)
                    omega
                  have hS := fun dd os => (show_any (hccx.below (below_regrown wr dd os)) (q : Int)).mono (R' := fun e w' => e = .returned (.int .i64 (sh s.l (q : Int))) ∧ Below (Go.Sort.grow (redrawn wr dd) os).heap.size (Go.Sort.grow (redrawn wr dd) os) w') (fun e w' ⟨he, hw⟩ => ⟨he, hw ▸ Below.refl _ _⟩)
                  have k1 := fun dd os => cell_regrown hwx dd os
                  have HS := Lib.hid hS
                  have HBX := Lib.hid hbx
                  have HE := Lib.hid hends
                  clear hS hbx hccx hwx hends
                  generalize sh s.l (q : Int) = z at *
                  generalize e0 q / 8 = y at *
                  obtain ⟨hz11, hz12⟩ := hz1
                  obtain ⟨hz21, hz22⟩ := hz2
                  go_wp2_with fail
                  refine wp_region_quiet_below (by kernel_rfl) (by kernel_rfl) ?_
                  repeat (go_big_quiet_step ((go_at_call 15; exact Calls.regrown_of (HS.out _ _))))
                  refine wpQuiet_nil ?_
                  intro w5 hw5
                  have hb5 := below_then HBX.out (near_iff.1 hw5)
                  have HB5 := Lib.hid hb5
                  clear hw5 hb5 HBX HS k1
                  obtain ⟨he1, he2⟩ := HE.out
                  have hx1 : -17592186044416 ≤ z - y := by omega
                  have hx2 : z - y ≤ 17592186044416 := by omega
                  generalize z - y = X at *
                  have ht1' : decide (9 * d + 8 ≤ 8 * X) = false := by simp; omega
                  have ht2' : decide (8 * X ≤ 7 * d - 8) = false := by simp; omega
                  clear HE
                  go_wp2_with fail
                  exact ⟨⟨q + 1, by omega, by go_num, HB5.out⟩, by simp [intOf]; omega⟩
                · have hd7 : decide ((q : Int) < (m : Int)) = false := by simp; omega
                  have hkx := HKX.out wr hbx
                  have hbel := below_then BELR.out hbx
                  have HK := Lib.hid hkx
                  have HBE := Lib.hid hbel
                  clear hkx hbel hbx
                  go_wp2_with (first | (go_at_call 14; refine (HK.out).mono ?_; rintro e w6 ⟨rfl, rfl⟩) | (go_at_call 9; refine (lives_any _).mono ?_; rintro e w7 ⟨rfl, hb7⟩))
                  go_ret
                  exact ⟨rfl, below_then HBE.out hb7⟩
  · have hno : nn < 1 ∨ 9 < nn := by omega
    clear hp
    rcases hno with k1 | k1
    all_goals
      go_enter Try.func5, Try.ntmps5
      go_wp2_with fail
      refine (new_no nn _ (by omega)).mono ?_
      rintro e w1 ⟨rfl, rfl⟩
      go_wp2_with (go_at_call 9; refine (lives_any _).mono ?_; rintro e w7 ⟨rfl, hb7⟩)
      go_ret
      exact ⟨rfl, hb7⟩
/-! ### THE ROW -/
set_option maxRecDepth 100000 in
theorem clockBound_lifted (os : Os) (started : os.Started) (H : Type) (enc : TypeId × Value → H) :
    ReturnsInHanded {} Try.checked os 5 .any (Rows.clockBoundSpec.pre6 enc Try.prog Try.f5 Rows.clockBoundRow.domain false) (Rows.clockBoundSpec.post enc Try.prog Try.f5 false true false false) := by
  refine returnsInHanded_of_change (C := Try.checked) own started (by kernel_rfl) Try.func5
    (ChangeSpec.witness6 (enc := enc) (C := Try.checked) false ⟨#[], #[.int .i64 0, .slice none 0 0, .int .i64 0], []⟩ 8 (by kernel_rfl) (by kernel_rfl) (by kernel_rfl) (by kernel_rfl)) ?_
  intro W base args ds gs before hval0 hW _ _
  have hval : ∀ (j : Nat) t v, Try.f5.params[j]? = some t → args[j]? = some v → Value.okWide Try.prog W .any base t v := hval0
  have hW' := hW
  obtain ⟨p, q, hA0, hV, rfl, _, _⟩ := hW
  have hA : DataW.TrodAll enc Try.prog W 0 (fun _ => true) true Try.f5.params.toList args.toList ds p := hA0
  rw [Try.params5] at hA hval
  obtain ⟨v0, vs0, d0, ds0, p0, q0, hargs, rfl, rfl, h0, r0⟩ := trodAll_cons hA
  obtain ⟨v1, vs1, d1, ds1, p1, q1, rfl, rfl, rfl, h1, r1⟩ := trodAll_cons r0
  obtain ⟨v2, vs2, d2, ds2, p2, q2, rfl, rfl, rfl, h2, r2⟩ := trodAll_cons r1
  obtain ⟨rfl, rfl, rfl⟩ := trodAll_nil r2
  obtain rfl : args = #[v0, v1, v2] := by cases args; simp_all
  obtain ⟨rfl, rfl⟩ := trodVars_none hV
  obtain ⟨a0, rfl, rfl, rfl, w0⟩ := open_int Try.underlying3 (hval 0 3 v0 rfl rfl) h0
  have k1 := h1
  have lt1 : ∀ x ∈ p1, x.block < W.heap.size := by obtain ⟨m, hm⟩ := k1; exact DataW.trod_lt m _ _ _ hm
  obtain ⟨A1, n1, c1, q1, rfl, le1, mx1, w1⟩ := open_passes (hval 1 22 v1 rfl rfl) h1
  obtain ⟨a2, rfl, rfl, rfl, w2⟩ := open_int Try.underlying3 (hval 2 3 v2 rfl rfl) h2
  clear hA0 hval0
  refine (lawBound a0 A1 n1 c1 q1 a2 W le1 mx1 w1).mono fun e W' ⟨he, bel⟩ => ?_
  subst he
  exact ⟨_, rfl, _, _, _, [], _, [], hW', trodAll_mk1 (shut_bool Try.underlying4 _), (trodAll_cons_mk (shut_int Try.underlying3 w0) (trodAll_cons_mk (Below.trod laidOut (by kernel_rfl) (of_decide_eq_true (by kernel_rfl)) k1 bel lt1) (trodAll_cons_mk (shut_int Try.underlying3 w2) trodAll_mk0))), rfl, bel.frame _, fun h => by cases h⟩
theorem clockBound_over : Rows.clockBoundRow.holds Try.pinned (OpenSpec.ofChange Rows.clockBoundSpec) :=
  OpenClaim.holds_of_wide 5 Try.f5 rfl rfl rfl rfl rfl rfl rfl ⟨rfl, rfl, rfl, rfl, rfl⟩ rfl rfl rfl rfl rfl (by kernel_rfl) Try.func5 (by kernel_rfl)
    (of_decide_eq_true (by kernel_rfl)) (by unfold Func.isWrapper; first | (rw [if_pos (by decide +kernel)]; kernel_rfl) | (rw [if_neg (by decide +kernel)]; exact ⟨rfl, rfl⟩))
    (fun os started H enc _ => clockBound_lifted os started H enc)
/-- THE STATEMENT. -/
theorem clockBound_holds : Rows.ClockBoundSaid := clockBound_over
end Go.Proofs.Yteodeemghhbfpaa
