/-
  WALKS: Pass of the program: the clocks go on.
-/
import Derived.Test.YteodeemghhbfpaaPass2
namespace Go.Proofs.Yteodeemghhbfpaa
open Go.RowKit
open Go.Sort (grow)
section
variable {w : World} {T : TypeId} {c g : Nat} {l : List Int} {now : Int} {fl : Bool}
theorem CAt.setG (h : CAt w T c g l now fl) (i : Nat) (x : Int) : CAt (w.setCell ⟨g, i, none⟩ (.int .i64 x)) T c g (l.set i x) now fl :=
  ⟨by rw [List.length_set]; exact blk_set_other h.blk h.ne, by rw [setRow_cell w g _ _ _ i h.row, ia_set], h.ne⟩
theorem CAt.setN (h : CAt w T c g l now fl) (x : Int) : CAt (w.setCell ⟨c, 1, none⟩ (.int .i64 x)) T c g l x fl :=
  ⟨by rw [setRow_cell w c _ _ _ 1 h.blk]; rfl, blk_set_other h.row (Ne.symm h.ne), h.ne⟩
theorem CAt.setF (h : CAt w T c g l now fl) (b : Bool) : CAt (w.setCell ⟨c, 2, none⟩ (.bool b)) T c g l now b :=
  ⟨by rw [setRow_cell w c _ _ _ 2 h.blk]; rfl, blk_set_other h.row (Ne.symm h.ne), h.ne⟩
end
def rate (f : Nat → Int) (n i : Nat) : Int := if i < n then 8 + f i else 8
/-- The eighths, the first k of which have gone on. -/
def mid (t : Int) (f : Nat → Int) (n : Nat) (l : List Int) (k : Nat) : List Int := (List.range l.length).map fun i => if i < k then l.getD i 0 + t * rate f n i else l.getD i 0
theorem mid_len (t : Int) (f : Nat → Int) (n : Nat) (l : List Int) (k : Nat) : (mid t f n l k).length = l.length := by simp [mid]
theorem mid_get (t : Int) (f : Nat → Int) (n : Nat) (l : List Int) (k i : Nat) (h : i < l.length) : (mid t f n l k).getD i 0 = if i < k then l.getD i 0 + t * rate f n i else l.getD i 0 := by simp [mid, h]
theorem mid_zero (t : Int) (f : Nat → Int) (n : Nat) (l : List Int) : mid t f n l 0 = l := by
  apply List.ext_getElem
  · simp [mid]
  · intro i h1 h2
    simp only [mid, List.length_map, List.length_range] at h1
    simp [mid, h1]
theorem mid_succ (t : Int) (f : Nat → Int) (n : Nat) (l : List Int) (k : Nat) : mid t f n l (k + 1) = (mid t f n l k).set k (l.getD k 0 + t * rate f n k) := by
  apply List.ext_getElem
  · simp [mid]
  · intro i h1 h2
    simp only [mid, List.length_map, List.length_range] at h1
    rw [List.getElem_set]
    by_cases e : k = i
    · subst e; simp [mid]
    · simp only [mid, List.getElem_map, List.getElem_range, if_neg e]
      by_cases h3 : i < k
      · simp [h3, show i < k + 1 by omega]
      · simp [h3, show ¬ i < k + 1 by omega]
theorem prod_bd (t x : Int) (h1 : 1 ≤ t) (h2 : t ≤ 64) (h3 : 0 ≤ x) (h4 : x ≤ 16) : 0 ≤ t * x ∧ t * x ≤ 1024 := by
  constructor
  · exact Int.mul_nonneg (by omega) h3
  · have a : t * x ≤ 64 * x := Int.mul_le_mul_of_nonneg_right h2 h3
    omega
theorem far_bd {k : Int} (h : far 8 k = false) : -8 ≤ k ∧ k ≤ 8 := by
  unfold far at h
  simp at h
  omega
/-- The two blocks of some clocks. -/
def Two (c g : Nat) : Nat → Prop := fun k => k = c ∨ k = g
set_option maxHeartbeats 4000000 in
theorem pass_ok (c g : Nat) (l : List Int) (now : Int) (fl : Bool) (t : Int) (A : Option Addr) (n cap : Nat) (f : Nat → Int) (w : World) (hc : CAt w 42 c g l now fl) (hs : Skews w A n f) (hA : 0 < n → ∀ a, A = some a → ¬ Two c g a.block) (hn : n ≤ 1000000)
    (hnow : 0 ≤ now ∧ now ≤ 1099511627776) (hl : l.length ≤ 9) (hp : ∀ i, 0 ≤ l.getD i 0 ∧ l.getD i 0 ≤ 17592186044416) (hbad : ¬ Bad t n l.length f now) :
    Calls Try.prog 10 #[.pointer (some ⟨c, 0, none⟩), .int .i64 t, .slice A n cap] w fun e w' => e = .returned (.int .i64 0) ∧ CAt w' 42 c g (mid t f n l l.length) (now + t) (fl || anyFar 1 f n) ∧ Fr (Two c g) w w' := by
  obtain ⟨fo, hfo⟩ : ∃ fo, fo = (fl || anyFar 1 f n) := ⟨_, rfl⟩
  rw [← hfo]
  have HFO := Lib.hid hfo
  clear hfo
  have hlc := blk_lt hc.blk
  have hlg := blk_lt hc.row
  have hb0 := (Below.refl w.heap.size w).alloc (Nat.le_refl _) (.cells #[.slice A n cap] 30)
  have hc0 := hc.below hb0
  have hs0 := hs.below hb0
  have bb : (w.alloc (.cells #[.slice A n cap] 30)).heap[w.heap.size]? = some (.cells #[.slice A n cap] 30) := heap_alloc_new w _
  have c0 := hc0.c0
  have c1 := hc0.c1
  have cb : (w.alloc (.cells #[.slice A n cap] 30)).cell? ⟨w.heap.size, 0, none⟩ = some (.slice A n cap) := blk_cell bb rfl
  have q0 := fun d os => cell_regrown c0 d os
  have q1 := fun d os => cell_regrown c1 d os
  have qb := fun d os => cell_regrown cb d os
  unfold Bad at hbad
  simp only [not_or, Int.not_lt, Nat.not_lt, Bool.not_eq_true] at hbad
  obtain ⟨ht1, ht2, hnm, hf8, hle⟩ := hbad
  have hcall : ∀ d os, Calls Try.prog 17 #[.int .i64 8, .pointer (some ⟨w.heap.size, 0, none⟩)] (grow (redrawn (w.alloc (.cells #[.slice A n cap] 30)) d) os) fun e w' => e = .returned (.bool false) ∧ Below (grow (redrawn (w.alloc (.cells #[.slice A n cap] 30)) d) os).heap.size (grow (redrawn (w.alloc (.cells #[.slice A n cap] 30)) d) os) w' := fun d os => by
    have := beyond_below A n cap f 8 w.heap.size _ hn (by omega) (by omega) (qb d os) (hs0.below (below_regrown _ d os))
    rwa [hf8] at this
  have HC := Lib.hid hcall
  have HF8 := Lib.hid hf8
  have HM0 := Lib.hid (mid_zero t f n l)
  generalize hm : l.length = m at *
  have HM := Lib.hid hm
  have HP := Lib.hid hp
  have HS := Lib.hid hs0
  have HA := Lib.hid hA
  clear hcall hs hs0 hc hm hf8 hp hA
  obtain ⟨hn1, hn2⟩ := hnow
  have d1 : decide (t < 1) = false := by simp; omega
  have d2 : decide (64 < t) = false := by simp; omega
  have d3 : decide (m < n) = false := by simp; omega
  have d5 : decide (1099511627776 - t < now) = false := by simp; omega
  go_enter Try.func10, Try.ntmps10
  go_wp2
  refine wp_region_quiet_below (by kernel_rfl) (by kernel_rfl) ?_
  repeat (go_big_quiet_step ((go_at_call 17; exact Calls.regrown_of (HC.out _ _))))
  refine wpQuiet_nil ?_
  intro w1 hw1
  have hb1 := near_iff.1 hw1
  have hc1 := hc0.below hb1
  have hs1 := HS.out.below hb1
  have bb1 := blk_below hb1 (blk_lt bb) bb
  have e0 := hc1.c0
  rw [HM.out] at e0
  have cb1 : w1.cell? ⟨w.heap.size, 0, none⟩ = some (.slice A n cap) := blk_cell bb1 rfl
  have hbl1 := below_new hb1
  have HS1 := Lib.hid hs1
  clear hw1 hb1 q0 q1 qb bb c0 c1 cb d5 HC HS hc0 hb0 hs1
  go_wp2
  go_loopw [45] (fun i wr => ∃ k : Nat, k ≤ m ∧ i = .int .i64 k ∧ CAt wr 42 c g (mid t f n l k) now fl ∧ Fr (Two c g) w1 wr) (fun i _ => m - (intOf i).toNat)
  case atStart => exact ⟨0, Nat.zero_le _, rfl, by rw [HM0.out]; exact hc1, Fr.refl _ _⟩
  case round =>
    obtain ⟨k, hk, rfl, hcr, hfr⟩ := hrel
    have r0 := hcr.c0
    rw [mid_len, HM.out] at r0
    have rb := hfr.blk (b := w.heap.size) (by unfold Two; omega) bb1
    have rbc : wr.cell? ⟨w.heap.size, 0, none⟩ = some (.slice A n cap) := blk_cell rb rfl
    by_cases hlt : k < m
    · have hd : decide ((k : Int) < (m : Int)) = true := by simp; omega
      have hg := hcr.cg k (by rw [mid_len, HM.out]; exact hlt)
      rw [mid_get _ _ _ _ _ _ (by rw [HM.out]; exact hlt), if_neg (Nat.lt_irrefl k)] at hg
      have hgf := hcr.fg k
      obtain ⟨hx0, hx1⟩ := HP.out k
      have hset := fun y => hcr.setG k y
      have hfs := fun y => hfr.setCell (b := g) (i := k) (.inl (.inr rfl)) (.int .i64 y)
      have hms := mid_succ t f n l k
      have hr16 : 0 ≤ rate f n k ∧ rate f n k ≤ 16 := by
        unfold rate
        split
        · rename_i hkn
          have := far_bd (far_of_any HF8.out hkn)
          omega
        · omega
      by_cases hkn : k < n
      · have hrate : rate f n k = 8 + f k := if_pos hkn
        have hfk := far_bd (far_of_any HF8.out hkn)
        rw [hrate] at hms hr16
        obtain ⟨b, off, rfl, hblt, hcell⟩ := HS1.out (by omega)
        have hsk := hfr.cell (HA.out (by omega) _ rfl) (hcell k hkn)
        have hpb := prod_bd t (8 + f k) ht1 ht2 hr16.1 hr16.2
        generalize l.getD k 0 = x at *
        have HMS := Lib.hid hms
        have HST := Lib.hid (hset (x + t * (8 + f k)))
        have HFS := Lib.hid (hfs (x + t * (8 + f k)))
        clear hms hset hfs hcell hcr hfr hrate
        generalize f k = y at *
        obtain ⟨hpb1, hpb2⟩ := hpb
        have hd2 : decide ((k : Int) < (n : Int)) = true := by simp; omega
        go_wp2
        exact ⟨⟨k + 1, by omega, by go_num, by rw [HMS.out]; exact HST.out, HFS.out⟩, by simp [intOf]; omega⟩
      · have hrate : rate f n k = 8 := if_neg hkn
        rw [hrate] at hms
        generalize l.getD k 0 = x at *
        have HMS := Lib.hid hms
        have HST := Lib.hid (hset (x + t * 8))
        have HFS := Lib.hid (hfs (x + t * 8))
        clear hms hset hfs hcr hfr hrate
        have hd2 : decide ((k : Int) < (n : Int)) = false := by simp; omega
        go_wp2
        exact ⟨⟨k + 1, by omega, by go_num, by rw [HMS.out]; exact HST.out, HFS.out⟩, by simp [intOf]; omega⟩
    · have hk16 : k = m := by omega
      subst hk16
      have r1 := hcr.c1
      have f1 := hcr.f 1
      have hn1' := hcr.setN (now + t)
      have hfn := hfr.setCell (b := c) (i := 1) (.inl (.inl rfl)) (.int .i64 (now + t))
      have s2 := hn1'.c2
      have sf2 := hn1'.f 2
      have sb : (wr.setCell ⟨c, 1, none⟩ (.int .i64 (now + t))).cell? ⟨w.heap.size, 0, none⟩ = some (.slice A n cap) := blk_cell (blk_set_other rb (by omega)) rfl
      have hss : Skews (wr.setCell ⟨c, 1, none⟩ (.int .i64 (now + t))) A n f := HS1.out.fr hfn HA.out
      cases fl
      · have hb1 := beyond_any A n cap f 1 w.heap.size (wr.setCell ⟨c, 1, none⟩ (.int .i64 (now + t))) hn (by omega) (by omega) sb hss
        have ha := hn1'.below ((Below.refl _ _).alloc (Nat.le_refl _) (.cells #[.int .i64 1] 3))
        have hfa := hfn.alloc (.cells #[.int .i64 1] 3)
        have s2' := ha.c2
        have sf2' := ha.f 2
        have hfar : anyFar 1 f n = fo := by rw [HFO.out, Bool.false_or]
        rw [hfar] at hb1
        have H1 := Lib.hid hb1
        have H2 := Lib.hid (ha.setF fo)
        have H3 := Lib.hid (hfa.setCell (b := c) (i := 2) (.inl (.inl rfl)) (.bool fo))
        clear hfar
        clear hb1 ha hfa hss hfn hn1' hcr hfr rb HS1 bb1
        go_wp2_with (go_at_call 17; refine (H1.out).mono ?_; rintro e w2 ⟨rfl, rfl⟩)
        go_ret
        exact ⟨rfl, H2.out, (Fr.of_below hbl1).trans H3.out⟩
      · obtain rfl : fo = true := by rw [HFO.out, Bool.true_or]
        have H2 := Lib.hid (hn1'.setF true)
        have H3 := Lib.hid (hfn.setCell (b := c) (i := 2) (.inl (.inl rfl)) (.bool true))
        clear hss hfn hn1' hcr hfr rb HS1 bb1 HFO
        go_wp2
        go_ret
        exact ⟨rfl, H2.out, (Fr.of_below hbl1).trans H3.out⟩
end Go.Proofs.Yteodeemghhbfpaa
