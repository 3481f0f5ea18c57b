/-
  Block of a table.
-/
import Derived.Test.YthhcgdmpbihdnaaPut
namespace Go.Proofs.Ythhcgdmpbihdnaa
open Go.RowKit Go.Deep
def sb (s : ByteArray) : List Nat := s.data.toList.map (·.toNat)
theorem sb_len (s : ByteArray) : (sb s).length = s.size := by simp [sb]
theorem sb_cells (s : ByteArray) : Lib.strCells s = bl (sb s) := by simp [Lib.strCells, bl, sb]
def eb (e : Ent) : List Nat := [e.ino.toNat, e.nm.size] ++ sb e.nm ++ List.replicate (14 - e.nm.size) 0
def bts (f : Nat → Ent) (a : Nat) : Nat → List Nat
  | 0 => []
  | j + 1 => bts f a j ++ eb (f (a + j))
def okE (f : Nat → Ent) (a : Nat) : Nat → Bool
  | 0 => true
  | j + 1 => okE f a j && mayE (f (a + j))
theorem mayE_bd {e : Ent} (h : mayE e = true) : 0 ≤ e.ino ∧ e.ino ≤ 32 ∧ e.nm.size ≤ 12 := by
  unfold mayE at h
  simp only [Bool.or_eq_true, Bool.and_eq_true, decide_eq_true_eq, beq_iff_eq] at h
  rcases h with ⟨h1, h2⟩ | ⟨h1, h2, h3⟩
  · have h3 : e.nm.toList.length = e.nm.size := by rw [ByteArray.toList_eq]; simp
    have h4 : e.nm.toList = [] := by simpa using h1
    rw [h4] at h3
    simp at h3
    omega
  · unfold mayN at h1
    simp only [Bool.and_eq_true, decide_eq_true_eq] at h1
    omega
theorem eb_len {e : Ent} (h : mayE e = true) : (eb e).length = 16 := by
  have := mayE_bd h
  simp [eb, sb_len]
  omega
theorem okE_no (f : Nat → Ent) (a j : Nat) (h : mayE (f (a + j)) = false) : ∀ n, j < n → okE f a n = false
  | 0, h0 => absurd h0 (Nat.not_lt_zero _)
  | n + 1, hn => by
    rw [okE]
    by_cases e : j = n
    · subst e
      rw [h, Bool.and_false]
    · rw [okE_no f a j h n (by omega), Bool.false_and]
theorem bts_len (f : Nat → Ent) (a : Nat) : ∀ j, okE f a j = true → (bts f a j).length = 16 * j
  | 0, _ => rfl
  | j + 1, h => by
    rw [okE, Bool.and_eq_true] at h
    rw [bts, List.length_append, bts_len f a j h.1, eb_len h.2]
    omega
def BlkPost (f : Nat → Ent) (k : Nat) (w : World) (e : Ending) (w' : World) : Prop :=
  (okE f (4 * k) 4 = true ∧ ∃ v, e = .returned (.tuple #[v, .int .i64 0]) ∧ w'.ownsRow w.heap.size 5 1 v 64 (bl (bts f (4 * k) 4)) ∧ Below w.heap.size w w') ∨
  (okE f (4 * k) 4 = false ∧ e = .returned (.tuple #[.slice none 0 0, .int .i64 1]) ∧ Below w.heap.size w w')
theorem bl_app (a b : List Nat) : bl (a ++ b) = bl a ++ bl b := by simp [bl]
theorem bl_zeros (k : Nat) : bl (List.replicate k 0) = List.replicate k (.int .u8 0) := by simp [bl]
theorem slice26 (B k : Nat) (hk : k < 4) (W : World) : (Instr.sliceAt 26 (.pointer (some ⟨B, 0, none⟩)) (some (.int .i64 (4 * (k : Int)))) (some (.int .i64 (4 * (k : Int) + 4))) none).run Try.prog W = .ok (.slice (some ⟨B, 8 * k, none⟩) 4 (16 - 4 * k)) W := by
  have e1 : Try.prog.arrayLen 26 = 16 := by kernel_rfl
  have e2 : Try.prog.elem 26 = 24 := by kernel_rfl
  have e3 : (sizeOf 24).run Try.prog W = .ok 2 W := by kernel_rfl
  rw [run_sliceAt_array_lh W 26 ⟨B, 0, none⟩ (by rw [e1, e2]; exact Try.underlying26) .i64 .i64 (4 * (k : Int)) (4 * (k : Int) + 4) (by omega) (by omega) (by rw [e1]; omega), e1, e2, e3]
  show Result.ok (slicedAt _ _ _ _ _) W = _
  unfold slicedAt
  have h1 : ¬ 16 = (4 * (k : Int)).toNat := by omega
  rw [if_neg h1, add_lit', show 0 + (4 * (k : Int)).toNat * 2 = 8 * k by omega, show (4 * (k : Int) + 4).toNat - (4 * (k : Int)).toNat = 4 by omega, show 16 - (4 * (k : Int)).toNat = 16 - 4 * k by omega]
set_option maxRecDepth 100000 in
set_option maxHeartbeats 1000000 in
theorem block_in (f : Nat → Ent) (hf : ∀ i, (f i).nm.size ≤ 9223372036854775807) (k : Nat) (hk : k < 4) (w : World) : Calls Try.prog 22 #[.agg (tabv f), .int .i64 k] w (BlkPost f k w) := by
  have hnm := tabv_nm f
  have hin := tabv_ino f
  have HNM := Lib.hid hnm
  have HIN := Lib.hid hin
  have HZ := Lib.hid (tabv_size f)
  have k1 : (w.alloc (.cells (tabv f) 26)).heap[w.heap.size]? = some (.cells (tabv f) 26 (0, 0)) := heap_alloc_new _ _
  have hb0 : Below w.heap.size w (w.alloc (.cells (tabv f) 26)) := (Below.refl _ w).alloc (Nat.le_refl _) _
  have hsz : (w.alloc (.cells (tabv f) 26)).heap.size = w.heap.size + 1 := by simp
  clear hnm hin
  generalize tabv f = tv at *
  have hk4 : (k : Int) < 4 := by omega
  have hIS : ∀ W, Calls Try.prog 35 #[.int .i64 k] W fun e w' => e = .returned (.bool true) ∧ W = w' := fun W => by
    have h := dirIs_any k W
    rw [show (decide (0 ≤ (k : Int)) && decide ((k : Int) < 4)) = true by simp; omega] at h
    exact h
  have HIS := Lib.hid hIS
  have HHF := Lib.hid hf
  clear hIS hf
  have hsl := slice26 w.heap.size k hk
  go_enter Try.func22, Try.ntmps22
  go_wp2_with (go_at_call 35; refine (HIS.out _).mono ?_; rintro e w' ⟨rfl, rfl⟩)
  have HB0 := Lib.hid hb0
  clear hb0 hsl
  generalize hw1 : w.alloc (.cells tv 26) = w1 at *
  clear hw1
  go_loopw [6, 7, 8, 19] (fun y _ _ i wr => ∃ j : Nat, j ≤ 4 ∧ i = .int .i64 j ∧ wr.ownsRow (w.heap.size + 1) 5 1 y (bts f (4 * k) j).length (bl (bts f (4 * k) j)) ∧ okE f (4 * k) j = true ∧ Below w1.heap.size w1 wr) (fun _ _ _ i _ => 4 - (intOf i).toNat)
  case atStart => exact ⟨0, Nat.zero_le _, rfl, World.ownsRow_nil _ _ _ _, rfl, Below.refl _ _⟩
  case round =>
    obtain ⟨j, hj, rfl, hown, hok, hbel⟩ := hrel
    have hl := bts_len f (4 * k) j hok
    rw [hl] at hown
    have hb := blk_below hbel (blk_lt k1) k1
    have hsz2 := hbel.size
    have HBEL := Lib.hid hbel
    have HOWN := Lib.hid hown
    have HOK := Lib.hid hok
    have HL := Lib.hid hl
    clear hbel hown hok hl
    by_cases hlt : j < 4
    · have c0 := blk_cell hb (HNM.out (4 * k + j) (by omega))
      have c1 := blk_cell hb (HIN.out (4 * k + j) (by omega))
      rw [show (4 * k + j) * 2 + 1 = 8 * k + j * 2 + 1 by omega] at c1
      rw [show (4 * k + j) * 2 = 8 * k + j * 2 by omega] at c0
      have hm := HHF.out (4 * k + j)
      have HMAY := Lib.hid fun W => may_any (f (4 * k + j)) hm W
      have HNO := Lib.hid fun h => okE_no f (4 * k) j h 4 hlt
      have HOK2 : Hid (mayE (f (4 * k + j)) = true → okE f (4 * k) (j + 1) = true) := Lib.hid fun h => by rw [okE, HOK.out, h]; rfl
      have HBT : Hid (bts f (4 * k) (j + 1) = bts f (4 * k) j ++ eb (f (4 * k + j))) := Lib.hid rfl
      have hbd : Hid (mayE (f (4 * k + j)) = true → _) := Lib.hid mayE_bd
      generalize hE : f (4 * k + j) = E at *
      obtain ⟨s, n⟩ := E
      simp only at c0 c1 HMAY hm
      have HBY := Lib.hid (show Byt wr u6 (bts f (4 * k) j) from byt_own (by rw [HL.out]; exact HOWN.out))
      generalize bts f (4 * k) j = l at *
      go_wp2_with fail
      refine (HMAY.out _).mono ?_
      rintro e w2 ⟨rfl, hb2⟩
      have x2 := blk_new hb2
      have HB2 := Lib.hid (below_then HBEL.out (below_new hb2))
      have HBY2 := Lib.hid ((HBY.out.below ((Below.refl _ _).alloc (Nat.le_refl _) _)).below hb2)
      have hs2 := blk_lt x2
      clear hb2
      cases hmb : mayE ⟨s, n⟩
      · have HR := Lib.hid (HNO.out hmb)
        clear hmb c0 c1
        go_wp2
        go_ret2
        exact .inr ⟨HR.out, rfl, HB0.out.trans (HB2.out.mono (by omega))⟩
      · obtain ⟨n0, n32, s12⟩ := hbd.out hmb
        obtain ⟨m, rfl⟩ := Int.eq_ofNat_of_zero_le n0
        have HOK3 := Lib.hid (HOK2.out hmb)
        have HBT3 : Hid (bts f (4 * k) (j + 1) = l ++ ([m, s.size] ++ sb s ++ List.replicate (14 - s.size) 0)) := Lib.hid (by rw [HBT.out]; simp [eb])
        have hlen := HL.out
        have d0 := blk_cell (j := 0) x2 rfl
        have d1 := blk_cell (j := 1) x2 rfl
        have HP1 := Lib.hid (put_any HBY2.out m (by omega) (by omega))
        clear hmb c0 c1 HNO HOK2 HBT hbd HMAY
        go_wp2_with fail
        refine (HP1.out).mono ?_
        rintro e w3 ⟨v3, rfl, ho3, hb3⟩
        have x3 := blk_below hb3 hs2 x2
        have e0 := blk_cell (j := 0) x3 rfl
        have HB3 := Lib.hid (below_then HB2.out hb3)
        have hs3 := hb3.size
        have HP2 := Lib.hid (put_any (byt_own (l := l ++ [m]) (by simpa using ho3)) s.size (by omega) (by simp; omega))
        clear hb3 ho3 d0 d1 HP1 x2
        go_wp2_with fail
        refine (HP2.out).mono ?_
        rintro e w4 ⟨v4, rfl, ho4, hb4⟩
        have x4 := blk_below hb4 (blk_lt x3) x3
        have g0 := blk_cell (j := 0) x4 rfl
        have HB4 := Lib.hid (below_then HB3.out hb4)
        have hs4 := hb4.size
        have ho4' : w4.ownsRow (w.heap.size + 1) 5 1 v4 (16 * j + 2) (bl (l ++ [m] ++ [s.size])) := own_mono (by simpa [hlen] using ho4) (by omega)
        obtain ⟨q4, cap4, rfl, _, _, _, _⟩ := own_at ho4' (by omega)
        have HO4 := Lib.hid ho4'
        obtain ⟨i0, hi5, hz5, hsz5, hby5⟩ := info_parts info5
        have HI5 := Lib.hid (And.intro hi5 (And.intro hz5 (And.intro hsz5 hby5)))
        clear hb4 ho4 ho4' e0 HP2 x3 hi5 hz5 hsz5 hby5
        go_wp2_with (first
          | (at_builtin; refine Lib.wpList_append_own_string _ rfl _ _ 39 9 rfl (w.heap.size + 1) 5 i0 Try.underlying39 Try.underlying9 HI5.out.1 HI5.out.2.1 HI5.out.2.2.1 HI5.out.2.2.2 _ (16 * j + 2) _ rfl HO4.out s rfl (by unfold maxLen; omega) (by omega) (by omega) ?_; intro v5 w5 ho5 hg5 _; obtain ⟨q5, cap5, rfl, _, _, _, _⟩ := own_at ho5 (by omega); have HB5 := Lib.hid (HB4.out.grown hg5 (by omega) (fun b hb => by have := (HO4.out.lt b hb).1; omega)); have hs5 := hg5.size; obtain ⟨v6, w6, hr6, ho6, hg6⟩ := run_zeros w5 (k := 14 - s.size) 39 ho5 (by omega) (by omega) (by omega) (by omega); have HZ6 : Hid (∀ z : Int, z = ((14 - s.size : Nat) : Int) → _) := Lib.hid (fun z hz => hz ▸ hr6); have HB6 := Lib.hid (HB5.out.grown hg6 (by omega) (fun b hb => by have := (ho5.lt b hb).1; omega)); have HO6 := Lib.hid ho6; clear hg5 ho5 hr6 hg6 ho6)
          | (at_builtin; refine Lib.wpList_append_run _ rfl _ _ _ _ rfl _ _ rfl rfl v6 w6 (HZ6.out _ (by omega)) ?_))
        refine ⟨⟨j + 1, by omega, by go_num, ?_, HOK3.out, HB6.out⟩, by simp [intOf]; omega⟩
        have hfin := HO6.out
        rw [sb_cells, ← bl_zeros, ← bl_app, ← bl_app] at hfin
        have hln : (bts f (4 * k) (j + 1)).length = 16 * j + 2 + s.size + (14 - s.size) := by rw [HBT3.out]; simp [hlen, sb_len]; omega
        rw [hln, HBT3.out]
        simpa using hfin
    · obtain rfl : j = 4 := by omega
      go_wp2
      go_ret2
      exact .inl ⟨HOK.out, _, rfl, own_mono HOWN.out (by omega), HB0.out.trans (HBEL.out.mono (by omega))⟩
theorem block_out (f : Nat → Ent) (k : Int) (hk : ¬ (0 ≤ k ∧ k < 4)) (w : World) : Calls Try.prog 22 #[.agg (tabv f), .int .i64 k] w fun e w' => e = .returned (.tuple #[.slice none 0 0, .int .i64 1]) ∧ Below w.heap.size w w' := by
  have HZ := Lib.hid (tabv_size f)
  have hb0 : Below w.heap.size w (w.alloc (.cells (tabv f) 26)) := (Below.refl _ w).alloc (Nat.le_refl _) _
  have HB0 := Lib.hid hb0
  have hIS : ∀ W, Calls Try.prog 35 #[.int .i64 k] W fun e w' => e = .returned (.bool false) ∧ W = w' := fun W => by
    have h := dirIs_any k W
    rw [show (decide (0 ≤ k) && decide (k < 4)) = false by simp; omega] at h
    exact h
  have HIS := Lib.hid hIS
  clear hIS hb0 hk
  generalize tabv f = tv at *
  go_enter Try.func22, Try.ntmps22
  go_wp2_with (go_at_call 35; refine (HIS.out _).mono ?_; rintro e w' ⟨rfl, rfl⟩)
  go_ret2
  exact ⟨rfl, HB0.out⟩
end Go.Proofs.Ythhcgdmpbihdnaa
