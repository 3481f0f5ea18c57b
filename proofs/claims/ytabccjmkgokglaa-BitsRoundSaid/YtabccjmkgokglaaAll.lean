/-
  WALKS: All and Without of a map, Bytes, Read, the reference's Same, SameInts and Bytes.
-/
import Derived.Test.YtabccjmkgokglaaFirst
namespace Go.Proofs.Ytabccjmkgokglaa
open Go.RowKit
/-- The used blocks below n + 1, rising. -/
def lst (m : List Nat) (n : Nat) : List Nat := ((List.range n).filter (bit m)).map (· + 1)
def ints (l : List Nat) : List Value := l.map fun x => .int .i64 (x : Nat)
theorem lst_yes (m : List Nat) (n : Nat) (h : bit m n = true) : lst m (n + 1) = lst m n ++ [n + 1] := by simp [lst, List.range_succ, List.filter_append, h]
theorem lst_no (m : List Nat) (n : Nat) (h : bit m n = false) : lst m (n + 1) = lst m n := by simp [lst, List.range_succ, List.filter_append, h]
theorem lst_le (m : List Nat) (n : Nat) : (lst m n).length ≤ n := by
  have := List.length_filter_le (bit m) (List.range n)
  simp only [lst, List.length_map]
  simpa using this
set_option maxHeartbeats 1000000 in
theorem all_any (m : List Nat) (hm : Ok m) (w : World) :
    Calls Try.prog 24 #[mval m] w fun e w' => ∃ v, e = .returned v ∧ w'.ownsRow w.heap.size 3 1 v (lst m 128).length (ints (lst m 128)) ∧ Below w.heap.size w w' := by
  have hl := hm.1
  go_enter Try.func24, Try.ntmps24
  go_wp2
  go_loopw [3, 5] (fun v i wr => ∃ k : Nat, k ≤ 128 ∧ i = .int .i64 k ∧ wr.ownsRow (w.heap.size + 1) 3 1 v (lst m k).length (ints (lst m k)) ∧ Below (w.heap.size + 1) (w.alloc (.cells (mcells m) 23)) wr) (fun _ i _ => 128 - (intOf i).toNat)
  case atStart => exact ⟨0, Nat.zero_le _, rfl, World.ownsRow_nil _ _ _ _, Below.refl _ _⟩
  case round =>
    obtain ⟨k, hk, rfl, hown, hbel⟩ := hrel
    have hB := size_box hbel
    have hle := lst_le m k
    by_cases hlt : k < 128
    · have hd : decide ((k : Int) < 128) = true := by simp; omega
      have b1 := blk_below hbel (by omega) (heap_alloc_new w (.cells (mcells m) 23))
      have hc := used_yes m hm ((k : Int) + 1) wr (by omega) (by omega)
      rw [show ((k : Int) + 1 - 1).toNat = k from by omega] at hc
      by_cases hbit : bit m k = true
      · rw [hbit] at hc
        have HT := Lib.hid (lst_yes m k hbit)
        have HC := Lib.hid hc
        clear hc hbit
        go_wp2_with (first
          | (go_at_call 12; refine (HC.out).mono ?_; rintro e w1 ⟨rfl, hb⟩; have hown1 := own_below hown hb; have hbel1 := below_then' hbel hB hb; have hB1 := Nat.le_trans hB hb.size)
          | (refine wpl_load23 rfl _ rfl rfl b1 hl ?_)
          | (at_builtin; refine wpl_app 44 3 (.int .i64 0) 8 Try.underlying44 info3 rfl (by decide) rfl _ _ rfl rfl hown1 hbel1 hB1 rfl rfl (by omega) ?_; intro v' w' hown' hbel' hB'))
        exact ⟨⟨k + 1, by omega, by go_num, by rw [HT.out]; simpa [ints] using hown', hbel'⟩, by simp [intOf]; omega⟩
      · rw [Bool.not_eq_true] at hbit
        rw [hbit] at hc
        have HT := Lib.hid (lst_no m k hbit)
        have HC := Lib.hid hc
        clear hc hbit
        go_wp2_with (first
          | (go_at_call 12; refine (HC.out).mono ?_; rintro e w1 ⟨rfl, hb⟩; have hown1 := own_below hown hb; have hbel1 := below_then' hbel hB hb)
          | (refine wpl_load23 rfl _ rfl rfl b1 hl ?_))
        exact ⟨⟨k + 1, by omega, by go_num, by rw [HT.out]; exact hown1, hbel1⟩, by simp [intOf]; omega⟩
    · have hk16 : k = 128 := by omega
      subst hk16
      go_wp2
      go_ret
      exact ⟨_, rfl, own_mono hown (by omega), below_box hbel⟩
theorem setRow_cell (w : World) (g : Nat) (cs : Array Value) (t : TypeId) (v : Value) (i : Nat) (hg : w.heap[g]? = some (.cells cs t (0, 0))) :
    (w.setCell ⟨g, i, none⟩ v).heap[g]? = some (.cells (cs.setIfInBounds i v) t (0, 0)) := heap_setCell_same w g i cs t v hg
/-- After k rounds. -/
def wout (m o : List Nat) (k : Nat) : List Nat := (List.range m.length).map fun i => if i < k then m.getD i 0 &&& (255 - o.getD i 0) else m.getD i 0
theorem wout_len (m o : List Nat) (k : Nat) : (wout m o k).length = m.length := by simp [wout]
theorem wout_zero (m o : List Nat) : wout m o 0 = m := by
  apply List.ext_getElem
  · simp [wout]
  · intro i h1 h2
    simp only [wout, List.length_map, List.length_range] at h1
    simp [wout, h1]
theorem wout_get (m o : List Nat) (k : Nat) : (wout m o k).getD k 0 = m.getD k 0 := by
  by_cases h : k < m.length <;> simp [wout, h]
theorem wout_succ (m o : List Nat) (k : Nat) : wout m o (k + 1) = (wout m o k).set k (m.getD k 0 &&& (255 - o.getD k 0)) := by
  apply List.ext_getElem
  · simp [wout]
  · intro i h1 h2
    simp only [wout, List.length_map, List.length_range] at h1
    rw [List.getElem_set]
    by_cases e : k = i
    · subst e; simp [wout]
    · simp only [wout, List.getElem_map, List.getElem_range, if_neg e]
      by_cases h3 : i < k
      · simp [h3, show i < k + 1 by omega]
      · simp [h3, show ¬ i < k + 1 by omega]
set_option maxHeartbeats 1000000 in
theorem without_any (m o : List Nat) (hm : Ok m) (ho : Ok o) (w : World) :
    Calls Try.prog 20 #[mval m, mval o] w fun e w' => e = .returned (mval (wout m o 16)) ∧ Below w.heap.size w w' := by
  have hl := hm.1
  have hl2 := ho.1
  go_enter Try.func20, Try.ntmps20
  go_wp2
  go_loopw [6] (fun i wr => ∃ k : Nat, k ≤ 16 ∧ i = .int .i64 k ∧ wr.heap[w.heap.size]? = some (.cells (mcells (wout m o k)) 23 (0, 0)) ∧ wr.heap[w.heap.size + 1]? = some (.cells (mcells o) 23 (0, 0)) ∧
      wr.heap[w.heap.size + 2]? = some (.cells (mcells zeros) 23 (0, 0)) ∧ Below w.heap.size w wr) (fun i _ => 16 - (intOf i).toNat)
  case atStart =>
    refine ⟨0, Nat.zero_le _, rfl, ?_, ?_, ?_, (((Below.refl _ _).alloc (Nat.le_refl _) _).alloc (by simp) _).alloc (by simp; omega) _⟩
    · rw [wout_zero]; exact heap3_0 _ _ _ _
    · exact heap3_1 _ _ _ _
    · exact heap3_2 _ _ _ _
  case round =>
    obtain ⟨k, hk, rfl, hb0, hb1, hb2, hbel⟩ := hrel
    by_cases hlt : k < 16
    · have hd : decide ((k : Int) < 16) = true := by simp; omega
      have c0 := blk_cell hb0 (mcells_get _ k (by rw [wout_len]; omega))
      rw [wout_get] at c0
      have c1 := blk_cell hb1 (mcells_get o k (by omega))
      have f0 := frozen_of_row _ _ k _ _ hb0
      have hx := hm.lt k
      have hy := ho.lt k
      have hwo := wout_succ m o k
      have hset := mcells_set (wout m o k) k (m.getD k 0 &&& (255 - o.getD k 0))
      rw [← hwo] at hset
      generalize m.getD k 0 = x at *
      generalize o.getD k 0 = y at *
      have hst := setRow_cell wr w.heap.size _ _ (.int .u8 ((x &&& (255 - y) : Nat) : Int)) k hb0
      rw [hset] at hst
      have s1 := (heap_setCell_other wr ⟨w.heap.size, k, none⟩ (w.heap.size + 1) (.int .u8 ((x &&& (255 - y) : Nat) : Int)) (by simp)).trans hb1
      have s2 := (heap_setCell_other wr ⟨w.heap.size, k, none⟩ (w.heap.size + 2) (.int .u8 ((x &&& (255 - y) : Nat) : Int)) (by simp)).trans hb2
      have hbel2 := hbel.setCell (p := ⟨w.heap.size, k, none⟩) (Nat.le_refl _) (.int .u8 ((x &&& (255 - y) : Nat) : Int))
      have hor := u8_andNot_nat x y hx hy
      generalize ((x &&& (255 - y) : Nat) : Int) = q at *
      have HS := Lib.hid hst
      have H1 := Lib.hid s1
      have H2 := Lib.hid s2
      have HB := Lib.hid hbel2
      clear hst s1 s2 hbel2 hset hwo hb0 hb1 hb2
      go_wp2
      go_region
      all_goals go_wp2
      exact ⟨⟨k + 1, by omega, by go_num, HS.out, H1.out, H2.out, HB.out.drew⟩, by simp [intOf]; omega⟩
    · have hk16 : k = 16 := by omega
      subst hk16
      have hw := wout_len m o 16
      rw [hl] at hw
      go_wp2_with (first
        | (refine wpl_load23 (m := wout m o 16) rfl _ rfl rfl hb0 hw ?_)
        | (refine wpl_store23 (m := wout m o 16) rfl _ _ rfl rfl rfl hb2 rfl hw ?_))
      refine bodyPost_ret (v := .agg (mcells (wout m o 16))) (results_cell_row rfl _ _ (w.heap.size + 2) 23 (mcells (wout m o 16)) (0,0) _ rfl (setRow_heap _ _ _ _ _ _ hb2) Try.underlying23 rfl (info23 hw)) rfl ⟨rfl, ?_⟩
      exact below_setRow' hbel (by omega) _
end Go.Proofs.Ytabccjmkgokglaa
