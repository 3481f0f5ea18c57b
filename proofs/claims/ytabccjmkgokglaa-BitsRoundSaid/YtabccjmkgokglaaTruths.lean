/-
  WALKS: the reference's truths of 16 bytes, and the law's own 'truths' of a map.
-/
import Derived.Test.YtabccjmkgokglaaBits
namespace Go.Proofs.Ytabccjmkgokglaa
open Go.RowKit
/-- The first n truths of a map, as values. -/
def tb (m : List Nat) (n : Nat) : List Value := (List.range n).map fun i => .bool (bit m i)
theorem tb_len (m : List Nat) (n : Nat) : (tb m n).length = n := by simp [tb]
theorem tb_succ (m : List Nat) (n : Nat) : tb m (n + 1) = tb m n ++ [.bool (bit m n)] := by simp [tb, List.range_succ]
theorem info4 : (Try.prog.info? 4).map (fun i => (i.zero, i.size, i.bytes)) = some (some (.bool false), 1, 1) := by kernel_rfl
theorem info5 : (Try.prog.info? 5).map (fun i => (i.zero, i.size, i.bytes)) = some (some (.int .u8 0), 1, 1) := by kernel_rfl
theorem info3 : (Try.prog.info? 3).map (fun i => (i.zero, i.size, i.bytes)) = some (some (.int .i64 0), 1, 8) := by kernel_rfl
theorem bit_step (m : List Nat) (i k : Nat) (hk : k < 8) : bit m (8 * i + k) = (((m.getD i 0 / 2 ^ k : Nat) : Int) % 2 == 1) := by
  unfold bit
  have e1 : (8 * i + k) / 8 = i := by omega
  have e2 : (8 * i + k) % 8 = k := by omega
  rw [e1, e2]
  generalize m.getD i 0 / 2 ^ k = y
  rw [Bool.eq_iff_iff, decide_eq_true_eq, beq_iff_eq]
  omega
theorem half_step (x k : Nat) : ((x / 2 ^ k : Nat) : Int) / 2 = ((x / 2 ^ (k + 1) : Nat) : Int) := by
  rw [Nat.pow_succ, ← Nat.div_div_eq_div_mul]
  omega
set_option maxHeartbeats 1000000 in
theorem truths_ref (m : List Nat) (hm : Ok m) (g cap : Nat) (w : World) (hc : ∀ j, j < 16 → w.cell? ⟨g, j, none⟩ = some (.int .u8 (m.getD j 0 : Nat))) (hg : g < w.heap.size) :
    Calls Try.prog 25 #[.slice (some ⟨g, 0, none⟩) 16 cap] w fun e w' => ∃ v, e = .returned v ∧ w'.ownsRow w.heap.size 4 1 v 128 (tb m 128) ∧ Below w.heap.size w w' := by
  go_enter Try.func25, Try.ntmps25
  go_wp2
  go_loopw [3, 4] (fun v i wr => ∃ k : Nat, k ≤ 16 ∧ i = .int .i64 k ∧ wr.ownsRow w.heap.size 4 1 v (8 * k) (tb m (8 * k)) ∧ Below w.heap.size w wr) (fun _ i _ => 16 - (intOf i).toNat)
  case atStart => exact ⟨0, Nat.zero_le _, rfl, World.ownsRow_nil _ _ _ _, Below.refl _ _⟩
  case round =>
    obtain ⟨k, hk, rfl, hown, hbel⟩ := hrel
    by_cases hlt : k < 16
    · have hx := (hbel.cell (p := ⟨g, k, none⟩) hg).trans (hc k hlt)
      have hx256 := hm.lt k
      generalize hX : m.getD k 0 = x at *
      have HX := Lib.hid hX
      clear hX
      have hd : decide ((k : Int) < 16) = true := by simp; omega
      go_wp2
      obtain ⟨wo, hwo⟩ : ∃ wo : World, wo = wr := ⟨_, rfl⟩
      subst hwo
      go_loopw [3, 5, 6] (fun v y c ws => ∃ j : Nat, j ≤ 8 ∧ c = .int .i64 j ∧ y = .int .i64 (x / 2 ^ j : Nat) ∧ ws.ownsRow w.heap.size 4 1 v (8 * k + j) (tb m (8 * k + j)) ∧ Below w.heap.size w ws) (fun _ _ c _ => 8 - (intOf c).toNat)
      case atStart => exact ⟨0, Nat.zero_le _, rfl, by simp, hown, hbel⟩
      case round =>
        clear hown hbel hx
        obtain ⟨j, hj, rfl, rfl, hown, hbel⟩ := hrel
        have hB := hbel.size
        by_cases hjl : j < 8
        · have hq : x / 2 ^ j ≤ x := Nat.div_le_self _ _
          have hstep := half_step x j
          have hbs := bit_step m k j hjl
          rw [HX.out] at hbs
          have hts := tb_succ m (8 * k + j)
          rw [hbs] at hts
          have HT := Lib.hid hts
          have HS := Lib.hid hstep
          have hnn : 0 ≤ ((x / 2 ^ j : Nat) : Int) := Int.natCast_nonneg _
          clear hts hbs hstep
          generalize hY : x / 2 ^ j = y at *
          go_wp2_with (at_builtin; refine wpl_app 24 4 (.bool false) 1 Try.underlying24 info4 rfl (by decide) rfl _ _ rfl rfl hown hbel hB rfl rfl (by clear HX; omega) ?_; intro v' w' hown' hbel' hB')
          go_roundw
          case rel => exact ⟨j + 1, by omega, by go_num, by rw [HS.out], by rw [← Nat.add_assoc, HT.out]; exact hown', hbel'⟩
          case measure => simp [intOf]; omega
        · have hj8 : j = 8 := by omega
          subst hj8
          go_wp2
          exact ⟨⟨k + 1, by omega, by go_num, hown, hbel⟩, by simp [intOf]; omega⟩
    · have hk16 : k = 16 := by omega
      subst hk16
      go_wp2
      go_ret
      exact ⟨_, rfl, hown, hbel⟩
/-- The first n bytes of a map, as values. -/
def bb (m : List Nat) (n : Nat) : List Value := (List.range n).map fun i => .int .u8 (m.getD i 0 : Nat)
theorem bb_len (m : List Nat) (n : Nat) : (bb m n).length = n := by simp [bb]
theorem bb_succ (m : List Nat) (n : Nat) : bb m (n + 1) = bb m n ++ [.int .u8 (m.getD n 0 : Nat)] := by simp [bb, List.range_succ]
theorem bb_get (m : List Nat) (n j : Nat) (h : j < n) : (bb m n)[j]? = some (.int .u8 (m.getD j 0 : Nat)) := by simp [bb, h]
theorem tb_get (m : List Nat) (n j : Nat) (h : j < n) : (tb m n)[j]? = some (.bool (bit m j)) := by simp [tb, h]
/-- An owned row that is not empty lies at the head of a block. -/
theorem own_at {w : World} {B : Nat} {e : TypeId} {v : Value} {n : Nat} {xs : List Value} (h : w.ownsRow B e 1 v n xs) (hn : 0 < n) :
    ∃ g cap, v = .slice (some ⟨g, 0, none⟩) n cap ∧ B ≤ g ∧ g < w.heap.size ∧ n ≤ cap ∧ ∀ j, j < n → w.cell? ⟨g, j, none⟩ = xs[j]? := by
  rcases h.2 with ⟨_, h0⟩ | ⟨g, cap, cur, rfl, hb, hg, hc, h5, h6, h7⟩
  · omega
  · exact ⟨g, cap, rfl, hb, (Array.getElem?_eq_some_iff.1 hg).1, hc, fun j hj => h.cellAt j (by omega)⟩
set_option maxHeartbeats 1000000 in
theorem truths_map (m : List Nat) (hm : Ok m) (w : World) :
    Calls Try.prog 10 #[mval m] w fun e w' => ∃ g cap, e = .returned (.slice (some ⟨g, 0, none⟩) 128 cap) ∧ w.heap.size ≤ g ∧ g < w'.heap.size ∧ (∀ j, j < 128 → w'.cell? ⟨g, j, none⟩ = some (.bool (bit m j))) ∧ Below w.heap.size w w' := by
  go_enter Try.func10, Try.ntmps10
  go_wp2
  go_loopw [3, 4] (fun v i wr => ∃ k : Nat, k ≤ 16 ∧ i = .int .i64 k ∧ wr.ownsRow (w.heap.size + 1) 5 1 v k (bb m k) ∧ Below (w.heap.size + 1) (w.alloc (.cells (mcells m) 23)) wr) (fun _ i _ => 16 - (intOf i).toNat)
  case atStart => exact ⟨0, Nat.zero_le _, rfl, World.ownsRow_nil _ _ _ _, Below.refl _ _⟩
  case round =>
    obtain ⟨k, hk, rfl, hown, hbel⟩ := hrel
    have hB : w.heap.size + 1 ≤ wr.heap.size := by have := hbel.size; simp at this; omega
    by_cases hlt : k < 16
    · have hd : decide ((k : Int) < 16) = true := by simp; omega
      have hx := blk_cell (blk_below hbel (by omega) (heap_alloc_new _ _)) (mcells_get m k (by rw [hm.1]; exact hlt))
      have HT := Lib.hid (bb_succ m k)
      go_wp2_with (at_builtin; refine wpl_app 30 5 (.int .u8 0) 1 Try.underlying30 info5 rfl (by decide) rfl _ _ rfl rfl hown hbel hB rfl rfl (by omega) ?_; intro v' w' hown' hbel' hB')
      exact ⟨⟨k + 1, by omega, by go_num, by rw [HT.out]; exact hown', hbel'⟩, by simp [intOf]; omega⟩
    · have hk16 : k = 16 := by omega
      subst hk16
      obtain ⟨g, cap, rfl, h1, h2, h3, h4⟩ := own_at hown (by omega)
      have h5 : ∀ j, j < 16 → wr.cell? ⟨g, j, none⟩ = some (.int .u8 (m.getD j 0 : Nat)) := fun j hj => (h4 j hj).trans (bb_get m 16 j hj)
      have H5 := Lib.hid h5
      clear h5 h4
      go_wp2_with (go_at_call 25; refine (truths_ref m hm _ _ _ H5.out h2).mono ?_; rintro e w' ⟨v, rfl, hown', hbel'⟩)
      go_ret
      obtain ⟨g', cap', rfl, k1, k2, k3, k4⟩ := own_at hown' (by omega)
      exact ⟨g', cap', rfl, by omega, k2, fun j hj => (k4 j hj).trans (tb_get m 128 j hj), ((Below.refl _ _).alloc (Nat.le_refl _) _).trans ((hbel.mono (by omega)).trans (hbel'.mono (by omega)))⟩
end Go.Proofs.Ytabccjmkgokglaa
