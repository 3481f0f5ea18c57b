/-
  Set of a table.
-/
import Derived.Test.YthhcgdmpbihdnaaTable
namespace Go.Proofs.Ythhcgdmpbihdnaa
open Go.RowKit
def setT (f : Nat → Ent) (k : Int) (e : Ent) : Nat → Ent := if 0 ≤ k ∧ k < 16 then upd f k.toNat e else f
set_option maxRecDepth 100000 in
set_option maxHeartbeats 1000000 in
theorem set_yes (f : Nat → Ent) (k : Nat) (hk : k < 16) (s : ByteArray) (n : Int) (w : World) :
    Calls Try.prog 17 #[.agg (tabv f), .int .i64 k, .agg #[.string s, .int .i64 n]] w fun e w' => e = .returned (.agg (tabv (upd f k ⟨s, n⟩))) ∧ Below w.heap.size w w' := by
  have hst := tabv_set f k hk s n
  have hnm := tabv_nm f k hk
  have hin := tabv_ino f k hk
  generalize hF : upd f k ⟨s, n⟩ = F at *
  have HF := Lib.hid hF
  generalize (f k).nm = s0 at *
  generalize (f k).ino = n0 at *
  have hz := tabv_size f
  generalize tabv f = tv at *
  have HST := Lib.hid hst
  have HNM := Lib.hid hnm
  have HIN := Lib.hid hin
  have HZ := Lib.hid hz
  clear hst hnm hin hF hz
  have b0 : ∀ o1 o2, (((w.alloc (.cells tv 26)).alloc o1).alloc o2).heap[w.heap.size]? = some (.cells tv 26 (0, 0)) := fun o1 o2 => heap3_0 _ _ _ _
  have b2 : ∀ o1 o2, (((w.alloc (.cells tv 26)).alloc o1).alloc o2).heap[w.heap.size + 1 + 1]? = some o2 := fun o1 o2 => heap3_2 _ _ _ _
  have c0 := fun o1 o2 => blk_cell (b0 o1 o2) HNM.out
  have c1 := fun o1 o2 => blk_cell (b0 o1 o2) HIN.out
  have f0 := fun o1 o2 => frozen_of_row _ _ (k * 2) _ _ (b0 o1 o2)
  have f1 := fun o1 o2 => frozen_of_row _ _ (k * 2 + 1) _ _ (b0 o1 o2)
  have b1 : ∀ o1 o2, (((w.alloc (.cells (tv.setIfInBounds (k * 2) (.string s)) 26)).alloc o1).alloc o2).heap[w.heap.size]? = some (.cells (tv.setIfInBounds (k * 2) (.string s)) 26 (0, 0)) := fun o1 o2 => heap3_0 _ _ _ _
  have c1' := fun o1 o2 => blk_cell (j := k * 2 + 1) (b1 o1 o2) (by rw [Array.getElem?_setIfInBounds, if_neg (by omega)]; exact HIN.out)
  have f1' := fun o1 o2 => frozen_of_row _ _ (k * 2 + 1) _ _ (b1 o1 o2)
  have b0' : ∀ o1 o2, (((w.alloc (.cells ((tv.setIfInBounds (k * 2) (.string s)).setIfInBounds (k * 2 + 1) (.int .i64 n)) 26)).alloc o1).alloc o2).heap[w.heap.size]? = some (.cells (tabv F) 26 (0, 0)) := fun o1 o2 => by
    rw [HST.out]
    exact heap3_0 _ _ _ _
  have b2' : ∀ o1 o2, (((w.alloc (.cells ((tv.setIfInBounds (k * 2) (.string s)).setIfInBounds (k * 2 + 1) (.int .i64 n)) 26)).alloc o1).alloc o2).heap[w.heap.size + 1 + 1]? = some o2 := fun o1 o2 => heap3_2 _ _ _ _
  have hbel : ∀ o1 o2 cs, Below w.heap.size w ((((w.alloc (.cells ((tv.setIfInBounds (k * 2) (.string s)).setIfInBounds (k * 2 + 1) (.int .i64 n)) 26)).alloc o1).alloc o2).setRow (w.heap.size + 1 + 1) cs) := fun o1 o2 cs =>
    below_setRow' ((((Below.refl _ w).alloc (Nat.le_refl _) _).alloc (by simp) _).alloc (by simp; omega) _) (by omega) _
  have B0 := Lib.hid b0'
  have B2 := Lib.hid b2'
  have HB := Lib.hid hbel
  clear b0' b2' hbel b0 b2 b1
  go_enter Try.func17, Try.ntmps17
  go_wp2_with (first
    | (refine wpl_load26 rfl _ rfl rfl (B0.out _ _) ?_)
    | (refine wpl_store26 rfl _ _ rfl rfl rfl (B2.out _ _) rfl ?_))
  refine bodyPost_ret (v := .agg (tabv F)) (results_cell_row rfl _ _ (w.heap.size + 1 + 1) 26 (tabv F) (0, 0) _ rfl (setRow_heap _ _ _ _ _ _ (B2.out _ _)) Try.underlying26 rfl (info26 F)) rfl ⟨rfl, HB.out _ _ _⟩
set_option maxHeartbeats 1000000 in
theorem set_no (f : Nat → Ent) (k : Int) (hk : ¬ (0 ≤ k ∧ k < 16)) (s : ByteArray) (n : Int) (w : World) :
    Calls Try.prog 17 #[.agg (tabv f), .int .i64 k, .agg #[.string s, .int .i64 n]] w fun e w' => e = .returned (.agg (tabv f)) ∧ Below w.heap.size w w' := by
  have hz := tabv_size f
  have B0 : Hid (∀ o1 o2, (((w.alloc (.cells (tabv f) 26)).alloc o1).alloc o2).heap[w.heap.size]? = some (.cells (tabv f) 26 (0, 0))) := Lib.hid fun o1 o2 => heap3_0 _ _ _ _
  have B2 : Hid (∀ o1 o2, (((w.alloc (.cells (tabv f) 26)).alloc o1).alloc o2).heap[w.heap.size + 1 + 1]? = some o2) := Lib.hid fun o1 o2 => heap3_2 _ _ _ _
  have HB : Hid (∀ o1 o2 cs, Below w.heap.size w ((((w.alloc (.cells (tabv f) 26)).alloc o1).alloc o2).setRow (w.heap.size + 1 + 1) cs)) := Lib.hid fun o1 o2 cs =>
    below_setRow' ((((Below.refl _ w).alloc (Nat.le_refl _) _).alloc (by simp) _).alloc (by simp; omega) _) (by omega) _
  have HZ := Lib.hid hz
  clear hz
  have hor : k < 0 ∨ (0 ≤ k ∧ 16 ≤ k) := by omega
  clear hk
  rcases hor with h | ⟨h, h2⟩
  all_goals
    go_enter Try.func17, Try.ntmps17
    go_wp2_with (first
      | (refine wpl_load26 rfl _ rfl rfl (B0.out _ _) ?_)
      | (refine wpl_store26 rfl _ _ rfl rfl rfl (B2.out _ _) rfl ?_))
    refine bodyPost_ret (v := .agg (tabv f)) (results_cell_row rfl _ _ (w.heap.size + 1 + 1) 26 (tabv f) (0, 0) _ rfl (setRow_heap _ _ _ _ _ _ (B2.out _ _)) Try.underlying26 rfl (info26 f)) rfl ⟨rfl, HB.out _ _ _⟩
theorem set_any (f : Nat → Ent) (k : Int) (e : Ent) (w : World) :
    Calls Try.prog 17 #[.agg (tabv f), .int .i64 k, .agg #[.string e.nm, .int .i64 e.ino]] w fun r w' => r = .returned (.agg (tabv (setT f k e))) ∧ Below w.heap.size w w' := by
  unfold setT
  by_cases h : 0 ≤ k ∧ k < 16
  · rw [if_pos h]
    obtain ⟨j, rfl⟩ := Int.eq_ofNat_of_zero_le h.1
    exact set_yes f j (by omega) e.nm e.ino w
  · rw [if_neg h]
    exact set_no f k h e.nm e.ino w
/-! ### lives -/
def nmA : ByteArray := { data := #[97] }
def nmB : ByteArray := { data := #[98] }
def fz : Nat → Ent := fun _ => ent0
def fa : Nat → Ent := upd fz 14 ⟨nmA, 3⟩
theorem hashA : hash nmA = 14 := by kernel_rfl
theorem hashB : hash nmB < 16 := hash_lt _
theorem toA : nmA.toList = [97] := by rw [ByteArray.toList_eq]; rfl
theorem toB : nmB.toList = [98] := by rw [ByteArray.toList_eq]; rfl
theorem to0 : noName.toList = [] := by rw [ByteArray.toList_eq]; rfl
theorem place_z : place fz nmA = 14 := by
  unfold place
  rw [hashA, fnd_hit _ _ 0 (by decide) (fun i hi => absurd hi (Nat.not_lt_zero _)) (by unfold isFree fz ent0; simp [to0])]
  rfl
theorem find_a : find fa nmA = 14 := by
  unfold find
  rw [hashA, fnd_hit _ _ 0 (by decide) (fun i hi => absurd hi (Nat.not_lt_zero _)) (by unfold isNm fa upd; simp [plc, toA])]
  rfl
theorem place_a : place fa nmA = 15 := by
  unfold place
  rw [hashA, fnd_hit _ _ 1 (by decide) (fun i hi => by
    obtain rfl : i = 0 := by omega
    unfold isFree fa upd
    simp [plc, toA]) (by unfold isFree fa upd fz ent0; simp [plc, to0])]
  rfl
theorem find_b : find fa nmB = -1 := by
  unfold find
  refine fnd_none _ _ fun i hi => ?_
  unfold isNm fa upd fz ent0
  split
  · simp [toA, toB]
  · simp [to0, toB]
end Go.Proofs.Ythhcgdmpbihdnaa
