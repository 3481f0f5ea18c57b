/-
  Used of a table.
-/
import Derived.Test.YthhcgdmpbihdnaaUsed
namespace Go.Proofs.Ythhcgdmpbihdnaa
open Go.RowKit Go.Deep
set_option maxRecDepth 100000 in
set_option maxHeartbeats 1000000 in
theorem contains39 {w : World} {b o cap : Nat} {f : Nat → Ent} {a : Nat} (hb : b < w.heap.size) (h0 : ∀ j, j < 4 → w.cell? ⟨b, o + j * 2, none⟩ = some (.string (f (a + j)).nm))
    (h1 : ∀ j, j < 4 → w.cell? ⟨b, o + j * 2 + 1, none⟩ = some (.int .i64 (f (a + j)).ino)) :
    Calls Try.prog 39 #[.slice (some ⟨b, o, none⟩) 4 cap, .func (.func 40) #[] #[]] w fun e w' => e = .returned (.bool (anyE f a 4)) ∧ Below w.heap.size w w' := by
  have HI := Lib.hid (index48 (cap := cap) hb h0 h1)
  clear h0 h1
  go_enter Try.func39, Try.ntmps39
  go_wp2_with (go_at_call 48; refine (HI.out).mono ?_; rintro e w2 ⟨z, rfl, hz, hb2⟩; have HZ := Lib.hid hz; have HB2 := Lib.hid hb2; clear hz hb2)
  go_ret
  exact ⟨by rw [← HZ.out]; rfl, HB2.out⟩
/-- What Used says. -/
def usd (f : Nat → Ent) (k : Int) : Bool := decide (0 ≤ k) && decide (k < 4) && anyE f (4 * k.toNat) 4
set_option maxRecDepth 100000 in
set_option maxHeartbeats 1000000 in
theorem used_in (f : Nat → Ent) (k : Nat) (hk : k < 4) (w : World) : Calls Try.prog 31 #[.agg (tabv f), .int .i64 k] w fun e w' => e = .returned (.bool (anyE f (4 * k) 4)) ∧ Below w.heap.size w w' := by
  have k1 : (w.alloc (.cells (tabv f) 26)).heap[w.heap.size]? = some (.cells (tabv f) 26 (0, 0)) := heap_alloc_new _ _
  have hb0 : Below w.heap.size w (w.alloc (.cells (tabv f) 26)) := (Below.refl _ w).alloc (Nat.le_refl _) _
  have hC := contains39 (w := w.alloc (.cells (tabv f) 26)) (b := w.heap.size) (o := 8 * k) (cap := 16 - 4 * k) (f := f) (a := 4 * k) (by simp)
    (fun j hj => by rw [show 8 * k + j * 2 = (4 * k + j) * 2 by omega]; exact blk_cell k1 (tabv_nm f (4 * k + j) (by omega)))
    (fun j hj => by rw [show 8 * k + j * 2 + 1 = (4 * k + j) * 2 + 1 by omega]; exact blk_cell k1 (tabv_ino f (4 * k + j) (by omega)))
  have HC := Lib.hid hC
  have HB0 := Lib.hid hb0
  have HS := Lib.hid (show w.heap.size ≤ (w.alloc (.cells (tabv f) 26)).heap.size by simp)
  clear hC hb0 k1
  generalize tabv f = tv at *
  generalize anyE f (4 * k) 4 = r at *
  have hk4 : (k : Int) < 4 := by omega
  have hIS : ∀ W, Calls Try.prog 35 #[.int .i64 k] W fun e w' => e = .returned (.bool true) ∧ W = w' := fun W => by
    have h := dirIs_any k W
    rw [show (decide (0 ≤ (k : Int)) && decide ((k : Int) < 4)) = true by simp; omega] at h
    exact h
  have HIS := Lib.hid hIS
  clear hIS
  have hsl := slice26 w.heap.size k hk
  go_enter Try.func31, Try.ntmps31
  go_wp2_with (first
    | (go_at_call 35; refine (HIS.out _).mono ?_; rintro e w' ⟨rfl, rfl⟩)
    | (go_at_call 39; refine (HC.out).mono ?_; rintro e w' ⟨rfl, hb2⟩; have HB2 := Lib.hid (HB0.out.trans (hb2.mono HS.out)); clear hb2))
  go_ret
  exact ⟨rfl, HB2.out⟩
set_option maxRecDepth 100000 in
set_option maxHeartbeats 1000000 in
theorem used_out (f : Nat → Ent) (k : Int) (hk : ¬ (0 ≤ k ∧ k < 4)) (w : World) : Calls Try.prog 31 #[.agg (tabv f), .int .i64 k] w fun e w' => e = .returned (.bool false) ∧ Below w.heap.size w w' := by
  have hb0 : Below w.heap.size w (w.alloc (.cells (tabv f) 26)) := (Below.refl _ w).alloc (Nat.le_refl _) _
  have HB0 := Lib.hid hb0
  have hIS : ∀ W, Calls Try.prog 35 #[.int .i64 k] W fun e w' => e = .returned (.bool false) ∧ W = w' := fun W => by
    have h := dirIs_any k W
    rw [show (decide (0 ≤ k) && decide (k < 4)) = false by simp; omega] at h
    exact h
  have HIS := Lib.hid hIS
  clear hIS hb0 hk
  generalize tabv f = tv at *
  go_enter Try.func31, Try.ntmps31
  go_wp2_with (go_at_call 35; refine (HIS.out _).mono ?_; rintro e w' ⟨rfl, rfl⟩)
  go_ret
  exact ⟨rfl, HB0.out⟩
end Go.Proofs.Ythhcgdmpbihdnaa
