/-
  lives: the document's example.
-/
import Derived.Test.YthhcgdmpbihdnaaSet
namespace Go.Proofs.Ythhcgdmpbihdnaa
open Go.RowKit
theorem zero26' : #[Value.string { data := #[] }, .int .i64 0, .string { data := #[] }, .int .i64 0, .string { data := #[] }, .int .i64 0, .string { data := #[] }, .int .i64 0, .string { data := #[] }, .int .i64 0, .string { data := #[] }, .int .i64 0, .string { data := #[] }, .int .i64 0, .string { data := #[] }, .int .i64 0, .string { data := #[] }, .int .i64 0, .string { data := #[] }, .int .i64 0, .string { data := #[] }, .int .i64 0, .string { data := #[] }, .int .i64 0, .string { data := #[] }, .int .i64 0, .string { data := #[] }, .int .i64 0, .string { data := #[] }, .int .i64 0, .string { data := #[] }, .int .i64 0] = tabv fz := zero26
theorem setT_fa : setT fz 14 ⟨nmA, 3⟩ = fa := rfl
set_option maxRecDepth 100000 in
set_option maxHeartbeats 400000 in
theorem lives_any (w : World) : Calls Try.prog 16 #[] w fun e w' => e = .returned (.bool true) ∧ Below w.heap.size w w' := by
  have hsA : nmA.size ≤ 9223372036854775807 := by decide
  have hsB : nmB.size ≤ 9223372036854775807 := by decide
  have P1 : Hid (∀ W : World, Calls Try.prog 14 #[.agg (tabv fz), .string { data := #[97] }] W fun e w' => e = .returned (.int .i64 14) ∧ Below W.heap.size W w') := Lib.hid fun W => by have h := place_any fz nmA hsA W; rw [place_z] at h; exact h
  have P2 : Hid (∀ W : World, Calls Try.prog 17 #[.agg (tabv fz), .int .i64 14, .agg #[.string { data := #[97] }, .int .i64 3]] W fun e w' => e = .returned (.agg (tabv fa)) ∧ Below W.heap.size W w') := Lib.hid fun W => by have h := set_any fz 14 ⟨nmA, 3⟩ W; rw [setT_fa] at h; exact h
  have P3 : Hid (∀ W : World, Calls Try.prog 12 #[.agg (tabv fa), .string { data := #[97] }] W fun e w' => e = .returned (.int .i64 14) ∧ Below W.heap.size W w') := Lib.hid fun W => by have h := find_any fa nmA hsA W; rw [find_a] at h; exact h
  have P4 : Hid (∀ W : World, Calls Try.prog 14 #[.agg (tabv fa), .string { data := #[97] }] W fun e w' => e = .returned (.int .i64 15) ∧ Below W.heap.size W w') := Lib.hid fun W => by have h := place_any fa nmA hsA W; rw [place_a] at h; exact h
  have P5 : Hid (∀ W : World, Calls Try.prog 12 #[.agg (tabv fa), .string { data := #[98] }] W fun e w' => e = .returned (.int .i64 (-1)) ∧ Below W.heap.size W w') := Lib.hid fun W => by have h := find_any fa nmB hsB W; rw [find_b] at h; exact h
  have hz := zero26'
  generalize hq : tabv fz = tz at *
  have HQ := Lib.hid hq
  clear hq hsA hsB
  go_enter Try.func16, Try.ntmps16
  go_wp2_with (first
    | (rw [← HQ.out]; refine wpl_store26_new rfl _ _ rfl rfl rfl (tabv_size _) ?_; rw [HQ.out])
    | (rw [← HQ.out]; refine wpl_load26 rfl _ rfl rfl (heap_alloc_new _ _) ?_; rw [HQ.out]))
  refine (P1.out _).mono ?_
  rintro e w1 ⟨rfl, hb1⟩
  have b1 := blk_new hb1
  have l1 := blk_lt b1
  have HB1 := Lib.hid (below_new hb1)
  clear hb1
  have b1q : w1.heap[w.heap.size]? = some (.cells (tabv fz) 26 (0, 0)) := by rw [HQ.out]; exact b1
  have B1Q := Lib.hid b1q
  clear b1q
  go_wp2_with (refine wpl_load26 (f := fz) rfl _ rfl rfl B1Q.out ?_; rw [HQ.out])
  refine (P2.out _).mono ?_
  rintro e w2 ⟨rfl, hb2⟩

  have b2 := blk_below hb2 l1 b1
  have HB2 := Lib.hid (below_setRow' (below_then HB1.out hb2) (Nat.le_refl _) (tabv fa))
  have hsz : tz.size = 32 := by rw [← HQ.out]; exact tabv_size _
  have HSZ := Lib.hid hsz
  have b3 := setRow_heap w2 w.heap.size tz (tabv fa) 26 (0, 0) b2
  clear hb2 b1 l1 hsz
  go_wp2_with (first
    | (refine wpl_store26 rfl _ _ rfl rfl rfl b2 HSZ.out ?_; generalize w2.setRow w.heap.size (tabv fa) = w3 at *; clear b2)
    | (refine wpl_load26 rfl _ rfl rfl b3 ?_))
  refine (P3.out _).mono ?_
  rintro e w4 ⟨rfl, hb4⟩
  have b4 := blk_below hb4 (blk_lt b3) b3
  have HB4 := Lib.hid (below_then HB2.out hb4)
  clear hb4 b3
  go_wp2_with (refine wpl_load26 rfl _ rfl rfl b4 ?_)
  refine (P4.out _).mono ?_
  rintro e w5 ⟨rfl, hb5⟩
  have b5 := blk_below hb5 (blk_lt b4) b4
  have HB5 := Lib.hid (below_then HB4.out hb5)
  clear hb5 b4
  go_wp2_with (refine wpl_load26 rfl _ rfl rfl b5 ?_)
  refine (P5.out _).mono ?_
  rintro e w6 ⟨rfl, hb6⟩
  have HB6 := Lib.hid (below_then HB5.out hb6)
  clear hb6 b5
  go_wp2_with fail
  go_ret
  exact ⟨rfl, HB6.out⟩
end Go.Proofs.Ythhcgdmpbihdnaa
