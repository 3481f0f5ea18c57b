/-
  WALKS: lives, the document's example; and Pass, refused or not, in one contract each.
-/
import Derived.Test.YteodeemghhbfpaaRef2
namespace Go.Proofs.Yteodeemghhbfpaa
open Go.RowKit
def fx : Nat → Int := fun j => if j = 0 then 1 else -1
def l2 : List Int := mid 8 fx 2 [0, 0] 2
set_option maxHeartbeats 4000000 in
theorem lives_any (w : World) : Calls Try.prog 9 #[] w fun e w' => e = .returned (.bool true) ∧ Below w.heap.size w w' := by
  go_enter Try.func9, Try.ntmps9
  go_wp2_with fail
  refine (new_yes 2 _ (by decide) (by decide)).mono ?_
  rintro e w1 ⟨c, g, rfl, hc, hg, hat, hb1⟩
  have ha : CAt (w1.alloc (.cells #[.int .i64 1, .int .i64 (-1)] 3)) 42 c g [0, 0] 0 false := hat.below ((Below.refl _ _).alloc (Nat.le_refl _) _)
  have hlt1 := blk_lt hat.blk
  have hlt2 := blk_lt hat.row
  have hsk : Skews (w1.alloc (.cells #[.int .i64 1, .int .i64 (-1)] 3)) (some ⟨w1.heap.size, 0, none⟩) 2 fx := fun _ =>
    ⟨w1.heap.size, 0, rfl, by simp, fun j hj => by
      have : j = 0 ∨ j = 1 := by omega
      rcases this with rfl | rfl
      · exact blk_cell (heap_alloc_new _ _) rfl
      · exact blk_cell (heap_alloc_new _ _) rfl⟩
  have hpass := pass_ok c g [0, 0] 0 false 8 (some ⟨w1.heap.size, 0, none⟩) 2 2 fx _ ha hsk (fun _ a e => by injection e with e; rw [← e]; unfold Two; simp; omega) (by decide) (by decide) (by decide) (fun i => by
    rcases i with _ | _ | i <;> simp) (by unfold Bad; simp; decide)
  have HP := Lib.hid hpass
  clear hat ha hsk hpass
  go_wp2_with fail
  refine (HP.out).mono ?_
  rintro e w2 ⟨rfl, h2, hf2⟩
  have hb2 : Below w.heap.size w w2 := below_then hb1 ((Below.refl _ _).alloc (Nat.le_refl _) (.cells #[.int .i64 1, .int .i64 (-1)] 3)) |>.trans (hf2.below (by have := hb1.size; simp; omega) (fun k hk => by rcases hk with rfl | rfl <;> omega))
  have hs0 := Lib.hid ((show_any h2 0).mono (R' := fun e w' => e = .returned (.int .i64 9) ∧ w2 = w') fun e w' ⟨he, hw⟩ => ⟨he.trans (ret_int (by decide)), hw⟩)
  have hs1 := Lib.hid ((show_any h2 1).mono (R' := fun e w' => e = .returned (.int .i64 7) ∧ w2 = w') fun e w' ⟨he, hw⟩ => ⟨he.trans (ret_int (by decide)), hw⟩)
  have ht := Lib.hid (true_any h2)
  have hk := Lib.hid ((kept_any h2).mono (R' := fun e w' => e = .returned (.bool true) ∧ w2 = w') fun e w' ⟨he, hw⟩ => ⟨he.trans (ret_bool (by decide)), hw⟩)
  clear h2 hf2 hb1 HP
  go_wp2_with fail
  refine (hs0.out).mono ?_
  rintro e w3 ⟨rfl, rfl⟩
  go_wp2_with fail
  refine (hs1.out).mono ?_
  rintro e w3 ⟨rfl, rfl⟩
  go_wp2_with fail
  refine (ht.out).mono ?_
  rintro e w3 ⟨rfl, rfl⟩
  go_wp2_with fail
  refine (hk.out).mono ?_
  rintro e w3 ⟨rfl, rfl⟩
  go_wp2_with fail
  go_ret
  exact ⟨rfl, hb2⟩
end Go.Proofs.Yteodeemghhbfpaa
