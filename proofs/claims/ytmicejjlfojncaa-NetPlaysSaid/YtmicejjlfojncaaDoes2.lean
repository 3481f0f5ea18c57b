/-
  does: Lose, Take, and what is no deed.
-/
import Derived.Test.YtmicejjlfojncaaDoes
namespace Go.Proofs.Ytmicejjlfojncaa
open Go.RowKit Go.Deep
set_option maxRecDepth 100000 in
set_option maxHeartbeats 4000000 in
theorem does_lose {w0 w : World} {K K' : Nat → Prop} {c c' : Nat} {l : List (Int × List Nat)} (hp : Pair w0 w K K' c c' l l) (hl : l.length ≤ 200) (n : Int) {y : Value} {s : List Nat} (hy : Byt w0 y s) :
    Calls Try.prog 12 #[.pointer (some ⟨c, 0, none⟩), .pointer (some ⟨c', 0, none⟩), .agg #[.int .i64 4, .int .i64 n, y]] w fun e w' => e = .returned (.bool true) ∧ ∃ K2 K2' l2, Pair w0 w' K2 K2' c c' l2 l2 ∧ l2.length ≤ l.length + 1 := by
  obtain ⟨A, len, cap, m, rfl, hm1, hm2, hlc, hcm, HY, HM, hcase⟩ := cut50 hy
  unfold maxLen at hcm
  have HP := Lib.hid hp
  have HL := Lib.hid hl
  generalize s.take 50 = s2 at *
  clear hp hy hl
  rcases hcase with ⟨hlong, rfl⟩ | ⟨hshort, rfl⟩
  · go_enter Try.func12, Try.ntmps12
    go_wp2_with fail
    have hblk : (w.alloc (.cells #[.int .i64 4, .int .i64 n, .slice A 50 cap] 41)).heap[w.heap.size]? = some (.cells #[.int .i64 4, .int .i64 n, .slice A 50 cap] 41) := heap_alloc_new _ _
    have hb1 : Below w.heap.size w (w.alloc (.cells #[.int .i64 4, .int .i64 n, .slice A 50 cap] 41)) := ((Below.refl _ _).alloc (Nat.le_refl _) _)
    have HP1 := Lib.hid (And.intro (HP.out.below hb1) (HY.out.below (HP.out.below hb1).bel))
    have hk0 := HP.out.nk (Nat.le_refl _)
    have hk0' := HP.out.nk' (Nat.le_refl _)
    have hsz1 : w.heap.size < (w.alloc (.cells #[.int .i64 4, .int .i64 n, .slice A 50 cap] 41)).heap.size := by simp
    clear hb1
    generalize w.heap.size = B at *
    generalize (w.alloc (.cells #[.int .i64 4, .int .i64 n, .slice A 50 cap] 41)) = w1 at *
    have hbox : w1.cell? ⟨B, 1, none⟩ = some (.int .i64 n) ∧ w1.cell? ⟨B, 2, none⟩ = some (.slice A 50 cap) := ⟨blk_cell hblk rfl, blk_cell hblk rfl⟩
    refine (lose_any HP1.out.1.b HL.out n).mono ?_
    rintro e w2 ⟨rfl, hB2, hF2⟩
    have hblk2 := hF2.blk hk0 hblk
    have c1 : w2.cell? ⟨B, 1, none⟩ = some (.int .i64 n) := blk_cell hblk2 rfl
    have HP2 := Lib.hid (HP1.out.1.left hB2 hF2 fun x hx => .inl hx)
    clear hB2 hF2 hblk hbox hblk2
    go_wp2_with fail
    refine (rlose_any HP2.out.r HL.out n).mono ?_
    rintro e w3 ⟨rfl, K3, hB3, hF3, hK3⟩
    have HP3 := Lib.hid (HP2.out.right hB3 hF3 hK3)
    clear hB3 hF3 hK3
    go_wp2_with fail
    go_ret
    exact ⟨rfl, _, _, _, HP3.out, Nat.le_succ_of_le (List.length_filter_le _ _)⟩
  · go_enter Try.func12, Try.ntmps12
    go_wp2_with fail
    have hblk : (w.alloc (.cells #[.int .i64 4, .int .i64 n, .slice A m cap] 41)).heap[w.heap.size]? = some (.cells #[.int .i64 4, .int .i64 n, .slice A m cap] 41) := heap_alloc_new _ _
    have hb1 : Below w.heap.size w (w.alloc (.cells #[.int .i64 4, .int .i64 n, .slice A m cap] 41)) := ((Below.refl _ _).alloc (Nat.le_refl _) _)
    have HP1 := Lib.hid (And.intro (HP.out.below hb1) (HY.out.below (HP.out.below hb1).bel))
    have hk0 := HP.out.nk (Nat.le_refl _)
    have hk0' := HP.out.nk' (Nat.le_refl _)
    have hsz1 : w.heap.size < (w.alloc (.cells #[.int .i64 4, .int .i64 n, .slice A m cap] 41)).heap.size := by simp
    clear hb1
    generalize w.heap.size = B at *
    generalize (w.alloc (.cells #[.int .i64 4, .int .i64 n, .slice A m cap] 41)) = w1 at *
    have hbox : w1.cell? ⟨B, 1, none⟩ = some (.int .i64 n) ∧ w1.cell? ⟨B, 2, none⟩ = some (.slice A m cap) := ⟨blk_cell hblk rfl, blk_cell hblk rfl⟩
    refine (lose_any HP1.out.1.b HL.out n).mono ?_
    rintro e w2 ⟨rfl, hB2, hF2⟩
    have hblk2 := hF2.blk hk0 hblk
    have c1 : w2.cell? ⟨B, 1, none⟩ = some (.int .i64 n) := blk_cell hblk2 rfl
    have HP2 := Lib.hid (HP1.out.1.left hB2 hF2 fun x hx => .inl hx)
    clear hB2 hF2 hblk hbox hblk2
    go_wp2_with fail
    refine (rlose_any HP2.out.r HL.out n).mono ?_
    rintro e w3 ⟨rfl, K3, hB3, hF3, hK3⟩
    have HP3 := Lib.hid (HP2.out.right hB3 hF3 hK3)
    clear hB3 hF3 hK3
    go_wp2_with fail
    go_ret
    exact ⟨rfl, _, _, _, HP3.out, Nat.le_succ_of_le (List.length_filter_le _ _)⟩
set_option maxRecDepth 100000 in
set_option maxHeartbeats 4000000 in
theorem does_other {w0 w : World} {K K' : Nat → Prop} {c c' : Nat} {l : List (Int × List Nat)} (hp : Pair w0 w K K' c c' l l) (hl : l.length ≤ 200) (k n : Int) (hk : k < 0 ∨ 4 < k) {y : Value} {s : List Nat} (hy : Byt w0 y s) :
    Calls Try.prog 12 #[.pointer (some ⟨c, 0, none⟩), .pointer (some ⟨c', 0, none⟩), .agg #[.int .i64 k, .int .i64 n, y]] w fun e w' => e = .returned (.bool true) ∧ ∃ K2 K2' l2, Pair w0 w' K2 K2' c c' l2 l2 ∧ l2.length ≤ l.length + 1 := by
  obtain ⟨A, len, cap, m, rfl, hm1, hm2, hlc, hcm, HY, HM, hcase⟩ := cut50 hy
  unfold maxLen at hcm
  have HP := Lib.hid hp
  have HL := Lib.hid hl
  generalize s.take 50 = s2 at *
  clear hp hy hl
  have k0 : (k == 0) = false := by simp; omega
  have k1 : (k == 1) = false := by simp; omega
  have k2 : (k == 2) = false := by simp; omega
  have k3 : (k == 3) = false := by simp; omega
  have k4 : (k == 4) = false := by simp; omega
  rcases hcase with ⟨hlong, rfl⟩ | ⟨hshort, rfl⟩
  · go_enter Try.func12, Try.ntmps12
    go_wp2_with fail
    go_ret
    exact ⟨rfl, _, _, _, HP.out.alloc _, Nat.le_succ _⟩
  · go_enter Try.func12, Try.ntmps12
    go_wp2_with fail
    go_ret
    exact ⟨rfl, _, _, _, HP.out.alloc _, Nat.le_succ _⟩
end Go.Proofs.Ytmicejjlfojncaa
