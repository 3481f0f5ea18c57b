/-
  does: one deed, of both bags.
-/
import Derived.Test.YtmicejjlfojncaaPair
namespace Go.Proofs.Ytmicejjlfojncaa
open Go.RowKit Go.Deep
/-- The deed's bytes, cut to 50. -/
theorem cut50 {w : World} {y : Value} {s : List Nat} (hy : Byt w y s) : ∃ A n cap m, y = .slice A n cap ∧ m ≤ 50 ∧ m ≤ n ∧ n ≤ cap ∧ cap ≤ maxLen ∧ Hid (Byt w (.slice A m cap) (s.take 50)) ∧ Hid ((s.take 50).length = m) ∧ ((50 < n ∧ m = 50) ∨ (n ≤ 50 ∧ m = n)) := by
  have hy' := hy
  obtain ⟨A, cap, rfl, h1, h2, _⟩ := hy
  by_cases h : 50 < s.length
  · exact ⟨A, _, cap, 50, rfl, Nat.le_refl _, by omega, h1, h2, Lib.hid (hy'.first 50 (by omega)), Lib.hid (by simp; omega), .inl ⟨h, rfl⟩⟩
  · have e : s.take 50 = s := List.take_of_length_le (by omega)
    exact ⟨A, _, cap, s.length, rfl, by omega, Nat.le_refl _, h1, h2, Lib.hid (by rw [e]; exact hy'), Lib.hid (by rw [e]), .inr ⟨by omega, rfl⟩⟩
set_option maxRecDepth 100000 in
set_option maxHeartbeats 4000000 in
theorem does_send {w0 w : World} {K K' : Nat → Prop} {c c' : Nat} {l : List (Int × List Nat)} (hp : Pair w0 w K K' c c' l l) (hl : l.length ≤ 200) (n : Int) {y : Value} {s : List Nat} (hy : Byt w0 y s) :
    Calls Try.prog 12 #[.pointer (some ⟨c, 0, none⟩), .pointer (some ⟨c', 0, none⟩), .agg #[.int .i64 0, .int .i64 n, y]] w fun e w' => e = .returned (.bool true) ∧ ∃ K2 K2' l2, Pair w0 w' K2 K2' c c' l2 l2 ∧ l2.length ≤ l.length + 1 := by
  obtain ⟨A, len, cap, m, rfl, hm1, hm2, hlc, hcm, HY, HM, hcase⟩ := cut50 hy
  unfold maxLen at hcm
  have HP := Lib.hid hp
  have HL := Lib.hid hl
  generalize s.take 50 = s2 at *
  clear hp hy hl
  rcases hcase with ⟨hlong, rfl⟩ | ⟨hshort, rfl⟩
  · go_enter Try.func12, Try.ntmps12
    go_wp2_with fail
    refine wp_region_held (S := fun w' => w'.cell? ⟨w.heap.size, 1, none⟩ = some (.int .i64 n) ∧ w'.cell? ⟨w.heap.size, 2, none⟩ = some (.slice A 50 cap)) (by kernel_rfl) ?_
    change wpAnyH _ _ _ _ _ _ _ _ (World.drew _)
    have hblk : (World.drew (w.alloc (.cells #[.int .i64 0, .int .i64 n, .slice A 50 cap] 41))).heap[w.heap.size]? = some (.cells #[.int .i64 0, .int .i64 n, .slice A 50 cap] 41) := heap_alloc_new _ _
    have hb1 : Below w.heap.size w (World.drew (w.alloc (.cells #[.int .i64 0, .int .i64 n, .slice A 50 cap] 41))) := ((Below.refl _ _).alloc (Nat.le_refl _) _).drew
    have HP1 := Lib.hid (And.intro (HP.out.below hb1) (HY.out.below (HP.out.below hb1).bel))
    have hk0 := HP.out.nk (Nat.le_refl _)
    have hk0' := HP.out.nk' (Nat.le_refl _)
    have hsz1 : w.heap.size < (World.drew (w.alloc (.cells #[.int .i64 0, .int .i64 n, .slice A 50 cap] 41))).heap.size := by simp
    clear hb1
    generalize w.heap.size = B at *
    generalize (World.drew (w.alloc (.cells #[.int .i64 0, .int .i64 n, .slice A 50 cap] 41))) = w1 at *
    have hbox : w1.cell? ⟨B, 1, none⟩ = some (.int .i64 n) ∧ w1.cell? ⟨B, 2, none⟩ = some (.slice A 50 cap) := ⟨blk_cell hblk rfl, blk_cell hblk rfl⟩
    refine wpAnyH_take (i := 0) (v := .pointer (some ⟨c, 0, none⟩)) rfl (by kernel_rfl) (by kernel_rfl) (by kernel_rfl) (fun _ _ _ h => h) (Or.inl ⟨by rfl, fun w hS => by go_simp⟩) hbox ?_
    refine wpAnyH_take (i := 1) (v := .pointer (some ⟨B, 1, none⟩)) rfl (by kernel_rfl) (by kernel_rfl) (by kernel_rfl) (fun _ _ _ h => h) (Or.inl ⟨by rfl, fun w hS => by go_simp⟩) hbox ?_
    refine wpAnyH_take (i := 2) (v := .int .i64 n) rfl (by kernel_rfl) (by kernel_rfl) (by kernel_rfl) (fun _ _ _ h => h) (Or.inl ⟨by rfl, fun w hS => by go_simp⟩) hbox ?_
    refine wpAnyH_take (i := 3) (v := .pointer (some ⟨B, 2, none⟩)) rfl (by kernel_rfl) (by kernel_rfl) (by kernel_rfl) (fun _ _ _ h => h) (Or.inl ⟨by rfl, fun w hS => by go_simp⟩) hbox ?_
    refine wpAnyH_take (i := 4) (v := .slice A 50 cap) rfl (by kernel_rfl) (by kernel_rfl) (by kernel_rfl) (fun _ _ _ h => h) (Or.inl ⟨by rfl, fun w hS => by go_simp⟩) hbox ?_
    refine wpAnyH_take (i := 6) (v := .pointer (some ⟨c', 0, none⟩)) rfl (by kernel_rfl) (by kernel_rfl) (by kernel_rfl) (fun _ _ _ h => h) (Or.inl ⟨by rfl, fun w hS => by go_simp⟩) hbox ?_
    refine wpAnyH_take (i := 7) (v := .pointer (some ⟨B, 1, none⟩)) rfl (by kernel_rfl) (by kernel_rfl) (by kernel_rfl) (fun _ _ _ h => h) (Or.inl ⟨by rfl, fun w hS => by go_simp⟩) hbox ?_
    refine wpAnyH_take (i := 8) (v := .int .i64 n) rfl (by kernel_rfl) (by kernel_rfl) (by kernel_rfl) (fun _ _ _ h => h) (Or.inl ⟨by rfl, fun w hS => by go_simp⟩) hbox ?_
    refine wpAnyH_take (i := 9) (v := .pointer (some ⟨B, 2, none⟩)) rfl (by kernel_rfl) (by kernel_rfl) (by kernel_rfl) (fun _ _ _ h => h) (Or.inl ⟨by rfl, fun w hS => by go_simp⟩) hbox ?_
    refine wpAnyH_take (i := 10) (v := .slice A 50 cap) rfl (by kernel_rfl) (by kernel_rfl) (by kernel_rfl) (fun _ _ _ h => h) (Or.inl ⟨by rfl, fun w hS => by go_simp⟩) hbox ?_
    refine wpAnyH_one 5 _ (by kernel_rfl) rfl rfl (fun K hK => ?_)
    go_simp
    refine (send_any HP1.out.1.b n HP1.out.2 (by have := HM.out; omega)).mono ?_
    rintro e w2 ⟨rfl, K2, hB2, hF2, hK2⟩
    have hblk2 := hF2.blk hk0 hblk
    refine hK _ _ ⟨blk_cell hblk2 rfl, blk_cell hblk2 rfl⟩ ?_
    clear hK
    have hy2 := HY.out.below (HP1.out.1.left hB2 hF2 hK2).bel
    have HP2 := Lib.hid (And.intro (HP1.out.1.left hB2 hF2 hK2) hy2)
    clear hB2 hF2 hK2 hblk hbox hy2
    refine wpAnyH_one 11 _ (by kernel_rfl) rfl rfl (fun K hK => ?_)
    go_simp
    refine (rsend_any HP2.out.1.r HL.out n HP2.out.2 (by have := HM.out; omega)).mono ?_
    rintro e w3 ⟨rfl, K3, hB3, hF3, hK3⟩
    have hblk3 := hF3.blk hk0' hblk2
    refine hK _ _ ⟨blk_cell hblk3 rfl, blk_cell hblk3 rfl⟩ ?_
    clear hK
    have HP3 := Lib.hid (HP2.out.1.right hB3 hF3 hK3)
    have hS3 : w3.cell? ⟨B, 1, none⟩ = some (.int .i64 n) ∧ w3.cell? ⟨B, 2, none⟩ = some (.slice A 50 cap) := ⟨blk_cell hblk3 rfl, blk_cell hblk3 rfl⟩
    clear hB3 hF3 hK3
    generalize okSend n l.length = ok at *
    refine wpAnyH_one 12 _ (by kernel_rfl) rfl rfl (fun K hK => ?_)
    go_simp
    refine hK _ _ hS3 ?_
    clear hK
    refine wpAnyH_one 13 _ (by kernel_rfl) rfl rfl (fun K hK => ?_)
    go_simp
    refine hK _ _ hS3 ?_
    clear hK
    refine wpAnyH_done (by kernel_rfl) ?_ _
    go_wp2
    go_ret
    refine ⟨rfl, _, _, _, HP3.out, ?_⟩
    cases ok <;> simp
  · go_enter Try.func12, Try.ntmps12
    go_wp2_with fail
    refine wp_region_held (S := fun w' => w'.cell? ⟨w.heap.size, 1, none⟩ = some (.int .i64 n) ∧ w'.cell? ⟨w.heap.size, 2, none⟩ = some (.slice A m cap)) (by kernel_rfl) ?_
    change wpAnyH _ _ _ _ _ _ _ _ (World.drew _)
    have hblk : (World.drew (w.alloc (.cells #[.int .i64 0, .int .i64 n, .slice A m cap] 41))).heap[w.heap.size]? = some (.cells #[.int .i64 0, .int .i64 n, .slice A m cap] 41) := heap_alloc_new _ _
    have hb1 : Below w.heap.size w (World.drew (w.alloc (.cells #[.int .i64 0, .int .i64 n, .slice A m cap] 41))) := ((Below.refl _ _).alloc (Nat.le_refl _) _).drew
    have HP1 := Lib.hid (And.intro (HP.out.below hb1) (HY.out.below (HP.out.below hb1).bel))
    have hk0 := HP.out.nk (Nat.le_refl _)
    have hk0' := HP.out.nk' (Nat.le_refl _)
    have hsz1 : w.heap.size < (World.drew (w.alloc (.cells #[.int .i64 0, .int .i64 n, .slice A m cap] 41))).heap.size := by simp
    clear hb1
    generalize w.heap.size = B at *
    generalize (World.drew (w.alloc (.cells #[.int .i64 0, .int .i64 n, .slice A m cap] 41))) = w1 at *
    have hbox : w1.cell? ⟨B, 1, none⟩ = some (.int .i64 n) ∧ w1.cell? ⟨B, 2, none⟩ = some (.slice A m cap) := ⟨blk_cell hblk rfl, blk_cell hblk rfl⟩
    refine wpAnyH_take (i := 0) (v := .pointer (some ⟨c, 0, none⟩)) rfl (by kernel_rfl) (by kernel_rfl) (by kernel_rfl) (fun _ _ _ h => h) (Or.inl ⟨by rfl, fun w hS => by go_simp⟩) hbox ?_
    refine wpAnyH_take (i := 1) (v := .pointer (some ⟨B, 1, none⟩)) rfl (by kernel_rfl) (by kernel_rfl) (by kernel_rfl) (fun _ _ _ h => h) (Or.inl ⟨by rfl, fun w hS => by go_simp⟩) hbox ?_
    refine wpAnyH_take (i := 2) (v := .int .i64 n) rfl (by kernel_rfl) (by kernel_rfl) (by kernel_rfl) (fun _ _ _ h => h) (Or.inl ⟨by rfl, fun w hS => by go_simp⟩) hbox ?_
    refine wpAnyH_take (i := 3) (v := .pointer (some ⟨B, 2, none⟩)) rfl (by kernel_rfl) (by kernel_rfl) (by kernel_rfl) (fun _ _ _ h => h) (Or.inl ⟨by rfl, fun w hS => by go_simp⟩) hbox ?_
    refine wpAnyH_take (i := 4) (v := .slice A m cap) rfl (by kernel_rfl) (by kernel_rfl) (by kernel_rfl) (fun _ _ _ h => h) (Or.inl ⟨by rfl, fun w hS => by go_simp⟩) hbox ?_
    refine wpAnyH_take (i := 6) (v := .pointer (some ⟨c', 0, none⟩)) rfl (by kernel_rfl) (by kernel_rfl) (by kernel_rfl) (fun _ _ _ h => h) (Or.inl ⟨by rfl, fun w hS => by go_simp⟩) hbox ?_
    refine wpAnyH_take (i := 7) (v := .pointer (some ⟨B, 1, none⟩)) rfl (by kernel_rfl) (by kernel_rfl) (by kernel_rfl) (fun _ _ _ h => h) (Or.inl ⟨by rfl, fun w hS => by go_simp⟩) hbox ?_
    refine wpAnyH_take (i := 8) (v := .int .i64 n) rfl (by kernel_rfl) (by kernel_rfl) (by kernel_rfl) (fun _ _ _ h => h) (Or.inl ⟨by rfl, fun w hS => by go_simp⟩) hbox ?_
    refine wpAnyH_take (i := 9) (v := .pointer (some ⟨B, 2, none⟩)) rfl (by kernel_rfl) (by kernel_rfl) (by kernel_rfl) (fun _ _ _ h => h) (Or.inl ⟨by rfl, fun w hS => by go_simp⟩) hbox ?_
    refine wpAnyH_take (i := 10) (v := .slice A m cap) rfl (by kernel_rfl) (by kernel_rfl) (by kernel_rfl) (fun _ _ _ h => h) (Or.inl ⟨by rfl, fun w hS => by go_simp⟩) hbox ?_
    refine wpAnyH_one 5 _ (by kernel_rfl) rfl rfl (fun K hK => ?_)
    go_simp
    refine (send_any HP1.out.1.b n HP1.out.2 (by have := HM.out; omega)).mono ?_
    rintro e w2 ⟨rfl, K2, hB2, hF2, hK2⟩
    have hblk2 := hF2.blk hk0 hblk
    refine hK _ _ ⟨blk_cell hblk2 rfl, blk_cell hblk2 rfl⟩ ?_
    clear hK
    have hy2 := HY.out.below (HP1.out.1.left hB2 hF2 hK2).bel
    have HP2 := Lib.hid (And.intro (HP1.out.1.left hB2 hF2 hK2) hy2)
    clear hB2 hF2 hK2 hblk hbox hy2
    refine wpAnyH_one 11 _ (by kernel_rfl) rfl rfl (fun K hK => ?_)
    go_simp
    refine (rsend_any HP2.out.1.r HL.out n HP2.out.2 (by have := HM.out; omega)).mono ?_
    rintro e w3 ⟨rfl, K3, hB3, hF3, hK3⟩
    have hblk3 := hF3.blk hk0' hblk2
    refine hK _ _ ⟨blk_cell hblk3 rfl, blk_cell hblk3 rfl⟩ ?_
    clear hK
    have HP3 := Lib.hid (HP2.out.1.right hB3 hF3 hK3)
    have hS3 : w3.cell? ⟨B, 1, none⟩ = some (.int .i64 n) ∧ w3.cell? ⟨B, 2, none⟩ = some (.slice A m cap) := ⟨blk_cell hblk3 rfl, blk_cell hblk3 rfl⟩
    clear hB3 hF3 hK3
    generalize okSend n l.length = ok at *
    refine wpAnyH_one 12 _ (by kernel_rfl) rfl rfl (fun K hK => ?_)
    go_simp
    refine hK _ _ hS3 ?_
    clear hK
    refine wpAnyH_one 13 _ (by kernel_rfl) rfl rfl (fun K hK => ?_)
    go_simp
    refine hK _ _ hS3 ?_
    clear hK
    refine wpAnyH_done (by kernel_rfl) ?_ _
    go_wp2
    go_ret
    refine ⟨rfl, _, _, _, HP3.out, ?_⟩
    cases ok <;> simp
set_option maxRecDepth 100000 in
set_option maxHeartbeats 4000000 in
theorem does_drop {w0 w : World} {K K' : Nat → Prop} {c c' : Nat} {l : List (Int × List Nat)} (hp : Pair w0 w K K' c c' l l) (hl : l.length ≤ 200) (n : Int) {y : Value} {s : List Nat} (hy : Byt w0 y s) :
    Calls Try.prog 12 #[.pointer (some ⟨c, 0, none⟩), .pointer (some ⟨c', 0, none⟩), .agg #[.int .i64 3, .int .i64 n, y]] w fun e w' => e = .returned (.bool true) ∧ ∃ K2 K2' l2, Pair w0 w' K2 K2' c c' l2 l2 ∧ l2.length ≤ l.length + 1 := by
  obtain ⟨A, len, cap, m, rfl, hm1, hm2, hlc, hcm, HY, HM, hcase⟩ := cut50 hy
  unfold maxLen at hcm
  have HP := Lib.hid hp
  have HL := Lib.hid hl
  generalize s.take 50 = s2 at *
  clear hp hy hl
  rcases hcase with ⟨hlong, rfl⟩ | ⟨hshort, rfl⟩
  · go_enter Try.func12, Try.ntmps12
    go_wp2_with fail
    refine wp_region_held (S := fun w' => w'.cell? ⟨w.heap.size, 1, none⟩ = some (.int .i64 n) ∧ w'.cell? ⟨w.heap.size, 2, none⟩ = some (.slice A 50 cap)) (by kernel_rfl) ?_
    change wpAnyH _ _ _ _ _ _ _ _ (World.drew _)
    have hblk : (World.drew (w.alloc (.cells #[.int .i64 3, .int .i64 n, .slice A 50 cap] 41))).heap[w.heap.size]? = some (.cells #[.int .i64 3, .int .i64 n, .slice A 50 cap] 41) := heap_alloc_new _ _
    have hb1 : Below w.heap.size w (World.drew (w.alloc (.cells #[.int .i64 3, .int .i64 n, .slice A 50 cap] 41))) := ((Below.refl _ _).alloc (Nat.le_refl _) _).drew
    have HP1 := Lib.hid (And.intro (HP.out.below hb1) (HY.out.below (HP.out.below hb1).bel))
    have hk0 := HP.out.nk (Nat.le_refl _)
    have hk0' := HP.out.nk' (Nat.le_refl _)
    have hsz1 : w.heap.size < (World.drew (w.alloc (.cells #[.int .i64 3, .int .i64 n, .slice A 50 cap] 41))).heap.size := by simp
    clear hb1
    generalize w.heap.size = B at *
    generalize (World.drew (w.alloc (.cells #[.int .i64 3, .int .i64 n, .slice A 50 cap] 41))) = w1 at *
    have hbox : w1.cell? ⟨B, 1, none⟩ = some (.int .i64 n) ∧ w1.cell? ⟨B, 2, none⟩ = some (.slice A 50 cap) := ⟨blk_cell hblk rfl, blk_cell hblk rfl⟩
    refine wpAnyH_take (i := 0) (v := .pointer (some ⟨c, 0, none⟩)) rfl (by kernel_rfl) (by kernel_rfl) (by kernel_rfl) (fun _ _ _ h => h) (Or.inl ⟨by rfl, fun w hS => by go_simp⟩) hbox ?_
    refine wpAnyH_take (i := 1) (v := .pointer (some ⟨B, 1, none⟩)) rfl (by kernel_rfl) (by kernel_rfl) (by kernel_rfl) (fun _ _ _ h => h) (Or.inl ⟨by rfl, fun w hS => by go_simp⟩) hbox ?_
    refine wpAnyH_take (i := 2) (v := .int .i64 n) rfl (by kernel_rfl) (by kernel_rfl) (by kernel_rfl) (fun _ _ _ h => h) (Or.inl ⟨by rfl, fun w hS => by go_simp⟩) hbox ?_
    refine wpAnyH_take (i := 4) (v := .pointer (some ⟨c', 0, none⟩)) rfl (by kernel_rfl) (by kernel_rfl) (by kernel_rfl) (fun _ _ _ h => h) (Or.inl ⟨by rfl, fun w hS => by go_simp⟩) hbox ?_
    refine wpAnyH_take (i := 5) (v := .pointer (some ⟨B, 1, none⟩)) rfl (by kernel_rfl) (by kernel_rfl) (by kernel_rfl) (fun _ _ _ h => h) (Or.inl ⟨by rfl, fun w hS => by go_simp⟩) hbox ?_
    refine wpAnyH_take (i := 6) (v := .int .i64 n) rfl (by kernel_rfl) (by kernel_rfl) (by kernel_rfl) (fun _ _ _ h => h) (Or.inl ⟨by rfl, fun w hS => by go_simp⟩) hbox ?_
    refine wpAnyH_one 3 _ (by kernel_rfl) rfl rfl (fun K hK => ?_)
    go_simp
    refine (drop_any HP1.out.1.b n).mono ?_
    rintro e w2 ⟨rfl, hB2, hF2⟩
    have hblk2 := hF2.blk hk0 hblk
    refine hK _ _ ⟨blk_cell hblk2 rfl, blk_cell hblk2 rfl⟩ ?_
    clear hK
    have HP2 := Lib.hid (HP1.out.1.left hB2 hF2 fun x hx => .inl hx)
    clear hB2 hF2 hblk hbox
    refine wpAnyH_one 7 _ (by kernel_rfl) rfl rfl (fun K hK => ?_)
    go_simp
    refine (rdrop_any HP2.out.r HL.out n).mono ?_
    rintro e w3 ⟨rfl, K3, hB3, hF3, hK3⟩
    have hblk3 := hF3.blk hk0' hblk2
    refine hK _ _ ⟨blk_cell hblk3 rfl, blk_cell hblk3 rfl⟩ ?_
    clear hK
    have HP3 := Lib.hid (HP2.out.right hB3 hF3 hK3)
    have hS3 : w3.cell? ⟨B, 1, none⟩ = some (.int .i64 n) ∧ w3.cell? ⟨B, 2, none⟩ = some (.slice A 50 cap) := ⟨blk_cell hblk3 rfl, blk_cell hblk3 rfl⟩
    clear hB3 hF3 hK3
    generalize inBag n l.length = ok at *
    refine wpAnyH_one 8 _ (by kernel_rfl) rfl rfl (fun K hK => ?_)
    go_simp
    refine hK _ _ hS3 ?_
    clear hK
    refine wpAnyH_one 9 _ (by kernel_rfl) rfl rfl (fun K hK => ?_)
    go_simp
    refine hK _ _ hS3 ?_
    clear hK
    refine wpAnyH_done (by kernel_rfl) ?_ _
    go_wp2
    go_ret
    refine ⟨rfl, _, _, _, HP3.out, ?_⟩
    cases ok <;> simp [List.length_eraseIdx] <;> split <;> omega
  · go_enter Try.func12, Try.ntmps12
    go_wp2_with fail
    refine wp_region_held (S := fun w' => w'.cell? ⟨w.heap.size, 1, none⟩ = some (.int .i64 n) ∧ w'.cell? ⟨w.heap.size, 2, none⟩ = some (.slice A m cap)) (by kernel_rfl) ?_
    change wpAnyH _ _ _ _ _ _ _ _ (World.drew _)
    have hblk : (World.drew (w.alloc (.cells #[.int .i64 3, .int .i64 n, .slice A m cap] 41))).heap[w.heap.size]? = some (.cells #[.int .i64 3, .int .i64 n, .slice A m cap] 41) := heap_alloc_new _ _
    have hb1 : Below w.heap.size w (World.drew (w.alloc (.cells #[.int .i64 3, .int .i64 n, .slice A m cap] 41))) := ((Below.refl _ _).alloc (Nat.le_refl _) _).drew
    have HP1 := Lib.hid (And.intro (HP.out.below hb1) (HY.out.below (HP.out.below hb1).bel))
    have hk0 := HP.out.nk (Nat.le_refl _)
    have hk0' := HP.out.nk' (Nat.le_refl _)
    have hsz1 : w.heap.size < (World.drew (w.alloc (.cells #[.int .i64 3, .int .i64 n, .slice A m cap] 41))).heap.size := by simp
    clear hb1
    generalize w.heap.size = B at *
    generalize (World.drew (w.alloc (.cells #[.int .i64 3, .int .i64 n, .slice A m cap] 41))) = w1 at *
    have hbox : w1.cell? ⟨B, 1, none⟩ = some (.int .i64 n) ∧ w1.cell? ⟨B, 2, none⟩ = some (.slice A m cap) := ⟨blk_cell hblk rfl, blk_cell hblk rfl⟩
    refine wpAnyH_take (i := 0) (v := .pointer (some ⟨c, 0, none⟩)) rfl (by kernel_rfl) (by kernel_rfl) (by kernel_rfl) (fun _ _ _ h => h) (Or.inl ⟨by rfl, fun w hS => by go_simp⟩) hbox ?_
    refine wpAnyH_take (i := 1) (v := .pointer (some ⟨B, 1, none⟩)) rfl (by kernel_rfl) (by kernel_rfl) (by kernel_rfl) (fun _ _ _ h => h) (Or.inl ⟨by rfl, fun w hS => by go_simp⟩) hbox ?_
    refine wpAnyH_take (i := 2) (v := .int .i64 n) rfl (by kernel_rfl) (by kernel_rfl) (by kernel_rfl) (fun _ _ _ h => h) (Or.inl ⟨by rfl, fun w hS => by go_simp⟩) hbox ?_
    refine wpAnyH_take (i := 4) (v := .pointer (some ⟨c', 0, none⟩)) rfl (by kernel_rfl) (by kernel_rfl) (by kernel_rfl) (fun _ _ _ h => h) (Or.inl ⟨by rfl, fun w hS => by go_simp⟩) hbox ?_
    refine wpAnyH_take (i := 5) (v := .pointer (some ⟨B, 1, none⟩)) rfl (by kernel_rfl) (by kernel_rfl) (by kernel_rfl) (fun _ _ _ h => h) (Or.inl ⟨by rfl, fun w hS => by go_simp⟩) hbox ?_
    refine wpAnyH_take (i := 6) (v := .int .i64 n) rfl (by kernel_rfl) (by kernel_rfl) (by kernel_rfl) (fun _ _ _ h => h) (Or.inl ⟨by rfl, fun w hS => by go_simp⟩) hbox ?_
    refine wpAnyH_one 3 _ (by kernel_rfl) rfl rfl (fun K hK => ?_)
    go_simp
    refine (drop_any HP1.out.1.b n).mono ?_
    rintro e w2 ⟨rfl, hB2, hF2⟩
    have hblk2 := hF2.blk hk0 hblk
    refine hK _ _ ⟨blk_cell hblk2 rfl, blk_cell hblk2 rfl⟩ ?_
    clear hK
    have HP2 := Lib.hid (HP1.out.1.left hB2 hF2 fun x hx => .inl hx)
    clear hB2 hF2 hblk hbox
    refine wpAnyH_one 7 _ (by kernel_rfl) rfl rfl (fun K hK => ?_)
    go_simp
    refine (rdrop_any HP2.out.r HL.out n).mono ?_
    rintro e w3 ⟨rfl, K3, hB3, hF3, hK3⟩
    have hblk3 := hF3.blk hk0' hblk2
    refine hK _ _ ⟨blk_cell hblk3 rfl, blk_cell hblk3 rfl⟩ ?_
    clear hK
    have HP3 := Lib.hid (HP2.out.right hB3 hF3 hK3)
    have hS3 : w3.cell? ⟨B, 1, none⟩ = some (.int .i64 n) ∧ w3.cell? ⟨B, 2, none⟩ = some (.slice A m cap) := ⟨blk_cell hblk3 rfl, blk_cell hblk3 rfl⟩
    clear hB3 hF3 hK3
    generalize inBag n l.length = ok at *
    refine wpAnyH_one 8 _ (by kernel_rfl) rfl rfl (fun K hK => ?_)
    go_simp
    refine hK _ _ hS3 ?_
    clear hK
    refine wpAnyH_one 9 _ (by kernel_rfl) rfl rfl (fun K hK => ?_)
    go_simp
    refine hK _ _ hS3 ?_
    clear hK
    refine wpAnyH_done (by kernel_rfl) ?_ _
    go_wp2
    go_ret
    refine ⟨rfl, _, _, _, HP3.out, ?_⟩
    cases ok <;> simp [List.length_eraseIdx] <;> split <;> omega
end Go.Proofs.Ytmicejjlfojncaa
