/-
  The order of grants: cmp.Or, and the closure of All.
-/
import Derived.Test.YtpjgcpnjfopolaaShelf2
namespace Go.Proofs.Ytpjgcpnjfopolaa
open Go.RowKit Go.Deep Go.Lib Go.Sort
def orI (a b : Int) : Int := if a = 0 then b else a
set_option maxHeartbeats 1000000 in
theorem or_any {w : World} {g : Nat} (a b : Int) (h : w.heap[g]? = some (.cells #[.int .i64 a, .int .i64 b] 3 (0, 0))) : Calls Try.prog 30 #[.slice (some ⟨g, 0, none⟩) 2 2] w fun e w' => e = .returned (.int .i64 (orI a b)) ∧ w = w' := by
  have d0 := blk_cell (j := 0) h rfl
  have d1 := blk_cell (j := 1) h rfl
  have HO := Lib.hid (rfl : orI a b = orI a b)
  clear h
  by_cases ha : a = 0
  · have qa : (a != 0) = false := by simpa using ha
    have ho : orI a b = b := by unfold orI; rw [if_pos ha]
    rw [ho]
    clear ho HO
    by_cases hb : b = 0
    · have qb : (b != 0) = false := by simpa using hb
      have HB := Lib.hid hb
      clear ha hb
      go_enter Try.func30, Try.ntmps30
      go_wp2
      go_loopw [8] (fun i wr => ∃ k : Nat, k ≤ 2 ∧ i = .int .i64 k ∧ w = wr) (fun i _ => 2 - (intOf i).toNat)
      case atStart => exact ⟨0, by omega, rfl, rfl⟩
      case round =>
        obtain ⟨k, hk, rfl, rfl⟩ := hrel
        have hk3 : k = 0 ∨ k = 1 ∨ k = 2 := by omega
        rcases hk3 with rfl | rfl | rfl
        · go_wp2
          exact ⟨⟨1, by omega, by go_num, trivial⟩, by simp [intOf]⟩
        · go_wp2
          exact ⟨⟨2, by omega, by go_num, trivial⟩, by simp [intOf]⟩
        · go_wp2
          go_ret
          exact ⟨by rw [HB.out]; rfl, rfl⟩
    · have qb : (b != 0) = true := by simpa using hb
      clear ha hb
      go_enter Try.func30, Try.ntmps30
      go_wp2
      go_loopw [8] (fun i wr => ∃ k : Nat, k ≤ 1 ∧ i = .int .i64 k ∧ w = wr) (fun i _ => 2 - (intOf i).toNat)
      case atStart => exact ⟨0, by omega, rfl, rfl⟩
      case round =>
        obtain ⟨k, hk, rfl, rfl⟩ := hrel
        have hk3 : k = 0 ∨ k = 1 := by omega
        rcases hk3 with rfl | rfl
        · go_wp2
          exact ⟨⟨1, by omega, by go_num, trivial⟩, by simp [intOf]⟩
        · go_wp2
          go_ret
          exact ⟨rfl, rfl⟩
  · have qa : (a != 0) = true := by simpa using ha
    have ho : orI a b = a := by unfold orI; rw [if_neg ha]
    rw [ho]
    clear ho HO ha
    go_enter Try.func30, Try.ntmps30
    go_wp2
    go_loopw [8] (fun i wr => ∃ k : Nat, k ≤ 0 ∧ i = .int .i64 k ∧ w = wr) (fun i _ => 2 - (intOf i).toNat)
    case atStart => exact ⟨0, by omega, rfl, rfl⟩
    case round =>
      obtain ⟨k, hk, rfl, rfl⟩ := hrel
      obtain rfl : k = 0 := by omega
      go_wp2
      go_ret
      exact ⟨rfl, rfl⟩
/-- A grant, as it is told. -/
structure Hl where
  c : Int
  i : Int
  own : Bool
  til : Int
deriving Inhabited
def encH (h : Hl) : List Value := [.int .i64 h.c, .int .i64 h.i, .bool h.own, .int .i64 h.til]
def cfH (x y : Hl) : Int := orI (Lib.compareInt x.i y.i) (Lib.compareInt x.c y.c)
def ltH (x y : Hl) : Bool := decide (x.i < y.i ∨ (x.i = y.i ∧ x.c < y.c))
theorem lt_cfH (x y : Hl) : ltOf cfH x y = ltH x y := by
  unfold ltOf cfH orI ltH Lib.compareInt
  by_cases h1 : x.i < y.i
  · simp [h1]
  · by_cases h2 : y.i < x.i
    · have : ¬ x.i = y.i := by omega
      simp [h1, h2, this]
    · have : x.i = y.i := by omega
      by_cases h3 : x.c < y.c
      · simp [this, h3]
      · by_cases h4 : y.c < x.c <;> simp [this, h3, h4]
theorem swoH : SWO (ltOf cfH) where
  irrefl x := by rw [lt_cfH]; simp [ltH]
  trans x y z h1 h2 := by rw [lt_cfH] at *; simp [ltH] at *; omega
  ntrans x y z h1 h2 := by rw [lt_cfH] at *; simp [ltH] at *; omega
theorem two_grow (w : World) (a b : Obj) : World.drew ((w.alloc a).alloc b) = grow (w.drewN 1) #[a, b] := by
  rw [alloc_eq_grow, alloc_eq_grow, grow_grow]
  rfl
set_option maxHeartbeats 2000000 in
theorem closure_any (x y : Hl) (w : World) : Calls Try.prog 29 #[.agg (encH x).toArray, .agg (encH y).toArray] w fun e w' => e = .returned (.int .i64 (cfH x y)) ∧ ∃ q os', w' = grow (w.drewN q) os' := by
  have hc := fun W => compare_any x.i y.i W
  have hc2 := fun W => compare_any x.c y.c W
  unfold cfH
  have HC1 := Lib.hid hc
  have HC2 := Lib.hid hc2
  clear hc hc2
  generalize Lib.compareInt x.i y.i = r1 at *
  generalize Lib.compareInt x.c y.c = r2 at *
  unfold encH
  obtain ⟨xc, xi, xo, xt⟩ := x
  obtain ⟨yc, yi, yo, yt⟩ := y
  simp only at *
  go_enter Try.func29, Try.ntmps29
  go_wp2_with fail
  have hgr : World.drew ((w.alloc (.cells #[.int .i64 xc, .int .i64 xi, .bool xo, .int .i64 xt] 40)).alloc (.cells #[.int .i64 yc, .int .i64 yi, .bool yo, .int .i64 yt] 40)) = grow (w.drewN 1) #[.cells #[.int .i64 xc, .int .i64 xi, .bool xo, .int .i64 xt] 40, .cells #[.int .i64 yc, .int .i64 yi, .bool yo, .int .i64 yt] 40] := two_grow w _ _
  have h0 : (World.drew ((w.alloc (.cells #[.int .i64 xc, .int .i64 xi, .bool xo, .int .i64 xt] 40)).alloc (.cells #[.int .i64 yc, .int .i64 yi, .bool yo, .int .i64 yt] 40))).heap[w.heap.size]? = some (.cells #[.int .i64 xc, .int .i64 xi, .bool xo, .int .i64 xt] 40) := heap_alloc2_old w _ _
  have h1 : (World.drew ((w.alloc (.cells #[.int .i64 xc, .int .i64 xi, .bool xo, .int .i64 xt] 40)).alloc (.cells #[.int .i64 yc, .int .i64 yi, .bool yo, .int .i64 yt] 40))).heap[w.heap.size + 1]? = some (.cells #[.int .i64 yc, .int .i64 yi, .bool yo, .int .i64 yt] 40) := heap_alloc2_new w _ _
  have hS1 : (World.drew ((w.alloc (.cells #[.int .i64 xc, .int .i64 xi, .bool xo, .int .i64 xt] 40)).alloc (.cells #[.int .i64 yc, .int .i64 yi, .bool yo, .int .i64 yt] 40))).cell? ⟨w.heap.size, 1, none⟩ = some (.int .i64 xi) ∧ (World.drew ((w.alloc (.cells #[.int .i64 xc, .int .i64 xi, .bool xo, .int .i64 xt] 40)).alloc (.cells #[.int .i64 yc, .int .i64 yi, .bool yo, .int .i64 yt] 40))).cell? ⟨w.heap.size + 1, 1, none⟩ = some (.int .i64 yi) ∧ (World.drew ((w.alloc (.cells #[.int .i64 xc, .int .i64 xi, .bool xo, .int .i64 xt] 40)).alloc (.cells #[.int .i64 yc, .int .i64 yi, .bool yo, .int .i64 yt] 40))).cell? ⟨w.heap.size, 0, none⟩ = some (.int .i64 xc) ∧ (World.drew ((w.alloc (.cells #[.int .i64 xc, .int .i64 xi, .bool xo, .int .i64 xt] 40)).alloc (.cells #[.int .i64 yc, .int .i64 yi, .bool yo, .int .i64 yt] 40))).cell? ⟨w.heap.size + 1, 0, none⟩ = some (.int .i64 yc) := ⟨blk_cell h0 rfl, blk_cell h1 rfl, blk_cell h0 rfl, blk_cell h1 rfl⟩
  have HG := Lib.hid (And.intro hgr (And.intro h0 h1))
  refine wp_region_held (S := fun w' => (w').cell? ⟨w.heap.size, 1, none⟩ = some (.int .i64 xi) ∧ (w').cell? ⟨w.heap.size + 1, 1, none⟩ = some (.int .i64 yi) ∧ (w').cell? ⟨w.heap.size, 0, none⟩ = some (.int .i64 xc) ∧ (w').cell? ⟨w.heap.size + 1, 0, none⟩ = some (.int .i64 yc)) (by kernel_rfl) ?_
  change wpAnyH _ _ _ _ _ _ _ _ (World.drew _)
  clear hgr h0 h1
  generalize World.drew ((w.alloc (.cells #[.int .i64 xc, .int .i64 xi, .bool xo, .int .i64 xt] 40)).alloc (.cells #[.int .i64 yc, .int .i64 yi, .bool yo, .int .i64 yt] 40)) = w1 at *
  generalize hB : w.heap.size = B at *
  have HB := Lib.hid hB
  clear hB
  refine wpAnyH_take (i := 0) (v := .pointer (some ⟨B, 1, none⟩)) rfl (by kernel_rfl) (by kernel_rfl) (by kernel_rfl) (fun _ _ _ h => h) (Or.inl ⟨by rfl, fun w hS => by go_simp⟩) hS1 ?_
  refine wpAnyH_take (i := 1) (v := .int .i64 xi) rfl (by kernel_rfl) (by kernel_rfl) (by kernel_rfl) (fun _ _ _ h => h) (Or.inl ⟨by rfl, fun w hS => by go_simp⟩) hS1 ?_
  refine wpAnyH_take (i := 2) (v := .pointer (some ⟨B + 1, 1, none⟩)) rfl (by kernel_rfl) (by kernel_rfl) (by kernel_rfl) (fun _ _ _ h => h) (Or.inl ⟨by rfl, fun w hS => by go_simp⟩) hS1 ?_
  refine wpAnyH_take (i := 3) (v := .int .i64 yi) rfl (by kernel_rfl) (by kernel_rfl) (by kernel_rfl) (fun _ _ _ h => h) (Or.inl ⟨by rfl, fun w hS => by go_simp⟩) hS1 ?_
  refine wpAnyH_take (i := 5) (v := .pointer (some ⟨B, 0, none⟩)) rfl (by kernel_rfl) (by kernel_rfl) (by kernel_rfl) (fun _ _ _ h => h) (Or.inl ⟨by rfl, fun w hS => by go_simp⟩) hS1 ?_
  refine wpAnyH_take (i := 6) (v := .int .i64 xc) rfl (by kernel_rfl) (by kernel_rfl) (by kernel_rfl) (fun _ _ _ h => h) (Or.inl ⟨by rfl, fun w hS => by go_simp⟩) hS1 ?_
  refine wpAnyH_take (i := 7) (v := .pointer (some ⟨B + 1, 0, none⟩)) rfl (by kernel_rfl) (by kernel_rfl) (by kernel_rfl) (fun _ _ _ h => h) (Or.inl ⟨by rfl, fun w hS => by go_simp⟩) hS1 ?_
  refine wpAnyH_take (i := 8) (v := .int .i64 yc) rfl (by kernel_rfl) (by kernel_rfl) (by kernel_rfl) (fun _ _ _ h => h) (Or.inl ⟨by rfl, fun w hS => by go_simp⟩) hS1 ?_
  refine wpAnyH_one 4 _ (by kernel_rfl) rfl rfl (fun K hK => ?_)
  go_simp
  refine (HC1.out _).mono ?_
  rintro e w2 ⟨rfl, hw2⟩
  rw [hw2]
  clear hw2 w2
  refine hK _ _ hS1 ?_
  clear hK K
  refine wpAnyH_one 9 _ (by kernel_rfl) rfl rfl (fun K hK => ?_)
  go_simp
  refine (HC2.out _).mono ?_
  rintro e w2 ⟨rfl, hw2⟩
  rw [hw2]
  clear hw2 w2
  refine hK _ _ hS1 ?_
  clear hK K
  refine wpAnyH_one 10 _ (by kernel_rfl) rfl rfl (fun K hK => ?_)
  go_simp
  have hS2 : ∀ o, (w1.alloc o).cell? ⟨B, 1, none⟩ = some (.int .i64 xi) ∧ (w1.alloc o).cell? ⟨B + 1, 1, none⟩ = some (.int .i64 yi) ∧ (w1.alloc o).cell? ⟨B, 0, none⟩ = some (.int .i64 xc) ∧ (w1.alloc o).cell? ⟨B + 1, 0, none⟩ = some (.int .i64 yc) := fun o =>
    ⟨blk_cell (blk_alloc HG.out.2.1) rfl, blk_cell (blk_alloc HG.out.2.2) rfl, blk_cell (blk_alloc HG.out.2.1) rfl, blk_cell (blk_alloc HG.out.2.2) rfl⟩
  refine hK _ _ (hS2 _) ?_
  clear hK K
  refine wpAnyH_one 11 _ (by kernel_rfl) rfl rfl (fun K hK => ?_)
  go_simp
  refine (or_any r1 r2 (heap_alloc_new w1 _)).mono ?_
  rintro e w2 ⟨rfl, hw2⟩
  rw [← hw2]
  clear hw2 w2
  refine hK _ _ (hS2 _) ?_
  clear hK K
  refine wpAnyH_one 12 _ (by kernel_rfl) rfl rfl (fun K hK => ?_)
  go_simp
  refine hK _ _ (hS2 _) ?_
  clear hK K
  refine wpAnyH_done (by kernel_rfl) ?_ _
  go_wp2_with fail
  go_ret
  exact ⟨rfl, 1, _, by rw [HG.out.1, alloc_eq_grow, grow_grow]⟩
end Go.Proofs.Ytpjgcpnjfopolaa
