/-
  DirSets: for any entries, any place and any entry the law returns true: an entry is set at just its place. No condition.
-/
import Derived.Test.YthhcgdmpbihdnaaSame
import Derived.Lib.SmallJoins
namespace Go.Proofs.Ythhcgdmpbihdnaa
open Go.ChangeShapes Go.WideShapes Go.ChangeAt Go.RowKit Go.Deep
theorem open_ent {H : Type} {enc : TypeId × Value → H} {W : World} {b0 : Nat} {sp : Nat → Bool} {held : Bool} {v : Value} {d : DataW H} {p : List MemPlace}
    (hv : Value.okWide Try.prog W .any b0 24 v) (h : DataW.Trod enc Try.prog W 0 sp held 24 v d p) : ∃ s n, v = .agg #[.string s, .int .i64 n] ∧ s.size ≤ maxLen := by
  obtain ⟨v0, v1, y0, y1, n, rfl, _, _, h0, h1⟩ := Go.Joins.open_agg2 Try.underlying24 (by kernel_rfl) (by kernel_rfl) hv h
  obtain ⟨s, e1, _, e2⟩ := DataW.trod_string (by exact Try.underlying9) h0
  obtain ⟨z, e3, _, _⟩ := DataW.trod_int (k := .i64) (by exact Try.underlying3) h1
  injection e1 with e1
  injection e3 with e3
  exact ⟨s, z, by rw [e1, e3], e2⟩
theorem rw_set {w : World} {v : Value} {f : Nat → Ent} {n k : Nat} (hk : k < n) (h : Rw w v f n) (s : ByteArray) (m : Int) : ∃ g cap, v = .slice (some ⟨g, 0, none⟩) n cap ∧ n ≤ cap ∧ g < w.heap.size ∧
    Rw ((w.setCell ⟨g, k * 2, none⟩ (.string s)).setCell ⟨g, k * 2 + 1, none⟩ (.int .i64 m)) v (upd f k ⟨s, m⟩) n ∧
    (w.cell? ⟨g, k * 2, none⟩ = some (.string (f k).nm)) ∧ (w.cell? ⟨g, k * 2 + 1, none⟩ = some (.int .i64 (f k).ino)) ∧ w.frozen? ⟨g, k * 2, none⟩ = false ∧ w.frozen? ⟨g, k * 2 + 1, none⟩ = false := by
  obtain ⟨g, cap, cur, rfl, hg, h1, h2, h3, h4⟩ := h
  have hget := rw_get h4
  refine ⟨g, cap, rfl, h1, blk_lt hg, ⟨g, cap, _, rfl, setRow_cell _ _ _ _ _ _ (setRow_cell _ _ _ _ _ _ hg), h1, h2, by simpa using h3, ?_⟩, blk_cell hg ((hget _ (by omega)).trans (ecs_nm f n k hk)), blk_cell hg ((hget _ (by omega)).trans (ecs_ino f n k hk)), frozen_of_row _ _ _ _ _ hg, frozen_of_row _ _ _ _ _ hg⟩
  apply List.ext_getElem?
  intro m'
  rw [List.getElem?_take]
  by_cases c1 : m' < n * 2
  · rw [if_pos c1, Array.getElem?_toList, Array.getElem?_setIfInBounds, Array.getElem?_setIfInBounds, ecs_get, if_pos c1, Array.size_setIfInBounds]
    by_cases e1 : k * 2 + 1 = m'
    · subst e1
      rw [if_pos rfl, if_pos (by omega), if_neg (by omega), show (k * 2 + 1) / 2 = k by omega]
      simp [upd]
    · rw [if_neg e1]
      by_cases e2 : k * 2 = m'
      · subst e2
        rw [if_pos rfl, if_pos (by omega), if_pos (by omega), show k * 2 / 2 = k by omega]
        simp [upd]
      · rw [if_neg e2, hget m' c1, ecs_get, if_pos c1]
        have : ¬ m' / 2 = k := by omega
        simp [upd, this]
  · rw [if_neg c1, ecs_get, if_neg c1]
/-! ### THE LAW -/
theorem Inp.below {w w' : World} {v : Value} {f : Nat → Ent} {n : Nat} (h : Inp w v f n) (k : Below w.heap.size w w') : Inp w' v f n := by
  obtain ⟨A, cap, rfl, h1, h2, h3, h4⟩ := h
  refine ⟨A, cap, rfl, h1, h2, h3, fun h0 => ?_⟩
  obtain ⟨b, off, rfl, hb, hc⟩ := h4 h0
  exact ⟨b, off, rfl, Nat.lt_of_lt_of_le hb k.size, fun i hi => ⟨(k.cell (p := ⟨b, off + i * 2, none⟩) hb).trans (hc i hi).1, (k.cell (p := ⟨b, off + i * 2 + 1, none⟩) hb).trans (hc i hi).2⟩⟩
theorem own_at' {w : World} {B : Nat} {e : TypeId} {sz : Nat} {v : Value} {n : Nat} {xs : List Value} (h : w.ownsRow B e sz v n xs) (_ : 0 < n) {g cap : Nat} (hv : v = .slice (some ⟨g, 0, none⟩) n cap) : B ≤ g :=
  (h.lt g (by rw [hv]; rfl)).1
set_option maxRecDepth 100000 in
set_option maxHeartbeats 1000000 in
theorem setsYes {w : World} {v : Value} {f : Nat → Ent} {n : Nat} (h : Inp w v f n) (k : Nat) (hk : k < 16) (s : ByteArray) (m : Int) (hs : s.size ≤ maxLen) :
    Calls Try.prog 4 #[v, .int .i64 (k : Nat), .agg #[.string s, .int .i64 m]] w fun e w' => e = .returned (.bool true) ∧ Below w.heap.size w w' := by
  unfold maxLen at hs
  have hss := Nat.le_trans (shrt_size s) (show 20 ≤ 9223372036854775807 by decide)
  have hb0 : Below w.heap.size w (w.alloc (.cells #[.string s, .int .i64 m] 24)) := (Below.refl _ _).alloc (Nat.le_refl _) _
  have HT := Lib.hid (table_any (h.below hb0))
  have HS := Lib.hid fun W => short_any s hs W
  generalize shrt s = t at *
  have e0 := heap_alloc_new w (.cells #[.string s, .int .i64 m] 24)
  have hsz0 : (w.alloc (.cells #[.string s, .int .i64 m] 24)).heap.size = w.heap.size + 1 := by simp
  generalize hF : made f n = F at *
  have HSET := Lib.hid fun W => set_any F (k : Nat) ⟨t, m⟩ W
  rw [show setT F k ⟨t, m⟩ = upd F k ⟨t, m⟩ by unfold setT; rw [if_pos (by omega)]; rfl] at HSET
  obtain ⟨G, hG⟩ : ∃ G, G = upd F k ⟨t, m⟩ := ⟨_, rfl⟩
  rw [← hG] at HSET
  have HG := Lib.hid hG
  clear hG
  have HM1 := Lib.hid fun W => may_any ⟨t, m⟩ hss W
  have HM2 := Lib.hid fun W => rmay_any ⟨t, m⟩ hss W
  generalize mayE ⟨t, m⟩ = b at *
  clear h hF
  go_enter Try.func4, Try.ntmps4
  go_wp2_with fail
  generalize w.alloc (.cells #[.string s, .int .i64 m] 24) = w0 at *
  refine (HT.out).mono ?_
  rintro e w1 ⟨v', rfl, hown, hb1⟩
  have hr1 := own_rw hown (by decide)
  have x0 := blk_below hb1 (by omega) e0
  have hs1 := hb1.size
  have hbel1 := hb0.trans (hb1.mono (by omega))
  have c0 : (w1.alloc (.cells (tabv F) 26)).cell? ⟨w.heap.size, 0, none⟩ = some (.string s) := blk_cell (blk_alloc x0) rfl
  have f0 : (w1.alloc (.cells (tabv F) 26)).frozen? ⟨w.heap.size, 0, none⟩ = false := frozen_of_row _ _ _ _ _ (blk_alloc x0)
  have k1 : ((w1.alloc (.cells (tabv F) 26)).setCell ⟨w.heap.size, 0, none⟩ (.string t)).heap[w.heap.size]? = some (.cells #[.string t, .int .i64 m] 24 (0, 0)) := setRow_cell _ _ _ _ _ 0 (blk_alloc x0)
  have k2 : ((w1.alloc (.cells (tabv F) 26)).setCell ⟨w.heap.size, 0, none⟩ (.string t)).heap[w1.heap.size]? = some (.cells (tabv F) 26 (0, 0)) := blk_set_other (heap_alloc_new _ _) (by omega)
  have k3 : Rw ((w1.alloc (.cells (tabv F) 26)).setCell ⟨w.heap.size, 0, none⟩ (.string t)) v' F 16 := by
    obtain ⟨g, cap, cur, q1, q2, q3⟩ := hr1
    have hg := (own_at' hown (by decide)) q1
    exact ⟨g, cap, cur, q1, blk_set_other (blk_alloc q2) (by omega), q3⟩
  have k5 : ∀ g, v'.ownBlock = some g → w.heap.size < g := fun g hg => by have := (hown.lt g hg).1; omega
  have k4 : Below w.heap.size w ((w1.alloc (.cells (tabv F) 26)).setCell ⟨w.heap.size, 0, none⟩ (.string t)) := (hbel1.alloc (by omega) _).setCell (p := ⟨w.heap.size, 0, none⟩) (Nat.le_refl _) _
  have k6 : w.heap.size < ((w1.alloc (.cells (tabv F) 26)).setCell ⟨w.heap.size, 0, none⟩ (.string t)).heap.size := blk_lt k1
  have K3 := Lib.hid (And.intro k3 k5)
  have K4 := Lib.hid k4
  clear k3 k4 k5 hb1 hown hr1 x0 hbel1 HT hb0 e0
  go_wp2_with (first
    | ((with_reducible refine st26n (f := F) ?_ ?_ ?_ ?_); exact rfl; exact rfl; exact rfl)
    | ((with_reducible refine ld26 ?_ k2 ?_); exact rfl; clear c0 f0; generalize ((w1.alloc (.cells (tabv F) 26)).setCell ⟨w.heap.size, 0, none⟩ (.string t)) = w2 at *; have c0 := blk_cell (j := 0) k1 rfl; have c1 := blk_cell (j := 1) k1 rfl)
    | (go_at_call 11; refine (HS.out _).mono ?_; rintro e w2 ⟨rfl, rfl⟩))
  refine (HSET.out _).mono ?_
  rintro e w3 ⟨rfl, hb3⟩
  have x3 := blk_below hb3 k6 k1
  have hs3 := hb3.size
  have K3' := Lib.hid (And.intro (K3.out.1.below hb3) K3.out.2)
  have K4' := Lib.hid (below_then K4.out hb3)
  clear hb3 k1 k2 c0 c1 K3 K4
  obtain ⟨g, cap, rfl, hcap, hg, r1, r2, r3, r4, r5⟩ := rw_set hk K3'.out.1 t m
  have hgl : w.heap.size < g := K3'.out.2 g rfl
  have z0 := fun o => blk_cell (j := 0) (blk_alloc (x := o) x3) rfl
  have z1 := fun o => blk_cell (j := 1) (blk_alloc (x := o) x3) rfl
  rw [← HG.out] at r1
  have hsz4 : ((w3.setCell ⟨g, k * 2, none⟩ (.string t)).setCell ⟨g, k * 2 + 1, none⟩ (.int .i64 m)).heap.size = w3.heap.size := by simp [World.setCell]
  have y1 : (((w3.setCell ⟨g, k * 2, none⟩ (.string t)).setCell ⟨g, k * 2 + 1, none⟩ (.int .i64 m)).alloc (.cells (tabv G) 26)).heap[w.heap.size]? = some (.cells #[.string t, .int .i64 m] 24 (0, 0)) := blk_alloc (blk_set_other (blk_set_other x3 (by omega)) (by omega))
  have y2 : (((w3.setCell ⟨g, k * 2, none⟩ (.string t)).setCell ⟨g, k * 2 + 1, none⟩ (.int .i64 m)).alloc (.cells (tabv G) 26)).heap[w3.heap.size]? = some (.cells (tabv G) 26 (0, 0)) := by rw [← hsz4]; exact heap_alloc_new _ _
  have Y3 := Lib.hid (r1.below ((Below.refl _ _).alloc (Nat.le_refl _) (.cells (tabv G) 26)))
  have Y4 := Lib.hid (show Below w.heap.size w (((w3.setCell ⟨g, k * 2, none⟩ (.string t)).setCell ⟨g, k * 2 + 1, none⟩ (.int .i64 m)).alloc (.cells (tabv G) 26)) from ((K4'.out.setCell (p := ⟨g, k * 2, none⟩) (by simp; omega) _).setCell (p := ⟨g, k * 2 + 1, none⟩) (by simp; omega) _).alloc (by omega) _)
  clear r1 x3 hsz4
  go_wp2_with (first
    | ((with_reducible refine st26n (f := G) ?_ ?_ ?_ ?_); exact rfl; exact rfl; exact rfl)
    | ((with_reducible refine ld26 ?_ y2 ?_); exact rfl; clear r2 r3 r4 r5 z0 z1; generalize (((w3.setCell ⟨g, k * 2, none⟩ (.string t)).setCell ⟨g, k * 2 + 1, none⟩ (.int .i64 m)).alloc (.cells (tabv G) 26)) = w4 at *))
  refine (entries_any G _).mono ?_
  rintro e w5 ⟨v5, rfl, hown5, hb5⟩
  have x5 := blk_below hb5 (blk_lt y1) y1
  have hr5 := own_rw hown5 (by decide)
  have hr5' := Y3.out.below hb5
  have Y5 := Lib.hid (below_then Y4.out hb5)
  have HSA := Lib.hid (same_yes hr5 hr5')
  clear hb5 hown5 hr5 hr5' y1 y2
  go_wp2_with fail
  refine (HSA.out).mono ?_
  rintro e w6 ⟨rfl, hb6⟩
  have x6 := blk_below hb6 (blk_lt x5) x5
  have Y6 := Lib.hid (below_then Y5.out hb6)
  have c0 := blk_cell (j := 0) x6 rfl
  have c1 := blk_cell (j := 1) x6 rfl
  clear x5 hb6 HSA
  go_wp2
  have hbb : (b == b) = true := by simp
  have hl6 := blk_lt x6
  have g0 : ∀ d os, (Go.Sort.grow (redrawn w6 d) os).cell? ⟨w.heap.size, 0, none⟩ = some (.string t) := fun d os => ((below_regrown w6 d os).cell (p := ⟨w.heap.size, 0, none⟩) hl6).trans c0
  have g1 : ∀ d os, (Go.Sort.grow (redrawn w6 d) os).cell? ⟨w.heap.size, 1, none⟩ = some (.int .i64 m) := fun d os => ((below_regrown w6 d os).cell (p := ⟨w.heap.size, 1, none⟩) hl6).trans c1
  refine wp_region_quiet_below (by kernel_rfl) (by kernel_rfl) ?_
  go_big_quiet_step (fail)
  go_big_quiet_step (fail)
  go_big_quiet_step (fail)
  go_big_quiet_step ((go_at_call 20; exact Calls.regrown_of (HM1.out _)))
  go_big_quiet_step (fail)
  go_big_quiet_step ((go_at_call 21; exact Calls.regrown_of (HM2.out _)))
  go_big_quiet_step (fail)
  go_big_quiet_step (fail)
  go_big_quiet_step (fail)
  go_big_quiet_step ((go_at_call 16; exact Calls.regrown_of (lives_any _)))
  go_big_quiet_step (fail)
  go_big_quiet_step (fail)
  refine wpQuiet_nil ?_
  intro w7 hw7
  have hb7 := below_then Y6.out (near_iff.1 hw7)
  clear hw7
  go_wp2
  go_ret
  exact ⟨rfl, hb7⟩
set_option maxRecDepth 100000 in
set_option maxHeartbeats 1000000 in
theorem setsNo {w : World} {v : Value} {f : Nat → Ent} {n : Nat} (h : Inp w v f n) (k : Int) (hk : ¬ (0 ≤ k ∧ k < 16)) (s : ByteArray) (m : Int) (hs : s.size ≤ maxLen) :
    Calls Try.prog 4 #[v, .int .i64 k, .agg #[.string s, .int .i64 m]] w fun e w' => e = .returned (.bool true) ∧ Below w.heap.size w w' := by
  unfold maxLen at hs
  have hss := Nat.le_trans (shrt_size s) (show 20 ≤ 9223372036854775807 by decide)
  have hb0 : Below w.heap.size w (w.alloc (.cells #[.string s, .int .i64 m] 24)) := (Below.refl _ _).alloc (Nat.le_refl _) _
  have HT := Lib.hid (table_any (h.below hb0))
  have HS := Lib.hid fun W => short_any s hs W
  generalize shrt s = t at *
  have e0 := heap_alloc_new w (.cells #[.string s, .int .i64 m] 24)
  have hsz0 : (w.alloc (.cells #[.string s, .int .i64 m] 24)).heap.size = w.heap.size + 1 := by simp
  generalize hF : made f n = F at *
  have HSET := Lib.hid fun W => set_any F k ⟨t, m⟩ W
  rw [show setT F k ⟨t, m⟩ = F by unfold setT; rw [if_neg hk]] at HSET
  obtain ⟨G, hG⟩ : ∃ G, G = F := ⟨_, rfl⟩
  have HSET : Hid (∀ W, Calls Try.prog 17 #[.agg (tabv F), .int .i64 k, .agg #[.string t, .int .i64 m]] W fun r w' => r = .returned (.agg (tabv G)) ∧ Below W.heap.size W w') := by rw [hG]; exact HSET
  have HG := Lib.hid hG
  clear hG
  have hor : k < 0 ∨ (0 ≤ k ∧ 16 ≤ k) := by omega
  clear hk
  have HM1 := Lib.hid fun W => may_any ⟨t, m⟩ hss W
  have HM2 := Lib.hid fun W => rmay_any ⟨t, m⟩ hss W
  generalize mayE ⟨t, m⟩ = b at *
  clear h hF
  rcases hor with q | ⟨q, q2⟩
  all_goals
    go_enter Try.func4, Try.ntmps4
    go_wp2_with fail
    generalize w.alloc (.cells #[.string s, .int .i64 m] 24) = w0 at *
    refine (HT.out).mono ?_
    rintro e w1 ⟨v', rfl, hown, hb1⟩
    have hr1 := own_rw hown (by decide)
    have x0 := blk_below hb1 (by omega) e0
    have hs1 := hb1.size
    have hbel1 := hb0.trans (hb1.mono (by omega))
    have c0 : (w1.alloc (.cells (tabv F) 26)).cell? ⟨w.heap.size, 0, none⟩ = some (.string s) := blk_cell (blk_alloc x0) rfl
    have f0 : (w1.alloc (.cells (tabv F) 26)).frozen? ⟨w.heap.size, 0, none⟩ = false := frozen_of_row _ _ _ _ _ (blk_alloc x0)
    have k1 : ((w1.alloc (.cells (tabv F) 26)).setCell ⟨w.heap.size, 0, none⟩ (.string t)).heap[w.heap.size]? = some (.cells #[.string t, .int .i64 m] 24 (0, 0)) := setRow_cell _ _ _ _ _ 0 (blk_alloc x0)
    have k2 : ((w1.alloc (.cells (tabv F) 26)).setCell ⟨w.heap.size, 0, none⟩ (.string t)).heap[w1.heap.size]? = some (.cells (tabv F) 26 (0, 0)) := blk_set_other (heap_alloc_new _ _) (by omega)
    have k3 : Rw ((w1.alloc (.cells (tabv F) 26)).setCell ⟨w.heap.size, 0, none⟩ (.string t)) v' F 16 := by
      obtain ⟨g, cap, cur, q1, q2, q3⟩ := hr1
      have hg := (own_at' hown (by decide)) q1
      exact ⟨g, cap, cur, q1, blk_set_other (blk_alloc q2) (by omega), q3⟩
    have k5 : ∀ g, v'.ownBlock = some g → w.heap.size < g := fun g hg => by have := (hown.lt g hg).1; omega
    have k4 : Below w.heap.size w ((w1.alloc (.cells (tabv F) 26)).setCell ⟨w.heap.size, 0, none⟩ (.string t)) := (hbel1.alloc (by omega) _).setCell (p := ⟨w.heap.size, 0, none⟩) (Nat.le_refl _) _
    have k6 : w.heap.size < ((w1.alloc (.cells (tabv F) 26)).setCell ⟨w.heap.size, 0, none⟩ (.string t)).heap.size := blk_lt k1
    have K3 := Lib.hid (And.intro k3 k5)
    have K4 := Lib.hid k4
    clear k3 k4 k5 hb1 hown hr1 x0 hbel1 HT hb0 e0
    go_wp2_with (first
      | ((with_reducible refine st26n (f := F) ?_ ?_ ?_ ?_); exact rfl; exact rfl; exact rfl)
      | ((with_reducible refine ld26 ?_ k2 ?_); exact rfl; clear c0 f0; generalize ((w1.alloc (.cells (tabv F) 26)).setCell ⟨w.heap.size, 0, none⟩ (.string t)) = w2 at *; have c0 := blk_cell (j := 0) k1 rfl; have c1 := blk_cell (j := 1) k1 rfl)
      | (go_at_call 11; refine (HS.out _).mono ?_; rintro e w2 ⟨rfl, rfl⟩))
    refine (HSET.out _).mono ?_
    rintro e w3 ⟨rfl, hb3⟩
    have x3 := blk_below hb3 k6 k1
    have hs3 := hb3.size
    have K3' := Lib.hid (And.intro (K3.out.1.below hb3) K3.out.2)
    have K4' := Lib.hid (below_then K4.out hb3)
    clear hb3 k1 k2 c0 c1 K3 K4
    have y1 : (w3.alloc (.cells (tabv G) 26)).heap[w.heap.size]? = some (.cells #[.string t, .int .i64 m] 24 (0, 0)) := blk_alloc x3
    have y2 : (w3.alloc (.cells (tabv G) 26)).heap[w3.heap.size]? = some (.cells (tabv G) 26 (0, 0)) := heap_alloc_new _ _
    have Y3 := Lib.hid (show Rw (w3.alloc (.cells (tabv G) 26)) v' G 16 by rw [HG.out]; exact K3'.out.1.below ((Below.refl _ _).alloc (Nat.le_refl _) _))
    have Y4 := Lib.hid (show Below w.heap.size w (w3.alloc (.cells (tabv G) 26)) from K4'.out.alloc (by omega) _)
    clear x3
    go_wp2_with (first
      | ((with_reducible refine st26n (f := G) ?_ ?_ ?_ ?_); exact rfl; exact rfl; exact rfl)
      | ((with_reducible refine ld26 ?_ y2 ?_); exact rfl; generalize w3.alloc (.cells (tabv G) 26) = w4 at *))
    refine (entries_any G _).mono ?_
    rintro e w5 ⟨v5, rfl, hown5, hb5⟩
    have x5 := blk_below hb5 (blk_lt y1) y1
    have hr5 := own_rw hown5 (by decide)
    have hr5' := Y3.out.below hb5
    have Y5 := Lib.hid (below_then Y4.out hb5)
    have HSA := Lib.hid (same_yes hr5 hr5')
    clear hb5 hown5 hr5 hr5' y1 y2
    go_wp2_with fail
    refine (HSA.out).mono ?_
    rintro e w6 ⟨rfl, hb6⟩
    have x6 := blk_below hb6 (blk_lt x5) x5
    have Y6 := Lib.hid (below_then Y5.out hb6)
    have c0 := blk_cell (j := 0) x6 rfl
    have c1 := blk_cell (j := 1) x6 rfl
    clear x5 hb6 HSA
    go_wp2
    have hbb : (b == b) = true := by simp
    have hl6 := blk_lt x6
    have g0 : ∀ d os, (Go.Sort.grow (redrawn w6 d) os).cell? ⟨w.heap.size, 0, none⟩ = some (.string t) := fun d os => ((below_regrown w6 d os).cell (p := ⟨w.heap.size, 0, none⟩) hl6).trans c0
    have g1 : ∀ d os, (Go.Sort.grow (redrawn w6 d) os).cell? ⟨w.heap.size, 1, none⟩ = some (.int .i64 m) := fun d os => ((below_regrown w6 d os).cell (p := ⟨w.heap.size, 1, none⟩) hl6).trans c1
    refine wp_region_quiet_below (by kernel_rfl) (by kernel_rfl) ?_
    go_big_quiet_step (fail)
    go_big_quiet_step (fail)
    go_big_quiet_step (fail)
    go_big_quiet_step ((go_at_call 20; exact Calls.regrown_of (HM1.out _)))
    go_big_quiet_step (fail)
    go_big_quiet_step ((go_at_call 21; exact Calls.regrown_of (HM2.out _)))
    go_big_quiet_step (fail)
    go_big_quiet_step (fail)
    go_big_quiet_step (fail)
    go_big_quiet_step ((go_at_call 16; exact Calls.regrown_of (lives_any _)))
    go_big_quiet_step (fail)
    go_big_quiet_step (fail)
    refine wpQuiet_nil ?_
    intro w7 hw7
    have hb7 := below_then Y6.out (near_iff.1 hw7)
    clear hw7
    go_wp2
    go_ret
    exact ⟨rfl, hb7⟩
theorem lawSets {w : World} {v : Value} {f : Nat → Ent} {n : Nat} (h : Inp w v f n) (k : Int) (s : ByteArray) (m : Int) (hs : s.size ≤ maxLen) :
    Calls Try.prog 4 #[v, .int .i64 k, .agg #[.string s, .int .i64 m]] w fun e w' => e = .returned (.bool true) ∧ Below w.heap.size w w' := by
  by_cases hk : 0 ≤ k ∧ k < 16
  · obtain ⟨j, rfl⟩ := Int.eq_ofNat_of_zero_le hk.1
    exact setsYes h j (by omega) s m hs
  · exact setsNo h k hk s m hs
/-! ### THE ROW -/
set_option maxRecDepth 100000 in
theorem dirSets_lifted (os : Os) (started : os.Started) (H : Type) (enc : TypeId × Value → H) :
    ReturnsInHanded {} Try.checked os 4 .any (Rows.dirSetsSpec.pre6 enc Try.prog Try.f4 Rows.dirSetsRow.domain false) (Rows.dirSetsSpec.post enc Try.prog Try.f4 false true false false) := by
  refine returnsInHanded_of_change (C := Try.checked) own started (by kernel_rfl) Try.func4
    (ChangeSpec.witness6 (enc := enc) (C := Try.checked) false ⟨#[], #[.slice none 0 0, .int .i64 0, .agg #[.string { data := #[] }, .int .i64 0]], []⟩ 8 (by kernel_rfl) (by kernel_rfl) (by kernel_rfl) (by kernel_rfl)) ?_
  intro W base args ds gs before hval0 hW _ _
  have hval : ∀ (j : Nat) t v, Try.f4.params[j]? = some t → args[j]? = some v → Value.okWide Try.prog W .any base t v := hval0
  have hW' := hW
  obtain ⟨p, q, hA0, hV, rfl, _, _⟩ := hW
  have hA : DataW.TrodAll enc Try.prog W 0 (fun _ => true) true Try.f4.params.toList args.toList ds p := hA0
  rw [Try.params4] at hA hval
  obtain ⟨v0, vs0, d0, ds0, p0, q0, hargs, rfl, rfl, h0, r0⟩ := trodAll_cons hA
  obtain ⟨v1, vs1, d1, ds1, p1, q1, rfl, rfl, rfl, h1, r1⟩ := trodAll_cons r0
  obtain ⟨v2, vs2, d2, ds2, p2, q2, rfl, rfl, rfl, h2, r2⟩ := trodAll_cons r1
  obtain ⟨rfl, rfl, rfl⟩ := trodAll_nil r2
  obtain rfl : args = #[v0, v1, v2] := by cases args; simp_all
  obtain ⟨rfl, rfl⟩ := trodVars_none hV
  have k0 := h0
  have lt0 : ∀ x ∈ p0, x.block < W.heap.size := by obtain ⟨m, hm⟩ := k0; exact DataW.trod_lt m _ _ _ hm
  obtain ⟨f0, n0, w0⟩ := open_ents (hval 0 22 v0 rfl rfl) h0
  obtain ⟨a1, rfl, rfl, rfl, w1⟩ := open_int Try.underlying3 (hval 1 3 v1 rfl rfl) h1
  have k2 := h2
  have lt2 : ∀ x ∈ p2, x.block < W.heap.size := by obtain ⟨m, hm⟩ := k2; exact DataW.trod_lt m _ _ _ hm
  obtain ⟨s2, m2, rfl, w2⟩ := open_ent (hval 2 24 v2 rfl rfl) h2
  clear hA0 hval0
  refine (lawSets w0 a1 s2 m2 w2).mono fun e W' ⟨he, bel⟩ => ?_
  subst he
  exact ⟨_, rfl, _, _, _, [], _, [], hW', trodAll_mk1 (shut_bool Try.underlying4 _), (trodAll_cons_mk (Below.trod laidOut (by kernel_rfl) (of_decide_eq_true (by kernel_rfl)) k0 bel lt0) (trodAll_cons_mk (shut_int Try.underlying3 w1) (trodAll_cons_mk (Below.trod laidOut (by kernel_rfl) (of_decide_eq_true (by kernel_rfl)) k2 bel lt2) trodAll_mk0))), rfl, bel.frame _, fun h => by cases h⟩
theorem dirSets_over : Rows.dirSetsRow.holds Try.pinned (OpenSpec.ofChange Rows.dirSetsSpec) :=
  OpenClaim.holds_of_wide 4 Try.f4 rfl rfl rfl rfl rfl rfl rfl ⟨rfl, rfl, rfl, rfl, rfl⟩ rfl rfl rfl rfl rfl (by kernel_rfl) Try.func4 (by kernel_rfl)
    (of_decide_eq_true (by kernel_rfl)) (by unfold Func.isWrapper; first | (rw [if_pos (by decide +kernel)]; kernel_rfl) | (rw [if_neg (by decide +kernel)]; exact ⟨rfl, rfl⟩))
    (fun os started H enc _ => dirSets_lifted os started H enc)
/-- THE STATEMENT. -/
theorem dirSets_holds : Rows.DirSetsSaid := dirSets_over
end Go.Proofs.Ythhcgdmpbihdnaa
