/-
  WALKS over the clocks: New, True, Kept, Show, of the program and of the reference.
-/
import Derived.Test.YteodeemghhbfpaaBase
namespace Go.Proofs.Yteodeemghhbfpaa
open Go.RowKit
def ia (l : List Int) : Array Value := (l.map (Value.int .i64)).toArray
theorem ia_get (l : List Int) (i : Nat) (h : i < l.length) : (ia l)[i]? = some (.int .i64 (l.getD i 0)) := by simp [ia, h]
theorem ia_size (l : List Int) : (ia l).size = l.length := by simp [ia]
theorem ia_set (l : List Int) (i : Nat) (x : Int) : (ia l).setIfInBounds i (.int .i64 x) = ia (l.set i x) := by
  apply Array.ext'
  simp [ia]
/-- Clocks: a struct of type T in block c, their eighths in block g. -/
structure CAt (w : World) (T : TypeId) (c g : Nat) (l : List Int) (now : Int) (fl : Bool) : Prop where
  blk : w.heap[c]? = some (.cells #[.slice (some ⟨g, 0, none⟩) l.length l.length, .int .i64 now, .bool fl] T (0, 0))
  row : w.heap[g]? = some (.cells (ia l) 3 (0, 0))
  ne : c ≠ g
section
variable {w w' : World} {T : TypeId} {c g : Nat} {l : List Int} {now : Int} {fl : Bool}
theorem CAt.c0 (h : CAt w T c g l now fl) : w.cell? ⟨c, 0, none⟩ = some (.slice (some ⟨g, 0, none⟩) l.length l.length) := blk_cell h.blk rfl
theorem CAt.c1 (h : CAt w T c g l now fl) : w.cell? ⟨c, 1, none⟩ = some (.int .i64 now) := blk_cell h.blk rfl
theorem CAt.c2 (h : CAt w T c g l now fl) : w.cell? ⟨c, 2, none⟩ = some (.bool fl) := blk_cell h.blk rfl
theorem CAt.f (h : CAt w T c g l now fl) (j : Nat) : w.frozen? ⟨c, j, none⟩ = false := frozen_of_row _ _ _ _ _ h.blk
theorem CAt.fg (h : CAt w T c g l now fl) (j : Nat) : w.frozen? ⟨g, j, none⟩ = false := frozen_of_row _ _ _ _ _ h.row
theorem CAt.cg (h : CAt w T c g l now fl) (j : Nat) (hj : j < l.length) : w.cell? ⟨g, j, none⟩ = some (.int .i64 (l.getD j 0)) := blk_cell h.row (ia_get l j hj)
theorem CAt.fr {S : Nat → Prop} (h : CAt w T c g l now fl) (k : Fr S w w') (h1 : ¬ S c) (h2 : ¬ S g) : CAt w' T c g l now fl := ⟨k.blk h1 h.blk, k.blk h2 h.row, h.ne⟩
theorem CAt.below (h : CAt w T c g l now fl) (k : Below w.heap.size w w') : CAt w' T c g l now fl := h.fr (S := fun _ => False) (Fr.of_below k) id id
end
theorem own_full {w : World} {B : Nat} {e : TypeId} {g n : Nat} {xs : List Value} (h : w.ownsRow B e 1 (.slice (some ⟨g, 0, none⟩) n n) n xs) : w.heap[g]? = some (.cells xs.toArray e (0, 0)) := by
  rcases h.2 with ⟨h0, _⟩ | ⟨g', cap', cur, hv, hb, hg, hc, h5, h6, h7⟩
  · cases h0
  · injection hv with h1 h2 h3
    injection h1 with h1
    injection h1 with h1
    subst h1
    rw [hg]
    have e1 : cur.toList = xs := by
      rw [← h7, List.take_of_length_le]
      simp [h6, ← h3]
    rw [← e1]
theorem info3 : (Try.prog.info? 3).map (fun i => (i.zero, i.size, i.bytes)) = some (some (.int .i64 0), 1, 8) := by kernel_rfl
set_option maxHeartbeats 1000000 in
theorem new_yes (n : Int) (w : World) (h1 : 1 ≤ n) (h2 : n ≤ 9) :
    Calls Try.prog 7 #[.int .i64 n] w fun e w' => ∃ c g, e = .returned (.pointer (some ⟨c, 0, none⟩)) ∧ w.heap.size ≤ c ∧ w.heap.size ≤ g ∧ CAt w' 42 c g (List.replicate n.toNat 0) 0 false ∧ Below w.heap.size w w' := by
  obtain ⟨k, rfl⟩ := Int.eq_ofNat_of_zero_le (show 0 ≤ n by omega)
  obtain ⟨i0, hi, hz0, hz1, hz2⟩ := info_parts info3
  have hbb : i0.bytes * k ≤ 281474976710656 := by rw [hz2]; omega
  have HB := Lib.hid hbb
  clear hbb
  go_enter Try.func7, Try.ntmps7
  go_wp2_with (at_make; refine wpList_make_full _ rfl _ _ 30 rfl w.heap.size 3 i0 _ 1 Try.underlying30 hi hz0 hz1 _ _ _ _ k rfl rfl rfl rfl HB.out (by unfold maxLen; omega) (Nat.le_refl _) ?_; intro w1 hown hgr)
  go_ret
  have hrow := own_full hown
  rw [Nat.mul_one] at hrow
  rw [show (madeCells (Value.int IntKind.i64 0).cells k).toList.toArray = ia (List.replicate (k : Int).toNat 0) from by
    rw [show (Value.int IntKind.i64 0).cells = #[Value.int IntKind.i64 0] from rfl, toList_madeCells_one]; simp [ia]] at hrow
  have hb1 : Below w.heap.size w w1 := (Below.refl _ _).grown hgr (Nat.le_refl _) (by simp)
  refine ⟨w1.heap.size, w.heap.size, rfl, hb1.size, Nat.le_refl _, ⟨?_, blk_alloc hrow, ?_⟩, hb1.alloc hb1.size _⟩
  · rw [heap_alloc_new]; simp
  · have := blk_lt hrow; omega
theorem new_no (n : Int) (w : World) (h : n < 1 ∨ 9 < n) : Calls Try.prog 7 #[.int .i64 n] w fun e w' => e = .returned (.pointer none) ∧ w = w' := by
  rcases h with h | h
  all_goals
    go_enter Try.func7, Try.ntmps7
    go_wp2
    go_ret
    exact ⟨rfl, rfl⟩
set_option maxHeartbeats 1000000 in
theorem rnew_yes (n : Int) (w : World) (h1 : 1 ≤ n) (h2 : n ≤ 9) :
    Calls Try.prog 8 #[.int .i64 n] w fun e w' => ∃ c g, e = .returned (.pointer (some ⟨c, 0, none⟩)) ∧ w.heap.size ≤ c ∧ w.heap.size ≤ g ∧ CAt w' 36 c g (List.replicate n.toNat 0) 0 true ∧ Below w.heap.size w w' := by
  obtain ⟨k, rfl⟩ := Int.eq_ofNat_of_zero_le (show 0 ≤ n by omega)
  obtain ⟨i0, hi, hz0, hz1, hz2⟩ := info_parts info3
  have hbb : i0.bytes * k ≤ 281474976710656 := by rw [hz2]; omega
  have HB := Lib.hid hbb
  clear hbb
  go_enter Try.func8, Try.ntmps8
  go_wp2_with (at_make; refine wpList_make_full _ rfl _ _ 30 rfl w.heap.size 3 i0 _ 1 Try.underlying30 hi hz0 hz1 _ _ _ _ k rfl rfl rfl rfl HB.out (by unfold maxLen; omega) (Nat.le_refl _) ?_; intro w1 hown hgr)
  go_ret
  have hrow := own_full hown
  rw [Nat.mul_one] at hrow
  rw [show (madeCells (Value.int IntKind.i64 0).cells k).toList.toArray = ia (List.replicate (k : Int).toNat 0) from by
    rw [show (Value.int IntKind.i64 0).cells = #[Value.int IntKind.i64 0] from rfl, toList_madeCells_one]; simp [ia]] at hrow
  have hb1 : Below w.heap.size w w1 := (Below.refl _ _).grown hgr (Nat.le_refl _) (by simp)
  refine ⟨w1.heap.size, w.heap.size, rfl, hb1.size, Nat.le_refl _, ⟨?_, blk_alloc hrow, ?_⟩, hb1.alloc hb1.size _⟩
  · rw [heap_alloc_new]; simp
  · have := blk_lt hrow; omega
theorem rnew_no (n : Int) (w : World) (h : n < 1 ∨ 9 < n) : Calls Try.prog 8 #[.int .i64 n] w fun e w' => e = .returned (.pointer none) ∧ w = w' := by
  rcases h with h | h
  all_goals
    go_enter Try.func8, Try.ntmps8
    go_wp2
    go_ret
    exact ⟨rfl, rfl⟩
section
variable {w : World} {c g : Nat} {l : List Int} {now : Int} {fl : Bool}
theorem true_any (h : CAt w 42 c g l now fl) : Calls Try.prog 13 #[.pointer (some ⟨c, 0, none⟩)] w fun e w' => e = .returned (.int .i64 now) ∧ w = w' := by
  have c1 := h.c1
  go_enter Try.func13, Try.ntmps13
  go_wp2
  go_ret
  exact ⟨rfl, rfl⟩
theorem kept_any (h : CAt w 42 c g l now fl) : Calls Try.prog 14 #[.pointer (some ⟨c, 0, none⟩)] w fun e w' => e = .returned (.bool (!fl)) ∧ w = w' := by
  have c2 := h.c2
  go_enter Try.func14, Try.ntmps14
  go_wp2
  go_ret
  exact ⟨rfl, rfl⟩
/-- What a clock shows. -/
def sh (l : List Int) (node : Int) : Int := if 0 ≤ node ∧ node < l.length then l.getD node.toNat 0 / 8 else 0
set_option maxHeartbeats 1000000 in
theorem show_any (h : CAt w 42 c g l now fl) (node : Int) : Calls Try.prog 15 #[.pointer (some ⟨c, 0, none⟩), .int .i64 node] w fun e w' => e = .returned (.int .i64 (sh l node)) ∧ w = w' := by
  have c0 := h.c0
  have hs : ∀ x, sh l node = x → Hid (sh l node = x) := fun _ e => e
  by_cases hin : 0 ≤ node ∧ node < l.length
  · have HS := hs _ (if_pos hin)
    obtain ⟨h1, h2⟩ := hin
    have cg := h.cg node.toNat (by omega)
    generalize l.getD node.toNat 0 = x at *
    generalize l.length = n at *
    clear hs
    go_enter Try.func15, Try.ntmps15
    go_wp2
    go_ret
    exact ⟨by rw [HS.out]; rfl, rfl⟩
  · have HS := hs _ (if_neg hin)
    generalize l.length = n at *
    clear hs
    have hor : node < 0 ∨ (0 ≤ node ∧ (n : Int) ≤ node) := by omega
    rcases hor with h1 | ⟨h1, h2⟩
    all_goals
      go_enter Try.func15, Try.ntmps15
      go_wp2
      go_ret
      exact ⟨by rw [HS.out]; rfl, rfl⟩
set_option maxHeartbeats 1000000 in
theorem rshow_any (h : CAt w 36 c g l now fl) (hp : ∀ i, 0 ≤ l.getD i 0 ∧ l.getD i 0 ≤ 17592186044416) (node : Int) : Calls Try.prog 16 #[.pointer (some ⟨c, 0, none⟩), .int .i64 node] w fun e w' => e = .returned (.int .i64 (sh l node)) ∧ w = w' := by
  have c0 := h.c0
  have hs : ∀ x, sh l node = x → Hid (sh l node = x) := fun _ e => e
  by_cases hin : 0 ≤ node ∧ node < l.length
  · have HS := hs _ (if_pos hin)
    obtain ⟨h1, h2⟩ := hin
    have cg := h.cg node.toNat (by omega)
    obtain ⟨hx, hx2⟩ := hp node.toNat
    clear hp
    generalize l.getD node.toNat 0 = x at *
    generalize l.length = n at *
    clear hs
    go_enter Try.func16, Try.ntmps16
    go_wp2
    go_ret
    exact ⟨by rw [HS.out]; rfl, rfl⟩
  · have HS := hs _ (if_neg hin)
    clear hp
    generalize l.length = n at *
    clear hs
    have hor : node < 0 ∨ (0 ≤ node ∧ (n : Int) ≤ node) := by omega
    rcases hor with h1 | ⟨h1, h2⟩
    all_goals
      go_enter Try.func16, Try.ntmps16
      go_wp2
      go_ret
      exact ⟨by rw [HS.out]; rfl, rfl⟩
end
/-- The first 12 skews. -/
theorem few_any (A : Option Addr) (n cap : Nat) (w : World) (hn : n ≤ cap) (hmax : cap ≤ maxLen) : Calls Try.prog 11 #[.slice A n cap] w fun e w' => e = .returned (.slice A (min n 12) cap) ∧ w = w' := by
  unfold maxLen at hmax
  by_cases h : 12 < n
  · have e : min n 12 = 12 := by omega
    rw [e]
    cases A
    all_goals
      go_enter Try.func11, Try.ntmps11
      go_wp2
      go_ret
      exact ⟨rfl, rfl⟩
  · have e : min n 12 = n := by omega
    rw [e]
    go_enter Try.func11, Try.ntmps11
    go_wp2
    go_ret
    exact ⟨rfl, rfl⟩
end Go.Proofs.Yteodeemghhbfpaa
