/-
  WALKS over the bits of a map: place, Used, Take, Give.
-/
import Derived.Test.YtabccjmkgokglaaBase
namespace Go.Proofs.Ytabccjmkgokglaa
open Go.RowKit
set_option maxHeartbeats 400000 in
theorem place_yes (n : Int) (w : World) (h1 : 1 ≤ n) (h2 : n ≤ 128) :
    Calls Try.prog 26 #[.int .i64 n] w fun e w' => e = .returned (.tuple #[.int .i64 ((n - 1) / 8), .int .u8 (2 ^ ((n-1) % 8).toNat), .bool true]) ∧ Below w.heap.size w w' := by
  have e1 : IntKind.i64.wrap (n - 1) = n - 1 := IntWalk.i64_in _ (by omega)
  have e2 := i64_and7 (n - 1) (by omega) (by omega)
  have e3 : 0 ≤ (n - 1) % 8 := by omega
  have e4 := shl1_u8 ((n - 1) % 8) (by omega) (by omega)
  have e5 := pow8 ((n-1) % 8).toNat (by omega)
  go_enter Try.func26, Try.ntmps26
  go_wp2
  go_quiet (fail)
  go_wp2
  go_ret3
  exact ⟨by simp, below_drewN (Below.refl _ _) _⟩
theorem place_no (n : Int) (w : World) (h : n < 1 ∨ 128 < n) :
    Calls Try.prog 26 #[.int .i64 n] w fun e w' => e = .returned (.tuple #[.int .i64 0, .int .u8 0, .bool false]) ∧ Below w.heap.size w w' := by
  rcases h with h | h
  all_goals
    go_enter Try.func26, Try.ntmps26
    go_wp2
    go_ret3
    exact ⟨rfl, Below.refl _ _⟩
def mcells (m : List Nat) : Array Value := (m.map (fun x : Nat => Value.int .u8 (x : Int))).toArray
abbrev mval (m : List Nat) : Value := .agg (mcells m)
def Ok (m : List Nat) : Prop := m.length = 16 ∧ ∀ x ∈ m, x < 256
def bit (m : List Nat) (i : Nat) : Bool := decide (m.getD (i / 8) 0 / 2 ^ (i % 8) % 2 = 1)
def usedB (m : List Nat) (n : Int) : Bool := decide (1 ≤ n ∧ n ≤ 128) && bit m (n - 1).toNat
theorem mcells_get (m : List Nat) (i : Nat) (h : i < m.length) : (mcells m)[i]? = some (.int .u8 (m.getD i 0 : Int)) := by
  simp [mcells, h]
theorem Ok.lt {m : List Nat} (hm : Ok m) (i : Nat) : m.getD i 0 < 256 := by
  by_cases h : i < m.length
  · rw [List.getD_eq_getElem?_getD, List.getElem?_eq_getElem h]; exact hm.2 _ (List.getElem_mem h)
  · rw [List.getD_eq_getElem?_getD, List.getElem?_eq_none (by omega)]; simp
set_option maxHeartbeats 400000 in
theorem used_yes (m : List Nat) (hm : Ok m) (n : Int) (w : World) (h1 : 1 ≤ n) (h2 : n ≤ 128) :
    Calls Try.prog 12 #[mval m, .int .i64 n] w fun e w' => e = .returned (.bool (bit m (n - 1).toNat)) ∧ Below w.heap.size w w' := by
  have hc := mcells_get m ((n-1)/8).toNat (by have := hm.1; omega)
  unfold mval
  generalize mcells m = cs at *
  go_enter Try.func12, Try.ntmps12
  go_wp2_with (go_at_call 26; refine (place_yes _ _ (by assumption) (by assumption)).mono ?_; rintro e w' ⟨rfl, hb⟩; have c1 := blk_cell (blk_new hb) hc)
  go_ret
  refine ⟨ret_bool ?_, below_new hb⟩
  have e1 : ((n-1)/8).toNat = (n-1).toNat / 8 := by omega
  have e2 : ((n-1)%8).toNat = (n-1).toNat % 8 := by omega
  rw [e1, e2, ← List.getD_eq_getElem?_getD]
  exact and_bit _ (hm.lt _) _ (by omega)
theorem used_no (m : List Nat) (n : Int) (w : World) (h : n < 1 ∨ 128 < n) :
    Calls Try.prog 12 #[mval m, .int .i64 n] w fun e w' => e = .returned (.bool false) ∧ Below w.heap.size w w' := by
  unfold mval
  generalize mcells m = cs at *
  go_enter Try.func12, Try.ntmps12
  go_wp2_with (go_at_call 26; refine (place_no _ _ (by assumption)).mono ?_; rintro e w' ⟨rfl, hb⟩)
  go_ret
  exact ⟨rfl, below_new hb⟩
theorem size_mcells (m : List Nat) : (mcells m).size = m.length := by simp [mcells]
theorem one_mcells (m : List Nat) : (mcells m).all (·.oneCell') = true := by
  simp [mcells, Value.oneCell']
theorem mcells_set (m : List Nat) (i x : Nat) : (mcells m).setIfInBounds i (.int .u8 (x : Int)) = mcells (m.set i x) := by
  apply Array.ext'
  simp [mcells]
theorem size23 : (Try.prog.info? 23).map (·.size) = some 16 := by kernel_rfl
theorem info23 {m : List Nat} (hm : m.length = 16) : (Try.prog.info? 23).map (·.size) = some (mcells m).size := by rw [size_mcells, hm]; exact size23
theorem wpl_load23 {ops : Array Oper} {rest : List Oper} {o : Oper} {a : Act} {w : World} {Q : Exit → Act → World → Prop} {m : List Nat} {g : Nat} {fr : Nat × Nat}
    (hw : Region.wanted o (yielded ops a.tmps) = true) (x : Operand) (ho : o.op = .load 23 x) (hx : a.eval x = .pointer (some ⟨g, 0, none⟩))
    (hg : w.heap[g]? = some (.cells (mcells m) 23 fr)) (hm : m.length = 16) (h : wpList Try.prog ops Q rest (a.put o.dst (.agg (mcells m))) w) : wpList Try.prog ops Q (o :: rest) a w :=
  wpl_on hw fun _ hK => wp_load_row 23 x ho g hx 23 (mcells m) fr _ hg Try.underlying23 rfl (info23 hm) (hK _ _ h)
theorem wpl_store23 {ops : Array Oper} {rest : List Oper} {o : Oper} {a : Act} {w : World} {Q : Exit → Act → World → Prop} {m : List Nat} {g : Nat} {old : Array Value}
    (hw : Region.wanted o (yielded ops a.tmps) = true) (x y : Operand) (ho : o.op = .store 23 x y) (hx : a.eval x = .pointer (some ⟨g, 0, none⟩)) (hy : a.eval y = .agg (mcells m))
    (hg : w.heap[g]? = some (.cells old 23 (0, 0))) (hold : old.size = 16) (hm : m.length = 16) (h : wpList Try.prog ops Q rest (a.put o.dst undef) (w.setRow g (mcells m))) : wpList Try.prog ops Q (o :: rest) a w :=
  wpl_on hw fun _ hK => wp_store_row 23 x y ho g (mcells m) hx hy 23 old hg (info23 hm) (by rw [hold, size_mcells, hm]) (one_mcells m) (hK _ _ h)
def zeros : List Nat := List.replicate 16 0
def takeL (m : List Nat) (n : Int) : List Nat := if 1 ≤ n ∧ n ≤ 128 then m.set ((n-1).toNat / 8) (m.getD ((n-1).toNat / 8) 0 ||| 2 ^ ((n-1).toNat % 8)) else m
def giveL (m : List Nat) (n : Int) : List Nat := if 1 ≤ n ∧ n ≤ 128 then m.set ((n-1).toNat / 8) (m.getD ((n-1).toNat / 8) 0 &&& (255 - 2 ^ ((n-1).toNat % 8))) else m
set_option maxHeartbeats 1000000 in
theorem take_no (m : List Nat) (hm : m.length = 16) (n : Int) (w : World) (h : n < 1 ∨ 128 < n) :
    Calls Try.prog 18 #[mval m, .int .i64 n] w fun e w' => e = .returned (mval m) ∧ Below w.heap.size w w' := by
  go_enter Try.func18, Try.ntmps18
  go_wp2_with (first
    | (go_at_call 26; refine (place_no _ _ (by assumption)).mono ?_; rintro e w' ⟨rfl, hb⟩; have b1 := blk_new2 hb; have b2 := blk_new2' hb)
    | (refine wpl_load23 rfl _ rfl rfl (by assumption) (by assumption) ?_)
    | (refine wpl_store23 rfl _ _ rfl rfl rfl (by assumption) rfl (by assumption) ?_))
  refine bodyPost_ret (v := .agg (mcells m)) (results_cell_row rfl _ _ (w.heap.size + 1) 23 (mcells m) (0,0) _ rfl (setRow_heap _ _ _ _ _ _ b2) Try.underlying23 rfl (info23 hm)) rfl ⟨rfl, ?_⟩
  exact below_setRow' (below_new2 hb) (by omega) _
set_option maxHeartbeats 1000000 in
theorem take_yes (m : List Nat) (hm : Ok m) (n : Int) (w : World) (h1 : 1 ≤ n) (h2 : n ≤ 128) :
    Calls Try.prog 18 #[mval m, .int .i64 n] w fun e w' => e = .returned (mval (takeL m n)) ∧ Below w.heap.size w w' := by
  have hl := hm.1
  have hlt : ((n-1)/8).toNat < m.length := by omega
  have hc := mcells_get m ((n-1)/8).toNat hlt
  have hx := hm.lt ((n-1)/8).toNat
  obtain ⟨t, ht⟩ : ∃ t, t = takeL m n := ⟨_, rfl⟩
  rw [← ht]
  have e1 : ((n-1)/8).toNat = (n-1).toNat / 8 := by omega
  have e2 : ((n-1)%8).toNat = (n-1).toNat % 8 := by omega
  unfold takeL at ht
  rw [if_pos ⟨h1, h2⟩, ← e1, ← e2] at ht
  generalize m.getD ((n-1)/8).toNat 0 = x at *
  have hor := u8_or' x hx ((n-1)%8).toNat (by omega)
  have hl2 : t.length = 16 := by rw [ht]; simp [hl]
  have hst : (mcells m).setIfInBounds ((n-1)/8).toNat (.int .u8 (bits BinOp.or IntKind.u8 (x : Int) (2 ^ ((n-1)%8).toNat))) = mcells t := by
    rw [hor, mcells_set, ht]
  have HC := Lib.hid hc
  have HS := Lib.hid hst
  clear hc hst hor ht e1 e2
  go_enter Try.func18, Try.ntmps18
  go_wp2_with (first
    | (go_at_call 26; refine (place_yes _ _ (by assumption) (by assumption)).mono ?_; rintro e w' ⟨rfl, hb⟩
       have b1 := blk_new2 hb; have b2 := blk_new2' hb; have c1 := blk_cell b1 HC.out; have f1 := frozen_of_row _ _ ((n-1)/8).toNat _ _ b1
       have s1 := heap_setCell_same w' w.heap.size ((n-1)/8).toNat _ _ (.int .u8 (bits BinOp.or IntKind.u8 (x : Int) (2 ^ ((n-1)%8).toNat))) b1; rw [HS.out] at s1
       have s2 := (heap_setCell_other w' ⟨w.heap.size, ((n-1)/8).toNat, none⟩ (w.heap.size + 1) (.int .u8 (bits BinOp.or IntKind.u8 (x : Int) (2 ^ ((n-1)%8).toNat))) (by simp)).trans b2)
    | (refine wpl_load23 (m := t) rfl _ rfl rfl (by assumption) (by assumption) ?_)
    | (refine wpl_store23 (m := t) rfl _ _ rfl rfl rfl (by assumption) rfl (by assumption) ?_))
  refine bodyPost_ret (v := .agg (mcells t)) (results_cell_row rfl _ _ (w.heap.size + 1) 23 (mcells t) (0,0) _ rfl (setRow_heap _ _ _ _ _ _ s2) Try.underlying23 rfl (info23 hl2)) rfl ⟨rfl, ?_⟩
  exact below_setRow' ((below_new2 hb).setCell (Nat.le_refl _) _) (by omega) _
set_option maxHeartbeats 1000000 in
theorem give_no (m : List Nat) (hm : m.length = 16) (n : Int) (w : World) (h : n < 1 ∨ 128 < n) :
    Calls Try.prog 19 #[mval m, .int .i64 n] w fun e w' => e = .returned (mval m) ∧ Below w.heap.size w w' := by
  go_enter Try.func19, Try.ntmps19
  go_wp2_with (first
    | (go_at_call 26; refine (place_no _ _ (by assumption)).mono ?_; rintro e w' ⟨rfl, hb⟩; have b1 := blk_new2 hb; have b2 := blk_new2' hb)
    | (refine wpl_load23 rfl _ rfl rfl (by assumption) (by assumption) ?_)
    | (refine wpl_store23 rfl _ _ rfl rfl rfl (by assumption) rfl (by assumption) ?_))
  refine bodyPost_ret (v := .agg (mcells m)) (results_cell_row rfl _ _ (w.heap.size + 1) 23 (mcells m) (0,0) _ rfl (setRow_heap _ _ _ _ _ _ b2) Try.underlying23 rfl (info23 hm)) rfl ⟨rfl, ?_⟩
  exact below_setRow' (below_new2 hb) (by omega) _
set_option maxHeartbeats 1000000 in
theorem give_yes (m : List Nat) (hm : Ok m) (n : Int) (w : World) (h1 : 1 ≤ n) (h2 : n ≤ 128) :
    Calls Try.prog 19 #[mval m, .int .i64 n] w fun e w' => e = .returned (mval (giveL m n)) ∧ Below w.heap.size w w' := by
  have hl := hm.1
  have hlt : ((n-1)/8).toNat < m.length := by omega
  have hc := mcells_get m ((n-1)/8).toNat hlt
  have hx := hm.lt ((n-1)/8).toNat
  obtain ⟨t, ht⟩ : ∃ t, t = giveL m n := ⟨_, rfl⟩
  rw [← ht]
  have e1 : ((n-1)/8).toNat = (n-1).toNat / 8 := by omega
  have e2 : ((n-1)%8).toNat = (n-1).toNat % 8 := by omega
  unfold giveL at ht
  rw [if_pos ⟨h1, h2⟩, ← e1, ← e2] at ht
  generalize m.getD ((n-1)/8).toNat 0 = x at *
  have hor := u8_andNot' x hx ((n-1)%8).toNat (by omega)
  have hl2 : t.length = 16 := by rw [ht]; simp [hl]
  have hst : (mcells m).setIfInBounds ((n-1)/8).toNat (.int .u8 (bits BinOp.andNot IntKind.u8 (x : Int) (2 ^ ((n-1)%8).toNat))) = mcells t := by
    rw [hor, mcells_set, ht]
  have HC := Lib.hid hc
  have HS := Lib.hid hst
  clear hc hst hor ht e1 e2
  go_enter Try.func19, Try.ntmps19
  go_wp2_with (first
    | (go_at_call 26; refine (place_yes _ _ (by assumption) (by assumption)).mono ?_; rintro e w' ⟨rfl, hb⟩
       have b1 := blk_new2 hb; have b2 := blk_new2' hb; have c1 := blk_cell b1 HC.out; have f1 := frozen_of_row _ _ ((n-1)/8).toNat _ _ b1
       have s1 := heap_setCell_same w' w.heap.size ((n-1)/8).toNat _ _ (.int .u8 (bits BinOp.andNot IntKind.u8 (x : Int) (2 ^ ((n-1)%8).toNat))) b1; rw [HS.out] at s1
       have s2 := (heap_setCell_other w' ⟨w.heap.size, ((n-1)/8).toNat, none⟩ (w.heap.size + 1) (.int .u8 (bits BinOp.andNot IntKind.u8 (x : Int) (2 ^ ((n-1)%8).toNat))) (by simp)).trans b2)
    | (refine wpl_load23 (m := t) rfl _ rfl rfl (by assumption) (by assumption) ?_)
    | (refine wpl_store23 (m := t) rfl _ _ rfl rfl rfl (by assumption) rfl (by assumption) ?_))
  refine bodyPost_ret (v := .agg (mcells t)) (results_cell_row rfl _ _ (w.heap.size + 1) 23 (mcells t) (0,0) _ rfl (setRow_heap _ _ _ _ _ _ s2) Try.underlying23 rfl (info23 hl2)) rfl ⟨rfl, ?_⟩
  exact below_setRow' ((below_new2 hb).setCell (Nat.le_refl _) _) (by omega) _
end Go.Proofs.Ytabccjmkgokglaa
