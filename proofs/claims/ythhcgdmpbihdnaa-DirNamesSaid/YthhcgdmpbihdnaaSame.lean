/-
  entries; Same of the reference, where the entries are the same.
-/
import Derived.Test.YthhcgdmpbihdnaaMay
namespace Go.Proofs.Ythhcgdmpbihdnaa
open Go.RowKit
theorem below_drewN {B : Nat} {a w : World} (h : Below B a w) (n : Nat) : Below B a (w.drewN n) := ⟨h.os, h.tape, h.output, h.size, h.block⟩
/-! ### Loads and stores of a whole table: the operation written out, so that another one does not fit at once -/
section
variable {ops : Array Oper} {rest : List Oper} {a : Act} {w : World} {Q : Exit → Act → World → Prop}
theorem ld26 {d : Option Tmp} {t : TypeId} {ps : String} {af : Array Edge} {x : Operand} {f : Nat → Ent} {g : Nat} {fr : Nat × Nat} (hx : a.eval x = .pointer (some ⟨g, 0, none⟩))
    (hg : w.heap[g]? = some (.cells (tabv f) 26 fr)) (h : wpList Try.prog ops Q rest (a.put d (.agg (tabv f))) w) : wpList Try.prog ops Q ({ dst := d, op := .load 26 x, type := t, pos := ps, after := af, guard := none } :: rest) a w :=
  wpl_load26 rfl x rfl hx hg h
theorem st26 {d : Option Tmp} {t : TypeId} {ps : String} {af : Array Edge} {x y : Operand} {f : Nat → Ent} {g : Nat} {old : Array Value} (hx : a.eval x = .pointer (some ⟨g, 0, none⟩)) (hy : a.eval y = .agg (tabv f))
    (hg : w.heap[g]? = some (.cells old 26 (0, 0))) (hold : old.size = 32) (h : wpList Try.prog ops Q rest (a.put d undef) (w.setRow g (tabv f))) : wpList Try.prog ops Q ({ dst := d, op := .store 26 x y, type := t, pos := ps, after := af, guard := none } :: rest) a w :=
  wpl_store26 rfl x y rfl hx hy hg hold h
theorem st26n {d : Option Tmp} {t : TypeId} {ps : String} {af : Array Edge} {x y : Operand} {f : Nat → Ent} {old : Array Value} (hx : a.eval x = .pointer (some ⟨w.heap.size, 0, none⟩)) (hy : a.eval y = .agg (tabv f))
    (hold : old.size = 32) (h : wpList Try.prog ops Q rest (a.put d undef) (w.alloc (.cells (tabv f) 26))) : wpList Try.prog ops Q ({ dst := d, op := .store 26 x y, type := t, pos := ps, after := af, guard := none } :: rest) a (w.alloc (.cells old 26)) :=
  wpl_store26_new rfl x y rfl hx hy hold h
end
set_option maxRecDepth 100000 in
set_option maxHeartbeats 4000000 in
theorem entries_any (f : Nat → Ent) (w : World) : Calls Try.prog 19 #[.agg (tabv f)] w fun e w' => ∃ v, e = .returned v ∧ w'.ownsRow w.heap.size 24 2 v 16 (ecs f 16) ∧ Below w.heap.size w w' := by
  have hnm := tabv_nm f
  have hin := tabv_ino f
  have HNM := Lib.hid hnm
  have HIN := Lib.hid hin
  have k1 : (w.alloc (.cells (tabv f) 26)).heap[w.heap.size]? = some (.cells (tabv f) 26 (0, 0)) := heap_alloc_new _ _
  have hb0 : Below w.heap.size w (w.alloc (.cells (tabv f) 26)) := (Below.refl _ w).alloc (Nat.le_refl _) _
  have hsz : (w.alloc (.cells (tabv f) 26)).heap.size = w.heap.size + 1 := by simp
  clear hnm hin
  generalize tabv f = tv at *
  go_enter Try.func19, Try.ntmps19
  go_wp2
  have HB0 := Lib.hid hb0
  clear hb0
  generalize hw1 : w.alloc (.cells tv 26) = w1 at *
  clear hw1
  go_loopw [3, 4] (fun y i wr => ∃ k : Nat, k ≤ 16 ∧ i = .int .i64 k ∧ wr.ownsRow (w.heap.size + 1) 24 2 y k (ecs f k) ∧ Below w1.heap.size w1 wr) (fun _ i _ => 16 - (intOf i).toNat)
  case atStart => exact ⟨0, Nat.zero_le _, rfl, World.ownsRow_nil _ _ _ _, Below.refl _ _⟩
  case round =>
    obtain ⟨k, hk, rfl, hown, hbel⟩ := hrel
    have hb := blk_below hbel (blk_lt k1) k1
    have hsz2 := hbel.size
    by_cases hlt : k < 16
    · have hd : ((k : Nat) : Int) < 16 := by omega
      have c0 := blk_cell hb (HNM.out k hlt)
      have c1 := blk_cell hb (HIN.out k hlt)
      have hst : ecs f (k + 1) = ecs f k ++ [.string (f k).nm, .int .i64 (f k).ino] := rfl
      have HST := Lib.hid hst
      have HOWN := Lib.hid hown
      have HBEL := Lib.hid hbel
      have HV := Lib.hid fun b hb => (hown.lt b hb).1
      clear hst hown hbel
      generalize (f k).nm = s at *
      generalize (f k).ino = n at *
      go_wp2_with (at_builtin; refine wpl_app2 rfl _ _ rfl rfl HOWN.out rfl rfl rfl rfl (by omega) (by omega) ?_; intro v' w' hown' hgr'; have HO1 := Lib.hid hown'; have HG := Lib.hid hgr'; clear hown' hgr')
      exact ⟨⟨k + 1, by omega, by go_num, by rw [HST.out]; exact HO1.out, HBEL.out.grown HG.out (by omega) (fun b hb => by have := HV.out b hb; omega)⟩, by simp [intOf]; omega⟩
    · obtain rfl : k = 16 := by omega
      have HOWN := Lib.hid hown
      have HBEL := Lib.hid hbel
      clear hown hbel
      go_wp2
      go_ret
      exact ⟨_, rfl, own_mono HOWN.out (by omega), HB0.out.trans (HBEL.out.mono (by omega))⟩
set_option maxRecDepth 100000 in
set_option maxHeartbeats 4000000 in
theorem same_yes {w : World} {v v' : Value} {f : Nat → Ent} (h1 : Rw w v f 16) (h2 : Rw w v' f 16) : Calls Try.prog 18 #[v, v'] w fun e w' => e = .returned (.bool true) ∧ Below w.heap.size w w' := by
  obtain ⟨g1, cap1, cur1, rfl, hg1, ha1, ha2, ha3, ha4⟩ := h1
  obtain ⟨g2, cap2, cur2, rfl, hg2, hb1, hb2, hb3, hb4⟩ := h2
  have HA := Lib.hid (rw_get ha4)
  have HB := Lib.hid (rw_get hb4)
  clear ha2 ha3 ha4 hb2 hb3 hb4
  go_enter Try.func18, Try.ntmps18
  go_wp2
  go_loopw [5] (fun i wr => ∃ k : Nat, k ≤ 16 ∧ i = .int .i64 k ∧ Below w.heap.size w wr) (fun i _ => 16 - (intOf i).toNat)
  case atStart => exact ⟨0, Nat.zero_le _, rfl, Below.refl _ _⟩
  case round =>
    obtain ⟨k, hk, rfl, hbel⟩ := hrel
    have b1 := blk_below hbel (blk_lt hg1) hg1
    have b2 := blk_below hbel (blk_lt hg2) hg2
    have HBEL := Lib.hid hbel
    clear hbel
    by_cases hlt : k < 16
    · have hd : ((k : Nat) : Int) < 16 := by omega
      have c0 := blk_cell b1 ((HA.out (k * 2) (by omega)).trans (ecs_nm f 16 k hlt))
      have c1 := blk_cell b1 ((HA.out (k * 2 + 1) (by omega)).trans (ecs_ino f 16 k hlt))
      have d0 := blk_cell b2 ((HB.out (k * 2) (by omega)).trans (ecs_nm f 16 k hlt))
      have d1 := blk_cell b2 ((HB.out (k * 2 + 1) (by omega)).trans (ecs_ino f 16 k hlt))
      generalize (f k).nm = s at *
      generalize (f k).ino = n at *
      go_wp2
      go_quiet (fail)
      go_wp2
      exact ⟨⟨k + 1, by omega, by go_num, below_drewN HBEL.out _⟩, by simp [intOf]; omega⟩
    · obtain rfl : k = 16 := by omega
      go_wp2
      go_ret
      exact ⟨rfl, HBEL.out⟩
end Go.Proofs.Ythhcgdmpbihdnaa
