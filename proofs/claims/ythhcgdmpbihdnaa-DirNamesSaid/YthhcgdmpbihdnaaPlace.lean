/-
  Place of a table.
-/
import Derived.Test.YthhcgdmpbihdnaaFind
namespace Go.Proofs.Ythhcgdmpbihdnaa
open Go.RowKit Go.Shelf
attribute [local go_sem] Oper.semAt_some
def isFree (f : Nat → Ent) (j : Nat) : Bool := (f j).nm.toList.isEmpty && (f j).ino == 0
def place (f : Nat → Ent) (s : ByteArray) : Int := fnd (isFree f) (hash s)
set_option maxRecDepth 100000 in
set_option maxHeartbeats 2000000 in
theorem place_in (f : Nat → Ent) (s : ByteArray) (hs : s.size ≤ 9223372036854775807) (w : World) :
    CallsIn Fence.wide 6 Try.prog 14 #[.agg (tabv f), .string s] w fun e w' => e = .returned (.int .i64 (place f s)) ∧ Below w.heap.size w w' := by
  have hH := fun W => of_in 5 s W
  have hts := tabv_size f
  have HTS := Lib.hid hts
  clear hts
  have hnm := fun i h => tabv_nm f i h
  have HNM := Lib.hid hnm
  have hin := fun i h => tabv_ino f i h
  have HIN := Lib.hid hin
  clear hnm hin
  generalize htv : tabv f = tv at *
  have HTV := Lib.hid htv
  clear htv
  have h32 : Fence.wide.fn 32 := trivial
  refine callsIn_of_wp_marks Try.func14 rfl trivial ?_ rfl
  simp only [Try.ntmps14, List.size_toArray, List.length_cons, List.length_nil, Nat.reduceAdd, Nat.reduceSub, Array.replicate_succ, Array.replicate_zero, List.push_toArray, List.append_toArray, List.nil_append, List.cons_append]
  gi_wp2_with (gi_at_call 32; refine (hH _).mono ?_; rintro e w' ⟨rfl, rfl⟩)
  have hb0 : Below w.heap.size w (((w.alloc (Obj.cells tv 26)).alloc (Obj.cells #[Value.int IntKind.i64 0] 3)).alloc (Obj.cells #[Value.string s] 9)) :=
    (((Below.refl _ w).alloc (Nat.le_refl _) _).alloc (by simp) _).alloc (by simp; omega) _
  have k1 := heap3_0 w (Obj.cells tv 26) (Obj.cells #[Value.int IntKind.i64 0] 3) (Obj.cells #[Value.string s] 9)
  have k3 := heap3_1 w (Obj.cells tv 26) (Obj.cells #[Value.int IntKind.i64 0] 3) (Obj.cells #[Value.string s] 9)
  have k4 := heap3_2 w (Obj.cells tv 26) (Obj.cells #[Value.int IntKind.i64 0] 3) (Obj.cells #[Value.string s] 9)
  have hsz : (((w.alloc (Obj.cells tv 26)).alloc (Obj.cells #[Value.int IntKind.i64 0] 3)).alloc (Obj.cells #[Value.string s] 9)).heap.size = w.heap.size + 3 := by simp
  generalize (((w.alloc (Obj.cells tv 26)).alloc (Obj.cells #[Value.int IntKind.i64 0] 3)).alloc (Obj.cells #[Value.string s] 9)) = ws at *
  refine wpIn_rangeFunc_ownF rfl (by omega) (gf := 41) (lb := #[.pointer (some ⟨w.heap.size + 1 + 1, 0, none⟩)]) rfl trivial (enters_of Try.func41 (by kernel_rfl) rfl)
    (of_stops 5 (by omega) (w.heap.size + 1 + 1) w.heap.size s hs ws (blk_lt k4) (blk_cell k4 rfl)) belowK_t (belowK_b (by omega)) (Below.refl _ _) (fun _ => rfl)
    (fun pre W => ((∀ y ∈ pre, isFree f y.val = false) ∧ W.heap[w.heap.size]? = some (.cells tv 26 (0, 0)) ∧ W.heap[w.heap.size + 1]? = some (.cells #[.int .i64 0] 3 (0, 0))) ∧ Below w.heap.size w W)
    (fun c pre W => (c = .ret ∧ ∃ (q : List (Fin 16)) (x : Fin 16), pre = q ++ [x] ∧ (∀ y ∈ q, isFree f y.val = false) ∧ isFree f x.val = true ∧ W.heap[w.heap.size + 1]? = some (.cells #[.int .i64 (x.val : Nat)] 3 (0, 0))) ∧ Below w.heap.size w W)
    (OwnFrom.and (Own.from (fun s A B row hs hg hr => ⟨hs.1, blk_kept hs.2.1 hg hr, blk_kept hs.2.2 hg hr⟩) _) (ownFrom_below (Nat.le_refl _) (by omega)))
    (fun c => OwnFrom.and (Own.from (fun s A B row hs hg hr => by obtain ⟨h1, q, x, h2, h3, h4, h5⟩ := hs; exact ⟨h1, q, x, h2, h3, h4, blk_kept h5 hg hr⟩) _) (ownFrom_below (Nat.le_refl _) (by omega)))
    ⟨⟨fun y h => absurd h (by simp), k1, k3⟩, hb0⟩
    (fun x => { tmps := #[.agg tv, .string s, .pointer (some ⟨w.heap.size, 0, none⟩), undef, .pointer (some ⟨w.heap.size + 1, 0, none⟩), .int .i64 (x.val : Nat), .string s, .func (.func 41) #[] #[.pointer (some ⟨w.heap.size + 1 + 1, 0, none⟩)], .int .i64 (x.val : Nat), undef, undef, undef, undef, undef, undef], defers := [] }) ?assign ?body ?done ?stop
  case assign =>
    intro l x W K hK
    gi_wp2
    exact hK
  case body =>
    rintro l pre x W ⟨⟨hp, b1, b3⟩, hB⟩ _
    have c1 : W.cell? ⟨w.heap.size, x.val * 2, none⟩ = some (.string (f x.val).nm) := blk_cell b1 (HNM.out x.val x.isLt)
    have c2 : W.cell? ⟨w.heap.size, x.val * 2 + 1, none⟩ = some (.int .i64 (f x.val).ino) := blk_cell b1 (HIN.out x.val x.isLt)
    have c3 : W.cell? ⟨w.heap.size + 1, 0, none⟩ = some (.int .i64 0) := blk_cell b3 rfl
    have f3 : W.frozen? ⟨w.heap.size + 1, 0, none⟩ = false := frozen_of_row _ _ _ _ _ b3
    have hx : ((x.val : Nat) : Int) < 16 := by have := x.isLt; omega
    have hP : isFree f x.val = ((f x.val).nm.toList.isEmpty && (f x.val).ino == 0) := rfl
    generalize (f x.val).nm = t at *
    generalize (f x.val).ino = n at *
    have HP := Lib.hid hP
    clear hP
    gi_wp2
    · have ht : t.toList = [] := by assumption
      have hn : n = 0 := by assumption
      have hT : isFree f x.val = true := by rw [HP.out, ht, hn]; rfl
      exact ⟨(KeepsOthers.setCell _ _ _), ⟨rfl, pre, x, rfl, hp, hT, setRow_cell _ _ _ _ _ 0 b3⟩, hB.setCell (p := ⟨w.heap.size + 1, 0, none⟩) (by simp) _⟩
    · have hn : ¬ n = 0 := by assumption
      have hF : isFree f x.val = false := by rw [HP.out, show (n == 0) = false by simpa using hn, Bool.and_false]
      exact ⟨KeepsOthers.refl _, Below.refl _ _, ⟨fun y hy => (List.mem_append.1 hy).elim (hp y) (fun e => by simp at e; subst e; exact hF), b1, b3⟩, hB⟩
    · have ht : ¬ t.toList = [] := by assumption
      have hF : isFree f x.val = false := by rw [HP.out, show t.toList.isEmpty = false by simpa using ht, Bool.false_and]
      exact ⟨KeepsOthers.refl _, Below.refl _ _, ⟨fun y hy => (List.mem_append.1 hy).elim (hp y) (fun e => by simp at e; subst e; exact hF), b1, b3⟩, hB⟩
  case done =>
    rintro D ys W hD rfl ⟨⟨hne, b1, b3⟩, hB⟩ hK
    have c3 : W.cell? ⟨w.heap.size + 1, 0, none⟩ = some (.int .i64 0) := blk_cell b3 rfl
    have f3 : W.frozen? ⟨w.heap.size + 1, 0, none⟩ = false := frozen_of_row _ _ _ _ _ b3
    have hR : place f s = -1 := fnd_none _ _ fun i hi => hne (plf (hash s) i) (by unfold upto; exact List.mem_map.2 ⟨i, List.mem_range.2 hi, rfl⟩)
    have HR := Lib.hid hR
    clear hR
    gi_wp2
    have hK' := (KeepsOthers.setCell W ⟨w.heap.size + 1, 0, none⟩ (.int .i64 (-1))).same D _ hK rfl
    refine ⟨by simp, .inl ⟨_, _, rfl, run_takeDeferred hK', ?_⟩⟩
    have hc5 := cell_kept (World.cell?_setCell_same' W ⟨w.heap.size + 1, 0, none⟩ (.int .i64 (-1)) (by rw [c3]; rfl)) (grownBy_putObj' _ D (.deferred none)) (fun r e => by cases e; exact ⟨_, hK', rfl⟩)
    refine ⟨.int .i64 (-1), ?_, by rw [HR.out], (hB.setCell (p := ⟨w.heap.size + 1, 0, none⟩) (by simp) _).trans (belowK_b (w := w) (Nat.le_refl _) _ D _ _ (by omega) hK' rfl rfl)⟩
    simp [results, Try.f14, go_sem, hc5]
  case stop =>
    rintro D c pre W hD hpre ⟨⟨rfl, q, x, h2, h3, h4, h5⟩, hB⟩ hK
    obtain ⟨k, hk, hpk⟩ := hpre
    have c5 : W.cell? ⟨w.heap.size + 1, 0, none⟩ = some (.int .i64 (x.val : Nat)) := blk_cell h5 rfl
    have hR : place f s = (x.val : Nat) := by
      rw [h2] at hpk
      cases k with
      | zero => exact absurd hpk (by simp [upto])
      | succ k =>
        rw [upto_succ] at hpk
        obtain ⟨e1, e2⟩ := List.append_inj' hpk rfl
        injection e2 with e2
        subst e1 e2
        exact fnd_hit _ _ k (by omega) (fun i hi => h3 (plf (hash s) i) (by unfold upto; exact List.mem_map.2 ⟨i, List.mem_range.2 hi, rfl⟩)) h4
    have HR := Lib.hid hR
    clear hR h2 hpk
    gi_wp2
    refine ⟨by simp, .inl ⟨_, _, rfl, run_takeDeferred hK, ?_⟩⟩
    have hc5 := cell_kept c5 (grownBy_putObj' _ D (.deferred none)) (fun r e => by cases e; exact ⟨_, hK, rfl⟩)
    refine ⟨.int .i64 (x.val : Nat), ?_, by rw [HR.out], hB.trans (belowK_b (w := w) (Nat.le_refl _) W D _ _ (by omega) hK rfl rfl)⟩
    simp [results, Try.f14, go_sem, hc5]
theorem place_any (f : Nat → Ent) (s : ByteArray) (hs : s.size ≤ 9223372036854775807) (w : World) :
    Calls Try.prog 14 #[.agg (tabv f), .string s] w fun e w' => e = .returned (.int .i64 (place f s)) ∧ Below w.heap.size w w' := callsIn_wide.1 (place_in f s hs w)
end Go.Proofs.Ythhcgdmpbihdnaa
