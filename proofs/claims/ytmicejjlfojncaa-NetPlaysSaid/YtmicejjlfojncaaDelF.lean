/-
  slices.DeleteFunc over packets, with the closure of goes: the plain part.
-/
import Derived.Test.YtmicejjlfojncaaIdxF
import Derived.Test.YtmicejjlfojncaaDrop
namespace Go.Proofs.Ytmicejjlfojncaa
open Go.RowKit Go.Deep
theorem flat_take : ∀ (ps : List Pk) (i : Nat), flat (ps.take i) = (flat ps).take (i * 2)
  | [], i => by simp [flat]
  | p :: ps, 0 => by simp [flat]
  | p :: ps, i + 1 => by
    rw [List.take_succ_cons, flat, flat, flat_take ps i, show (i + 1) * 2 = i * 2 + 1 + 1 by omega, List.take_succ_cons, List.take_succ_cons]
/-- 'clear' of some packets. -/
theorem run_clear_many (w : World) (b o n c : Nat) (h0 : 0 < n) (hc : ∀ j, j < n * 2 → (w.cell? ⟨b, o + j, none⟩).isSome = true) (hf : ∀ j, j < n * 2 → w.frozen? ⟨b, o + j, none⟩ = false) :
    ∃ zs : List Value, zs.length = n * 2 ∧ ∀ ty, (Builtin.clear_ #[44] ty #[.slice (some ⟨b, o, none⟩) n c]).run Try.prog w = .ok (.tuple #[]) (w.setCells b o zs) := by
  have hz : (Value.agg #[.int .i64 0, .slice none 0 0]).cells = #[.int .i64 0, .slice none 0 0] := by kernel_rfl
  have hlen : (Builtin.zeroCells (Value.agg #[.int .i64 0, .slice none 0 0]).cells n).toList.length = n * 2 := by rw [hz]; simp [Builtin.zeroCells]
  have hone : ∀ v ∈ (Builtin.zeroCells (Value.agg #[.int .i64 0, .slice none 0 0]).cells n).toList, v.oneCell' = true := by
    rw [hz]
    intro v hv
    simp [Builtin.zeroCells] at hv
    obtain ⟨i, _, rfl⟩ := hv
    have : i % 2 = 0 ∨ i % 2 = 1 := by omega
    rcases this with h | h <;> rw [h] <;> rfl
  have hst := run_storeCells_cells (P := Try.prog) b o (Builtin.zeroCells (Value.agg #[.int .i64 0, .slice none 0 0]).cells n).toList 0 w (by rw [hlen]; simpa using hc) (by rw [hlen]; simpa using hf) hone
  simp only [Nat.add_zero] at hst
  refine ⟨_, hlen, fun ty => ?_⟩
  obtain ⟨m, rfl⟩ : ∃ m, n = m + 1 := ⟨n - 1, by omega⟩
  simp [Builtin.clear_, run_underlying Try.underlying44, hst]
/-- Those that do not go to a node. -/
def lef (node : Int) (ps : List Pk) (j : Nat) : List Pk := (ps.take j).filter fun p => p.to != node
theorem lef_succ (node : Int) (ps : List Pk) (j : Nat) (p : Pk) (h : ps[j]? = some p) : lef node ps (j + 1) = lef node ps j ++ if p.to = node then [] else [p] := by
  unfold lef
  rw [List.take_add_one, h, List.filter_append]
  congr 1
  by_cases e : p.to = node <;> simp [e]
theorem lef_all (node : Int) (ps : List Pk) (i : Nat) (h : ∀ j q, j < i → ps[j]? = some q → q.to ≠ node) : lef node ps i = ps.take i := by
  unfold lef
  refine List.filter_eq_self.2 fun p hp => ?_
  obtain ⟨j, hj⟩ := List.getElem?_of_mem hp
  rw [List.getElem?_take] at hj
  split at hj
  · rename_i hlt
    simpa using h j p hlt hj
  · cases hj
theorem lef_len (node : Int) (ps : List Pk) (j : Nat) : (lef node ps j).length ≤ j := by
  unfold lef
  exact Nat.le_trans (List.length_filter_le _ _) (by simp; omega)
/-- What the loop keeps: the first m of the n packets have been looked at. -/
def Del (w : World) (g n cap : Nat) (node : Int) (ps : List Pk) (m : Nat) (wr : World) : Prop := w.grownBy wr (some g) ∧
  ∃ cr, wr.heap[g]? = some (.cells cr 49 (0, 0)) ∧ cr.size = cap * 2 ∧ cr.toList.take ((lef node ps m).length * 2) = flat (lef node ps m) ∧ ∀ t, m * 2 ≤ t → t < n * 2 → cr[t]? = (flat ps)[t]?
theorem Del.below {w wr w2 : World} {g n cap m : Nat} {node : Int} {ps : List Pk} (h : Del w g n cap node ps m wr) (hb : Below wr.heap.size wr w2) : Del w g n cap node ps m w2 := by
  obtain ⟨h1, cr, h2, h3⟩ := h
  exact ⟨only_trans h1 ⟨hb.os, hb.tape, hb.output, hb.size, fun k hk _ => hb.block k hk⟩, cr, blk_below hb (blk_lt h2) h2, h3⟩
theorem Del.drop {w wr : World} {g n cap m : Nat} {node : Int} {ps : List Pk} {p : Pk} (h : Del w g n cap node ps m wr) (hp : ps[m]? = some p) (hto : p.to = node) : Del w g n cap node ps (m + 1) wr ∧ lef node ps (m + 1) = lef node ps m := by
  have hl : lef node ps (m + 1) = lef node ps m := by rw [lef_succ node ps m p hp, if_pos hto, List.append_nil]
  obtain ⟨h1, cr, h2, h3, h4, h5⟩ := h
  exact ⟨⟨h1, cr, h2, h3, by rw [hl]; exact h4, fun t ht => h5 t (by omega)⟩, hl⟩
theorem Del.keep {w wr : World} {g n cap m L : Nat} {node : Int} {ps : List Pk} {p : Pk} (h : Del w g n cap node ps m wr) (hp : ps[m]? = some p) (hto : p.to ≠ node) (hL : (lef node ps m).length = L) (hlm : L < m) (hmn : m < n) (hn : n ≤ cap) :
    Del w g n cap node ps (m + 1) ((wr.setCell ⟨g, L * 2, none⟩ (.int .i64 p.to)).setCell ⟨g, L * 2 + 1, none⟩ p.v) ∧ (lef node ps (m + 1)).length = L + 1 := by
  have hl : lef node ps (m + 1) = lef node ps m ++ [p] := by rw [lef_succ node ps m p hp, if_neg hto]
  have hl1 : (lef node ps (m + 1)).length = L + 1 := by rw [hl, List.length_append, hL]; rfl
  obtain ⟨h1, cr, h2, h3, h4, h5⟩ := h
  rw [hL] at h4
  refine ⟨⟨only_setCell (only_setCell h1 _) _, _, setRow_cell _ _ _ _ _ _ (setRow_cell _ _ _ _ _ _ h2), by simpa using h3, ?_, fun t ht ht2 => ?_⟩, hl1⟩
  · rw [hl1, hl, flat_app, ← h4]
    apply List.ext_getElem?
    intro t
    have lt1 : (cr.toList.take (L * 2)).length = L * 2 := by simp; omega
    rw [List.getElem?_take, Array.getElem?_toList, Array.getElem?_setIfInBounds, Array.getElem?_setIfInBounds]
    by_cases c1 : t < L * 2
    · rw [if_pos (by omega), if_neg (by omega), if_neg (by omega), List.getElem?_append_left (by omega), List.getElem?_take, if_pos c1, Array.getElem?_toList]
    · by_cases c2 : t = L * 2
      · subst c2
        rw [if_pos (by omega), if_neg (by omega), if_pos rfl, if_pos (by omega), List.getElem?_append_right (by omega), lt1, Nat.sub_self]
        rfl
      · by_cases c3 : t = L * 2 + 1
        · subst c3
          rw [if_pos (by omega), if_pos rfl, if_pos (by simp; omega), List.getElem?_append_right (by omega), lt1, Nat.add_sub_cancel_left]
          rfl
        · rw [if_neg (by omega), List.getElem?_eq_none (by simp [flat]; omega)]
  · rw [Array.getElem?_setIfInBounds, Array.getElem?_setIfInBounds, if_neg (by omega), if_neg (by omega)]
    exact h5 t (by omega) ht2
end Go.Proofs.Ytmicejjlfojncaa
