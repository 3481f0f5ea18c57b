/-
  PLAIN LAW: what a bag keeps; a bag whose packets are changed for others.
-/
import Derived.Test.YtmicejjlfojncaaRBag
namespace Go.Proofs.Ytmicejjlfojncaa
open Go.RowKit Go.Deep
/-- Of the first n packets those that P keeps. -/
def keep (P : Nat → Pk → Bool) (ps : List Pk) : Nat → List Pk
  | 0 => []
  | n + 1 => keep P ps n ++ (match ps[n]? with
    | some p => if P n p then [p] else []
    | none => [])
theorem keep_succ (P : Nat → Pk → Bool) (ps : List Pk) (n : Nat) (p : Pk) (h : ps[n]? = some p) : keep P ps (n + 1) = keep P ps n ++ if P n p then [p] else [] := by
  rw [keep, h]
theorem keep_len (P : Nat → Pk → Bool) (ps : List Pk) : ∀ n, (keep P ps n).length ≤ n
  | 0 => Nat.le_refl _
  | n + 1 => by
    have := keep_len P ps n
    rw [keep, List.length_append]
    split
    · split <;> simp <;> omega
    · simp; omega
theorem keep_mem (P : Nat → Pk → Bool) (ps : List Pk) : ∀ n, ∀ p ∈ keep P ps n, p ∈ ps
  | 0, p, h => by cases h
  | n + 1, p, h => by
    rw [keep] at h
    rcases List.mem_append.1 h with h | h
    · exact keep_mem P ps n p h
    · split at h
      · rename_i q hq
        split at h
        · simp at h; subst h; exact List.mem_of_getElem? hq
        · cases h
      · cases h
theorem keep_filter (q : Pk → Bool) (ps : List Pk) : ∀ n, keep (fun _ p => q p) ps n = (ps.take n).filter q
  | 0 => by simp [keep]
  | n + 1 => by
    rw [keep, keep_filter q ps n, List.take_add_one, List.filter_append]
    congr 1
    cases ps[n]? <;> simp [List.filter_cons]
theorem keep_erase (k : Nat) (ps : List Pk) : ∀ n, keep (fun i _ => i != k) ps n = (ps.take n).eraseIdx k
  | 0 => by simp [keep]
  | n + 1 => by
    rw [keep, keep_erase k ps n, List.take_add_one]
    cases h : ps[n]? with
    | none => simp
    | some p =>
      have hn := (List.getElem?_eq_some_iff.1 h).1
      have hl : (ps.take n).length = n := by simp; omega
      by_cases hk : k < n
      · rw [List.eraseIdx_append_of_lt_length (by omega)]
        simp; omega
      · rw [List.eraseIdx_append_of_length_le (by omega), hl, List.eraseIdx_of_length_le (l := ps.take n) (by omega)]
        by_cases e : n = k
        · subst e; simp
        · rw [show (n != k) = true by simpa using e]
          obtain ⟨d, hd⟩ : ∃ d, k - n = d + 1 := ⟨k - n - 1, by omega⟩
          rw [hd]; simp
theorem RBag0.swapped {K : Nat → Prop} {w wr : World} {c : Nat} {v r : Value} {ps qs : List Pk} (hB : RBag0 w K c v ps) (hbel : Below w.heap.size w wr)
    (hown : wr.ownsRow w.heap.size 57 2 r qs.length (flat qs)) (hq : ∀ p ∈ qs, p ∈ ps) :
    RBag0 (wr.setCell ⟨c, 0, none⟩ r) (fun x => x = c ∨ r.ownBlock = some x) c r qs ∧ Fr K w (wr.setCell ⟨c, 0, none⟩ r) := by
  have hc := hB.lt c hB.kc
  have hF : Fr K w (wr.setCell ⟨c, 0, none⟩ r) := (Fr.of_below hbel).setCell (.inl hB.kc) r
  have hne : r.ownBlock ≠ some c := fun e => by have := (hown.lt c e).1; omega
  have hown2 : (wr.setCell ⟨c, 0, none⟩ r).ownsRow 0 57 2 r qs.length (flat qs) :=
    own_mono (hown.kept (row := some c) (only_setCell ⟨rfl, rfl, rfl, Nat.le_refl _, fun _ _ _ => rfl⟩ _) (.inr hne)) (Nat.zero_le _)
  have hb1 : wr.heap[c]? = some (.cells #[v] 38 (0, 0)) := blk_below hbel hc hB.core.blk
  refine ⟨⟨⟨?_, hown2, hne⟩, .inl rfl, fun b hb => .inr hb, ?_, fun p hp => hB.data p (hq p hp), fun p hp => hB.short p (hq p hp)⟩, hF⟩
  · rw [setRow_cell wr c _ _ _ 0 hb1]
    rfl
  · rintro x (rfl | hx)
    · exact Nat.lt_of_lt_of_le hc hF.size
    · exact (hown2.lt x hx).2
end Go.Proofs.Ytmicejjlfojncaa
