/-
  PLAIN LAW: a text put into texts that rise.
-/
import Derived.Test.YthhcgdmpbihdnaaNames
import Derived.Sort.KeysCollected
namespace Go.Proofs.Ythhcgdmpbihdnaa
open Go.RowKit Go.Deep
abbrev Tx := List UInt8
def ins (x : Tx) : List Tx → List Tx
  | [] => [x]
  | y :: ys => if x < y then x :: y :: ys else y :: ins x ys
/-- One round: what is told so far, and whether the text is in it. -/
def stp (x : Tx) (a : List Tx × Bool) (y : Tx) : List Tx × Bool := if !a.2 && decide (x < y) then (a.1 ++ [x, y], true) else (a.1 ++ [y], a.2)
def fin (x : Tx) (a : List Tx × Bool) : List Tx := if a.2 then a.1 else a.1 ++ [x]
/-- The rounds up to k. -/
def rnd (x : Tx) (out : List Tx) (k : Nat) : List Tx × Bool := (out.take k).foldl (stp x) ([], false)
theorem rnd_zero (x : Tx) (out : List Tx) : rnd x out 0 = ([], false) := rfl
theorem rnd_succ (x : Tx) (out : List Tx) (k : Nat) (y : Tx) (h : out[k]? = some y) : rnd x out (k + 1) = stp x (rnd x out k) y := by
  unfold rnd
  rw [List.take_add_one, h, List.foldl_append]
  rfl
theorem stp_len (x : Tx) (a : List Tx × Bool) (y : Tx) : (stp x a y).1.length + (if a.2 then 1 else 0) ≤ a.1.length + 1 + (if (stp x a y).2 then 1 else 0) := by
  unfold stp
  split
  · rename_i h
    simp at h
    simp [h.1]
  · simp
theorem rnd_len (x : Tx) (out : List Tx) : ∀ k, k ≤ out.length → (rnd x out k).1.length ≤ k + (if (rnd x out k).2 then 1 else 0)
  | 0, _ => by simp [rnd_zero]
  | k + 1, h => by
    have h1 := rnd_len x out k (by omega)
    have h2 := stp_len x (rnd x out k) (out[k]'(by omega))
    rw [rnd_succ x out k _ (List.getElem?_eq_getElem (by omega))]
    omega
theorem fold_put (x : Tx) : ∀ (l acc : List Tx), l.foldl (stp x) (acc, true) = (acc ++ l, true)
  | [], acc => by simp
  | y :: ys, acc => by
    rw [List.foldl_cons]
    have : stp x (acc, true) y = (acc ++ [y], true) := by simp [stp]
    rw [this, fold_put x ys]
    simp
theorem fold_ins (x : Tx) : ∀ (l acc : List Tx), fin x (l.foldl (stp x) (acc, false)) = acc ++ ins x l
  | [], acc => by simp [fin, ins]
  | y :: ys, acc => by
    rw [List.foldl_cons]
    by_cases h : x < y
    · have : stp x (acc, false) y = (acc ++ [x, y], true) := by simp [stp, h]
      rw [this, fold_put]
      simp [fin, ins, h]
    · have : stp x (acc, false) y = (acc ++ [y], false) := by simp [stp, h]
      rw [this, fold_ins x ys]
      simp [ins, h]
theorem fin_rnd (x : Tx) (out : List Tx) : fin x (rnd x out out.length) = ins x out := by
  unfold rnd
  rw [List.take_length, fold_ins]
  rfl
theorem ins_perm (x : Tx) : ∀ l, (ins x l).Perm (x :: l)
  | [] => .refl _
  | y :: ys => by
    unfold ins
    split
    · exact .refl _
    · exact ((ins_perm x ys).cons y).trans (.swap x y ys)
theorem ins_sorted (x : Tx) : ∀ l : List Tx, l.Pairwise (fun a b => leS a b = true) → (ins x l).Pairwise (fun a b => leS a b = true)
  | [], _ => by simp [ins]
  | y :: ys, h => by
    unfold ins
    obtain ⟨h1, h2⟩ := List.pairwise_cons.1 h
    split
    · rename_i hlt
      have hle : x ≤ y := Std.le_of_lt hlt
      refine List.pairwise_cons.2 ⟨fun a ha => ?_, h⟩
      rcases List.mem_cons.1 ha with rfl | ha
      · simpa [leS] using hle
      · have := h1 a ha
        simp only [leS, decide_eq_true_eq] at *
        exact List.le_trans hle this
    · rename_i hlt
      have hle : y ≤ x := List.not_lt.1 hlt
      refine List.pairwise_cons.2 ⟨fun a ha => ?_, ins_sorted x ys h2⟩
      rcases List.mem_cons.1 ((ins_perm x ys).mem_iff.1 ha) with rfl | ha
      · simpa [leS] using hle
      · exact h1 a ha
theorem ins_sort (x : Tx) (l : List Tx) : ins x (l.mergeSort leS) = (l ++ [x]).mergeSort leS := by
  have tr : ∀ a b c : List UInt8, leS a b = true → leS b c = true → leS a c = true := fun a b c h1 h2 => by simp only [leS, decide_eq_true_eq] at *; exact List.le_trans h1 h2
  have to : ∀ a b : List UInt8, (leS a b || leS b a) = true := fun a b => by simp only [leS, Bool.or_eq_true, decide_eq_true_eq]; exact List.le_total a b
  refine List.Perm.eq_of_pairwise (le := fun a b => leS a b = true) (fun a b _ _ h1 h2 => ?_) (ins_sorted x _ (List.pairwise_mergeSort tr to l)) (List.pairwise_mergeSort tr to (l ++ [x])) ?_
  · simp only [leS, decide_eq_true_eq] at h1 h2
    exact List.le_antisymm h1 h2
  · refine (ins_perm x _).trans (((List.mergeSort_perm l leS).cons x).trans ?_)
    refine List.Perm.trans ?_ (List.mergeSort_perm (l ++ [x]) leS).symm
    exact (List.perm_append_singleton x l).symm
/-- The names of the first i entries, as the reference holds them. -/
def outs (f : Nat → Ent) (i : Nat) : List Tx := (nms f i).mergeSort leS
theorem outs_succ (f : Nat → Ent) (i : Nat) : outs f (i + 1) = if (f i).nm.toList.isEmpty then outs f i else ins (f i).nm.data.toList (outs f i) := by
  unfold outs
  rw [nms]
  split
  · simp
  · rw [ins_sort]
theorem outs_len (f : Nat → Ent) (i : Nat) : (outs f i).length ≤ i := by
  unfold outs
  rw [List.length_mergeSort]
  exact nms_le f i
end Go.Proofs.Ythhcgdmpbihdnaa
