/-
  A TABLE of sixteen entries as the program holds it: an array's cells; loads, stores, equality.
-/
import Derived.Test.YthhcgdmpbihdnaaIter
namespace Go.Proofs.Ythhcgdmpbihdnaa
open Go.RowKit
structure Ent where
  nm : ByteArray
  ino : Int
def noName : ByteArray := { data := #[] }
def ent0 : Ent := ⟨noName, 0⟩
def ecs (f : Nat → Ent) : Nat → List Value
  | 0 => []
  | n + 1 => ecs f n ++ [.string (f n).nm, .int .i64 (f n).ino]
theorem ecs_len (f : Nat → Ent) : ∀ n, (ecs f n).length = n * 2
  | 0 => rfl
  | n + 1 => by simp [ecs, ecs_len f n]; omega
theorem ecs_get (f : Nat → Ent) : ∀ (n m : Nat), (ecs f n)[m]? = if m < n * 2 then some (if m % 2 = 0 then .string (f (m / 2)).nm else .int .i64 (f (m / 2)).ino) else none
  | 0, m => by simp [ecs]
  | n + 1, m => by
    have hl := ecs_len f n
    rw [ecs]
    by_cases h1 : m < n * 2
    · rw [List.getElem?_append_left (by omega), ecs_get f n m, if_pos h1, if_pos (show m < (n + 1) * 2 by omega)]
    · rw [List.getElem?_append_right (by omega), hl]
      by_cases h2 : m = n * 2
      · subst h2
        simp
      · by_cases h3 : m = n * 2 + 1
        · subst h3
          have e1 : (n * 2 + 1) / 2 = n := by omega
          have e2 : (n * 2 + 1) % 2 = 1 := by omega
          have e3 : n * 2 + 1 - n * 2 = 1 := by omega
          rw [e1, e2, e3, if_pos (by omega)]
          rfl
        · rw [if_neg (by omega), List.getElem?_eq_none (by simp; omega)]
theorem ecs_nm (f : Nat → Ent) (n i : Nat) (h : i < n) : (ecs f n)[i * 2]? = some (.string (f i).nm) := by
  rw [ecs_get, if_pos (by omega), if_pos (by omega), show i * 2 / 2 = i by omega]
theorem ecs_ino (f : Nat → Ent) (n i : Nat) (h : i < n) : (ecs f n)[i * 2 + 1]? = some (.int .i64 (f i).ino) := by
  rw [ecs_get, if_pos (by omega), if_neg (by omega), show (i * 2 + 1) / 2 = i by omega]
theorem ecs_same (f g : Nat → Ent) (n : Nat) (h : ∀ i, i < n → f i = g i) : ecs f n = ecs g n := by
  induction n with
  | zero => rfl
  | succ n ih => rw [ecs, ecs, ih (fun i hi => h i (by omega)), h n (by omega)]
def tabv (f : Nat → Ent) : Array Value := (ecs f 16).toArray
theorem tabv_size (f : Nat → Ent) : (tabv f).size = 32 := by simp [tabv, ecs_len]
theorem tabv_get (f : Nat → Ent) (m : Nat) : (tabv f)[m]? = (ecs f 16)[m]? := by simp [tabv]
theorem tabv_nm (f : Nat → Ent) (i : Nat) (h : i < 16) : (tabv f)[i * 2]? = some (.string (f i).nm) := by rw [tabv_get]; exact ecs_nm f 16 i h
theorem tabv_ino (f : Nat → Ent) (i : Nat) (h : i < 16) : (tabv f)[i * 2 + 1]? = some (.int .i64 (f i).ino) := by rw [tabv_get]; exact ecs_ino f 16 i h
def upd (f : Nat → Ent) (i : Nat) (e : Ent) : Nat → Ent := fun j => if j = i then e else f j
theorem tabv_set (f : Nat → Ent) (i : Nat) (h : i < 16) (s : ByteArray) (n : Int) :
    ((tabv f).setIfInBounds (i * 2) (.string s)).setIfInBounds (i * 2 + 1) (.int .i64 n) = tabv (upd f i ⟨s, n⟩) := by
  apply Array.ext_getElem?
  intro m
  rw [Array.getElem?_setIfInBounds, Array.getElem?_setIfInBounds, tabv_get, tabv_get, ecs_get, ecs_get, Array.size_setIfInBounds, tabv_size]
  by_cases h1 : i * 2 + 1 = m
  · subst h1
    rw [if_pos rfl, if_pos (by omega), if_pos (by omega), if_neg (by omega), show (i * 2 + 1) / 2 = i by omega]
    simp [upd]
  · rw [if_neg h1]
    by_cases h2 : i * 2 = m
    · subst h2
      rw [if_pos rfl, if_pos (by omega), if_pos (by omega), if_pos (by omega), show i * 2 / 2 = i by omega]
      simp [upd]
    · rw [if_neg h2]
      by_cases h3 : m < 16 * 2
      · rw [if_pos h3, if_pos h3]
        have : ¬ m / 2 = i := by omega
        simp [upd, this]
      · rw [if_neg h3, if_neg h3]
theorem ecs_one (f : Nat → Ent) : ∀ n, (ecs f n).all (·.oneCell') = true
  | 0 => rfl
  | n + 1 => by rw [ecs, List.all_append, ecs_one f n]; rfl
theorem tabv_one (f : Nat → Ent) : (tabv f).all (·.oneCell') = true := by
  have h := ecs_one f 16
  unfold tabv
  generalize ecs f 16 = l at *
  simpa using h
theorem size26 : (Try.prog.info? 26).map (·.size) = some 32 := by kernel_rfl
theorem info26 (f : Nat → Ent) : (Try.prog.info? 26).map (·.size) = some (tabv f).size := by rw [tabv_size]; exact size26
section
variable {ops : Array Oper} {rest : List Oper} {o : Oper} {a : Act} {w : World} {Q : Exit → Act → World → Prop}
theorem wpl_load26 {f : Nat → Ent} {g : Nat} {fr : Nat × Nat}
    (hw : Region.wanted o (yielded ops a.tmps) = true) (x : Operand) (ho : o.op = .load 26 x) (hx : a.eval x = .pointer (some ⟨g, 0, none⟩))
    (hg : w.heap[g]? = some (.cells (tabv f) 26 fr)) (h : wpList Try.prog ops Q rest (a.put o.dst (.agg (tabv f))) w) : wpList Try.prog ops Q (o :: rest) a w :=
  wpl_on hw fun _ hK => wp_load_row 26 x ho g hx 26 (tabv f) fr _ hg Try.underlying26 rfl (info26 f) (hK _ _ h)
theorem wpl_store26 {f : Nat → Ent} {g : Nat} {old : Array Value}
    (hw : Region.wanted o (yielded ops a.tmps) = true) (x y : Operand) (ho : o.op = .store 26 x y) (hx : a.eval x = .pointer (some ⟨g, 0, none⟩)) (hy : a.eval y = .agg (tabv f))
    (hg : w.heap[g]? = some (.cells old 26 (0, 0))) (hold : old.size = 32) (h : wpList Try.prog ops Q rest (a.put o.dst undef) (w.setRow g (tabv f))) : wpList Try.prog ops Q (o :: rest) a w :=
  wpl_on hw fun _ hK => wp_store_row 26 x y ho g (tabv f) hx hy 26 old hg (info26 f) (by rw [hold, tabv_size]) (tabv_one f) (hK _ _ h)
theorem wpl_store26_new {f : Nat → Ent} {old : Array Value}
    (hw : Region.wanted o (yielded ops a.tmps) = true) (x y : Operand) (ho : o.op = .store 26 x y) (hx : a.eval x = .pointer (some ⟨w.heap.size, 0, none⟩)) (hy : a.eval y = .agg (tabv f))
    (hold : old.size = 32) (h : wpList Try.prog ops Q rest (a.put o.dst undef) (w.alloc (.cells (tabv f) 26))) : wpList Try.prog ops Q (o :: rest) a (w.alloc (.cells old 26)) :=
  wpl_store26 hw x y ho hx hy (heap_alloc_new w _) hold (by rw [World.setRow_alloc_new]; exact h)
end
/-! ### The places in their order -/
/-- The first of the places that meets p; -1: none. -/
def fst' (p : Nat → Bool) (h : Nat) : Nat → Nat → Int
  | 0, _ => -1
  | n + 1, k => if p (plc h k) then (plc h k : Nat) else fst' p h n (k + 1)
def fnd (p : Nat → Bool) (h : Nat) : Int := fst' p h 16 0
theorem fst_skip (p : Nat → Bool) (h : Nat) : ∀ (k n : Nat), (∀ i, i < k → p (plc h i) = false) → ∀ j, fst' p h (k + n - j) j = fst' p h n k ∨ k < j
  | 0, n, _, 0 => .inl (by simp)
  | k, n, hp, j => by
    by_cases hj : j ≤ k
    · left
      obtain ⟨d, rfl⟩ : ∃ d, k = j + d := ⟨k - j, by omega⟩
      clear hj
      induction d generalizing j with
      | zero => simp
      | succ d ih =>
        have h1 : fst' p h (j + (d + 1) + n - j) j = fst' p h (d + n) (j + 1) := by
          rw [show j + (d + 1) + n - j = (d + n) + 1 by omega, fst', hp j (by omega)]
          simp
        rw [h1]
        have h2 := ih (j + 1) (fun i hi => hp i (by omega))
        rw [show j + 1 + d + n - (j + 1) = d + n by omega] at h2
        rw [h2, show j + 1 + d = j + (d + 1) by omega]
    · exact .inr (by omega)
theorem fnd_hit (p : Nat → Bool) (h k : Nat) (hk : k < 16) (hp : ∀ i, i < k → p (plc h i) = false) (h1 : p (plc h k) = true) : fnd p h = (plc h k : Nat) := by
  have h2 := (fst_skip p h k (16 - k) hp 0).resolve_right (by omega)
  rw [show k + (16 - k) - 0 = 16 by omega] at h2
  unfold fnd
  rw [h2, show 16 - k = (15 - k) + 1 by omega, fst', h1]
  simp
theorem fnd_none (p : Nat → Bool) (h : Nat) (hp : ∀ i, i < 16 → p (plc h i) = false) : fnd p h = -1 := by
  have h2 := (fst_skip p h 16 0 hp 0).resolve_right (by omega)
  exact h2
theorem fnd_bd (p : Nat → Bool) (h : Nat) : -1 ≤ fnd p h ∧ fnd p h < 16 := by
  have : ∀ n k, -1 ≤ fst' p h n k ∧ fst' p h n k < 16 := by
    intro n
    induction n with
    | zero => intro k; simp [fst']
    | succ n ih =>
      intro k
      have := plc_lt h k
      rw [fst']
      split
      · omega
      · exact ih _
  exact this 16 0
end Go.Proofs.Ythhcgdmpbihdnaa
