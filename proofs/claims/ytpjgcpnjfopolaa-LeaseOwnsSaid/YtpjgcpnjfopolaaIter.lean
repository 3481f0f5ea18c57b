/-
  RANGES over the table's map.
-/
import Derived.Test.YtpjgcpnjfopolaaMap
import Derived.Maps.Range
namespace Go.Proofs.Ytpjgcpnjfopolaa
open Go.RowKit Go.Deep Go.ChangeMaps
/-- A range over the map in block m is under way, its state in block r; the entries with the stamps in seen have been met. -/
structure Iter (w : World) (m r : Nat) (es : List Ent) (clock : Nat) (seen : List Nat) : Prop where
  map : MapAt w m es clock
  it : w.heap[r]? = some (.mapIter (some m) clock seen.toArray clock)
  ne : r ≠ m
def lft (es : List Ent) (seen : List Nat) : Nat := (es.filter fun e => !seen.contains e.born).length
theorem mem_left {es : List Ent} {seen : List Nat} {x : MapEntry} (h : x ∈ (leftOf (es.map Ent.me).toArray seen.toArray).toList) : ∃ e ∈ es, x = e.me ∧ e.born ∉ seen := by
  simp [leftOf] at h
  obtain ⟨⟨e, he, rfl⟩, h⟩ := h
  exact ⟨e, he, rfl, by simpa [Ent.me] using h⟩
theorem left_size (es : List Ent) (seen : List Nat) : (leftOf (es.map Ent.me).toArray seen.toArray).size = lft es seen := by
  simp [leftOf, lft, List.filter_map, Function.comp_def, Ent.me]
  congr
theorem Iter.left {w : World} {m r clock : Nat} {es : List Ent} {seen : List Nat} (h : Iter w m r es clock seen) : w.rangeLeft m r = lft es seen := by
  rw [← left_size]
  unfold World.rangeLeft
  simp only [show w.heap[m]? = _ from h.map, h.it]
theorem Iter.kept {w w' : World} {m r clock : Nat} {es : List Ent} {seen : List Nat} {row : Option Nat} (h : Iter w m r es clock seen) (hg : w.grownBy w' row) (hm : some m ≠ row) (hr : some r ≠ row) : Iter w' m r es clock seen :=
  ⟨(hg.block m (Array.getElem?_eq_some_iff.1 h.map).1 hm).trans h.map, (hg.block r (Array.getElem?_eq_some_iff.1 h.it).1 hr).trans h.it, h.ne⟩
theorem iter_new {w : World} {m clock : Nat} {es : List Ent} (h : MapAt w m es clock) : (Instr.range 51 (.map (some m))).run Try.prog w = .ok (.pointer (some ⟨w.heap.size, 0, none⟩)) (w.alloc (.mapIter (some m) clock #[] clock)) ∧
    Iter (w.alloc (.mapIter (some m) clock #[] clock)) m w.heap.size es clock [] := by
  have ho := run_obj h
  have hm := (Array.getElem?_eq_some_iff.1 (show w.heap[m]? = _ from h)).1
  refine ⟨?_, ⟨blk_alloc (o := .map (es.map Ent.me).toArray clock) h, heap_alloc_new _ _, by omega⟩⟩
  simp [Instr.range, run_underlying Try.underlying51, ho, newObj, Sem.run]
theorem lft_le (seen : List Nat) (b : Nat) : ∀ es, lft es (seen ++ [b]) ≤ lft es seen
  | [] => Nat.le_refl _
  | e :: es => by
    have ih := lft_le seen b es
    unfold lft at ih ⊢
    by_cases h1 : e.born ∈ seen
    · simp [h1] at ih ⊢; exact ih
    · by_cases h2 : e.born = b
      · simp [List.filter_cons, h2] at ih ⊢
        subst h2
        simp [h1]
        omega
      · simp [h1, h2] at ih ⊢; exact ih
theorem lft_lt (seen : List Nat) (e : Ent) (hb : e.born ∉ seen) : ∀ es, e ∈ es → lft es (seen ++ [e.born]) < lft es seen
  | [], h => by simp at h
  | x :: es, h => by
    have ih := lft_lt seen e hb es
    have il := lft_le seen e.born es
    unfold lft at ih il ⊢
    rcases List.mem_cons.1 h with rfl | h
    · simp [hb] at il ⊢; omega
    · have ih := ih h
      by_cases h1 : x.born ∈ seen
      · simp [h1] at ih ⊢; exact ih
      · by_cases h2 : x.born = e.born
        · simp [h2, hb] at ih ⊢; omega
        · simp [h1, h2] at ih ⊢; exact ih
theorem iter_next {w : World} {m r clock : Nat} {es : List Ent} {seen : List Nat} {g : Int → Int → Option (Bool × Int)} (h : Iter w m r es clock seen) (hr : Rep es clock g) (ty : TypeId) :
    ((∀ e ∈ es, e.born ∈ seen) ∧ (Instr.next (.pointer (some ⟨r, 0, none⟩)) false ty).run Try.prog w = .ok (.tuple #[.bool false]) w) ∨
    ∃ e ∈ es, e.born ∉ seen ∧ ∃ w', (Instr.next (.pointer (some ⟨r, 0, none⟩)) false ty).run Try.prog w = .ok (.tuple #[.bool true, key e.i e.c, held e.c e.i e.own e.til]) w' ∧ Iter w' m r es clock (seen ++ [e.born]) ∧ w.grownBy w' (some r) ∧ w'.heap.size = w.heap.size ∧
      w'.rangeLeft m r < w.rangeLeft m r ∧ (Instr.entry (.pointer (some ⟨r, 0, none⟩))).run Try.prog w' = .ok (.tuple #[key e.i e.c, held e.c e.i e.own e.til]) w' := by
  rcases run_next_at (P := Try.prog) w ty r m clock clock seen.toArray (es.map Ent.me).toArray clock h.it h.map (fun x hx => by
    simp at hx
    obtain ⟨e, he, rfl⟩ := hx
    exact hr.born e he) (Nat.le_refl _) with ⟨h0, hrun⟩ | ⟨x, hx, w1, hw1, hrun⟩
  · refine .inl ⟨fun e he => ?_, hrun⟩
    rw [left_size] at h0
    have h1 : es.filter (fun e => !seen.contains e.born) = [] := List.length_eq_zero_iff.1 h0
    rw [List.filter_eq_nil_iff] at h1
    simpa using h1 e he
  · obtain ⟨e, he, rfl, hb⟩ := mem_left hx
    have hw1' : w1.heap = w.heap ∧ w1.os = w.os ∧ w1.tape = w.tape ∧ w1.output = w.output := by rcases hw1 with rfl | rfl <;> exact ⟨rfl, rfl, rfl, rfl⟩
    have hit1 : w1.heap[r]? = some (.mapIter (some m) clock seen.toArray clock) := by rw [hw1'.1]; exact h.it
    have hrl := (Array.getElem?_eq_some_iff.1 hit1).1
    have hset : (setBlock w1 r (.mapIter (some m) clock (seen.toArray.push e.me.born) clock)).heap[r]? = some (.mapIter (some m) clock (seen.toArray.push e.me.born) clock) := by simp [setBlock, hrl]
    have hoth : ∀ k, k ≠ r → (setBlock w1 r (.mapIter (some m) clock (seen.toArray.push e.me.born) clock)).heap[k]? = w.heap[k]? := fun k hk => by simp [setBlock, ← hw1'.1, Ne.symm hk]
    have hI : Iter (setBlock w1 r (.mapIter (some m) clock (seen.toArray.push e.me.born) clock)) m r es clock (seen ++ [e.born]) := ⟨(hoth m (Ne.symm h.ne)).trans h.map, by rw [hset]; simp [Ent.me], h.ne⟩
    refine .inr ⟨e, he, hb, _, hrun, hI, ⟨hw1'.2.1, hw1'.2.2.1, hw1'.2.2.2, by simp [setBlock, hw1'.1], fun k _ hk => hoth k (fun e => hk (by rw [e]))⟩, by simp [setBlock, hw1'.1], ?_, ?_⟩
    · rw [hI.left, h.left]
      exact lft_lt seen e hb es he
    · exact run_entry_at _ r m clock seen.toArray (es.map Ent.me).toArray clock e.me hset hI.map (by simpa using ⟨e, he, rfl⟩) (by simpa [Function.comp_def, Ent.me] using hr.nodup)
theorem Fr.of_grown {S : Nat → Prop} {w w' : World} {row : Option Nat} (h : w.grownBy w' row) (hs : ∀ b, row = some b → S b) : Fr S w w' :=
  ⟨h.os, h.tape, h.output, h.size, fun k hk hn => h.block k hk fun e => hn (hs k e.symm)⟩
end Go.Proofs.Ytpjgcpnjfopolaa
