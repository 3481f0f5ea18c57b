/-
  DirFill: for any names the law returns true: what is set at its Place is found there, up to 16 names; then they are all told. No condition.
-/
import Derived.Test.YthhcgdmpbihdnaaNames
namespace Go.Proofs.Ythhcgdmpbihdnaa
open Go.ChangeShapes Go.WideShapes Go.ChangeAt Go.RowKit Go.Deep
theorem plc_hits (h j : Nat) (hj : j < 16) : ∃ i, i < 16 ∧ plc h i = j := by
  refine ⟨(16 + j - h % 16) % 16, Nat.mod_lt _ (by decide), ?_⟩
  unfold plc
  omega
theorem fnd_spec (p : Nat → Bool) (h : Nat) : (fnd p h = -1 ∧ ∀ j, j < 16 → p j = false) ∨ ∃ x, x < 16 ∧ p x = true ∧ fnd p h = (x : Nat) := by
  by_cases hx : ∃ i, i < 16 ∧ p (plc h i) = true
  · obtain ⟨i, hi, hpi⟩ := hx
    have hleast : ∀ k, (∀ i, i < k → p (plc h i) = false) ∨ ∃ i, i < k ∧ p (plc h i) = true ∧ ∀ q, q < i → p (plc h q) = false := by
      intro k
      induction k with
      | zero => exact .inl fun i hi => absurd hi (Nat.not_lt_zero _)
      | succ k ih =>
        rcases ih with ih | ⟨i, h1, h2, h3⟩
        · cases hk : p (plc h k)
          · left
            intro i hi
            by_cases e : i = k
            · rw [e]; exact hk
            · exact ih i (by omega)
          · exact .inr ⟨k, by omega, hk, ih⟩
        · exact .inr ⟨i, by omega, h2, h3⟩
    rcases hleast 16 with hl | ⟨i', h1, h2, h3⟩
    · rw [hl i hi] at hpi
      cases hpi
    · exact .inr ⟨plc h i', plc_lt h i', h2, fnd_hit p h i' h1 h3 h2⟩
  · left
    have hn : ∀ i, i < 16 → p (plc h i) = false := fun i hi => by
      cases hc : p (plc h i)
      · rfl
      · exact absurd ⟨i, hi, hc⟩ hx
    refine ⟨fnd_none p h hn, fun j hj => ?_⟩
    obtain ⟨i, hi, rfl⟩ := plc_hits h j hj
    exact hn i hi
theorem toList_inj {a b : ByteArray} (h : a.toList = b.toList) : a = b := by
  rw [ByteArray.toList_eq, ByteArray.toList_eq] at h
  exact ByteArray.ext (Array.toList_inj.1 h)
theorem isNm_iff {f : Nat → Ent} {s : ByteArray} {j : Nat} (hs : s.toList.isEmpty = false) : isNm f s j = true ↔ (f j).nm = s := by
  unfold isNm
  rw [hs, Bool.not_false, Bool.and_true, beq_iff_eq]
  exact ⟨toList_inj, fun h => by rw [h]⟩
/-- The table and the names that were set in it. -/
structure Inv (f : Nat → Ent) (H : List ByteArray) : Prop where
  free : ∀ j, j < 16 → (f j).nm.toList.isEmpty = true → (f j).ino = 0
  cnt : (nms f 16).length = H.length
  has : ∀ h ∈ H, h.toList.isEmpty = false ∧ ∃ j, j < 16 ∧ (f j).nm = h
theorem nms_upd (f : Nat → Ent) (j : Nat) (e : Ent) (h0 : (f j).nm.toList.isEmpty = true) (h1 : e.nm.toList.isEmpty = false) : ∀ n, (nms (upd f j e) n).length = (nms f n).length + if j < n then 1 else 0
  | 0 => by simp [nms]
  | n + 1 => by
    have ih := nms_upd f j e h0 h1 n
    rw [nms, nms, List.length_append, List.length_append, ih]
    by_cases hn : n = j
    · have e1 : upd f j e n = e := by simp [upd, hn]
      have e2 : (f n).nm.toList.isEmpty = true := by rw [hn]; exact h0
      have a1 : ¬ j < n := by omega
      have a2 : j < n + 1 := by omega
      rw [e1, e2, h1]
      simp [a1, a2]
    · have e1 : upd f j e n = f n := by simp [upd, hn]
      rw [e1]
      by_cases hjn : j < n
      · have a2 : j < n + 1 := by omega
        simp only [hjn, a2, if_true]
        omega
      · have a2 : ¬ j < n + 1 := by omega
        simp only [hjn, a2, if_false]
        omega
theorem nms_full (f : Nat → Ent) : ∀ n, (nms f n).length = n ↔ ∀ j, j < n → (f j).nm.toList.isEmpty = false
  | 0 => by simp [nms]
  | n + 1 => by
    have hle := nms_le f n
    have ih := nms_full f n
    rw [nms, List.length_append]
    cases he : (f n).nm.toList.isEmpty
    · simp only [if_false, Bool.false_eq_true, List.length_cons, List.length_nil]
      constructor
      · intro h j hj
        by_cases e : j = n
        · rw [e]; exact he
        · exact ih.1 (by omega) j (by omega)
      · intro h
        rw [ih.2 fun j hj => h j (by omega)]
    · simp only [if_true, List.length_nil, Nat.add_zero]
      constructor
      · intro h
        omega
      · intro h
        rw [h n (by omega)] at he
        cases he
theorem Inv.start : Inv (fun _ => ent0) [] where
  free := fun _ _ _ => rfl
  cnt := by
    have : ∀ n, (nms (fun _ => ent0) n) = [] := by
      intro n
      induction n with
      | zero => rfl
      | succ n ih =>
        rw [nms, ih]
        have : ent0.nm.toList.isEmpty = true := by show noName.toList.isEmpty = true; rw [to0]; rfl
        rw [this]
        rfl
    rw [this]
    rfl
  has := fun h hh => by cases hh
theorem Inv.place {f : Nat → Ent} {H : List ByteArray} (hI : Inv f H) (s : ByteArray) :
    (place f s = -1 ∧ H.length = 16) ∨ ∃ j, j < 16 ∧ (f j).nm.toList.isEmpty = true ∧ place f s = (j : Nat) ∧ H.length < 16 := by
  have hle := nms_le f 16
  rcases fnd_spec (isFree f) (hash s) with ⟨h1, h2⟩ | ⟨x, hx, h1, h2⟩
  · left
    refine ⟨h1, ?_⟩
    rw [← hI.cnt, (nms_full f 16).2]
    intro j hj
    have := h2 j hj
    unfold isFree at this
    cases he : (f j).nm.toList.isEmpty
    · rfl
    · rw [he, hI.free j hj he] at this
      cases this
  · right
    unfold isFree at h1
    simp only [Bool.and_eq_true] at h1
    refine ⟨x, hx, h1.1, h2, ?_⟩
    rw [← hI.cnt]
    have hne : (nms f 16).length ≠ 16 := fun h => by
      have := (nms_full f 16).1 h x hx
      rw [this] at h1
      cases h1.1
    omega
theorem Inv.set {f : Nat → Ent} {H : List ByteArray} (hI : Inv f H) {s : ByteArray} (hs : s.toList.isEmpty = false) {j : Nat} (hj : j < 16) (h0 : (f j).nm.toList.isEmpty = true) (m : Int) : Inv (upd f j ⟨s, m⟩) (H ++ [s]) where
  free := fun q hq he => by
    by_cases e : q = j
    · subst e
      simp [upd, hs] at he
    · have : upd f j ⟨s, m⟩ q = f q := by simp [upd, e]
      rw [this] at he ⊢
      exact hI.free q hq he
  cnt := by
    rw [nms_upd f j ⟨s, m⟩ h0 hs, if_pos hj, hI.cnt]
    simp
  has := fun h hh => by
    rcases List.mem_append.1 hh with hh | hh
    · obtain ⟨h1, q, hq, h2⟩ := hI.has h hh
      refine ⟨h1, q, hq, ?_⟩
      have : q ≠ j := fun e => by
        subst e
        rw [h2, h1] at h0
        cases h0
      simp [upd, this, h2]
    · simp at hh
      subst hh
      exact ⟨hs, j, hj, by simp [upd]⟩
theorem Inv.found {f : Nat → Ent} {H : List ByteArray} (hI : Inv f H) {h : ByteArray} (hh : h ∈ H) : ∃ x, x < 16 ∧ find f h = (x : Nat) ∧ (f x).nm = h := by
  obtain ⟨h1, j, hj, h2⟩ := hI.has h hh
  rcases fnd_spec (isNm f h) (hash h) with ⟨_, h4⟩ | ⟨x, hx, h3, h4⟩
  · have := h4 j hj
    rw [(isNm_iff h1).2 h2] at this
    cases this
  · exact ⟨x, hx, h4, (isNm_iff h1).1 h3⟩
theorem mayN_some {s : ByteArray} (h : mayN s = true) : s.toList.isEmpty = false := by
  have h1 : 1 ≤ s.size := by
    unfold mayN at h
    simp only [Bool.and_eq_true, decide_eq_true_eq] at h
    exact h.2.1
  have hlen : s.toList.length = s.size := by rw [ByteArray.toList_eq]; simp
  cases hl : s.toList with
  | nil => rw [hl] at hlen; simp at hlen; omega
  | cons _ _ => rfl
/-- A slice of texts that came in. -/
def Txt (w : World) (v : Value) (f : Nat → ByteArray) (n : Nat) : Prop :=
  ∃ A cap, v = .slice A n cap ∧ n ≤ 9223372036854775807 ∧ (∀ i, (f i).size ≤ 9223372036854775807) ∧
   (0 < n → ∃ b off, A = some ⟨b, off, none⟩ ∧ b < w.heap.size ∧ ∀ i, i < n → w.cell? ⟨b, off + i, none⟩ = some (.string (f i)))
section
open Go.Sort (grow)
theorem wpq_load26 {ops : Array Oper} {rest : List Oper} {o : Oper} {a : Act} {w : World} {Q : Act → Prop} {f : Nat → Ent} {g : Nat} {fr : Nat × Nat}
    (hw : Region.wanted o (yielded ops a.tmps) = true) (x : Operand) (ho : o.op = .load 26 x) (hx : a.eval x = .pointer (some ⟨g, 0, none⟩)) (hg : w.heap[g]? = some (.cells (tabv f) 26 fr))
    (h : wpQuiet Try.prog ops (fun w' => ∃ p : Regrown, w' = grow (redrawn w p.d) p.os) Q rest (a.put o.dst (.agg (tabv f)))) : wpQuiet Try.prog ops (fun w' => ∃ p : Regrown, w' = grow (redrawn w p.d) p.os) Q (o :: rest) a :=
  wpq_value hw _ (fun w' hC => by
    have hb := near_iff.1 hC
    have hg' := blk_below hb (Array.getElem?_eq_some_iff.1 hg).1 hg
    unfold execOp
    simp only [ho, hx, Instr.loadAt, Instr.sureAddr, Sem.run_bind, Sem.run_pure, Result.andThen_ok, run_loadVar_row w' g 26 26 (tabv f) fr _ hg' Try.underlying26 rfl (info26 f)]) h
end
end Go.Proofs.Ythhcgdmpbihdnaa
