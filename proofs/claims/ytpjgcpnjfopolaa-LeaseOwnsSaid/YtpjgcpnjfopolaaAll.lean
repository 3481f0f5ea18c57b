/-
  All: every grant, sorted by inode and client.
-/
import Derived.Test.YtpjgcpnjfopolaaCmp
namespace Go.Proofs.Ytpjgcpnjfopolaa
open Go.RowKit Go.Deep Go.Lib Go.Sort
def flatH (l : List Hl) : List Value := (flatK encH 4 l.toArray).toList
theorem flatH_len (l : List Hl) : (flatH l).length = l.length * 4 := by unfold flatH; simp
theorem flatH_get (l : List Hl) (k : Nat) (h : Hl) (hk : l[k]? = some h) : (flatH l)[k * 4]? = some (.int .i64 h.c) ∧ (flatH l)[k * 4 + 1]? = some (.int .i64 h.i) ∧ (flatH l)[k * 4 + 2]? = some (.bool h.own) ∧ (flatH l)[k * 4 + 3]? = some (.int .i64 h.til) := by
  obtain ⟨hkl, he⟩ := List.getElem?_eq_some_iff.1 hk
  have key : ∀ j, j < 4 → (flatH l)[k * 4 + j]? = some ((encH h)[j]!) := fun j hj => by
    unfold flatH flatK
    rw [Array.getElem?_toList, Array.getElem?_map, Array.getElem?_range, if_pos (by simp; omega)]
    have e1 : (k * 4 + j) / 4 = k := by omega
    have e2 : (k * 4 + j) % 4 = j := by omega
    simp [e1, e2, hkl, he]
  exact ⟨key 0 (by omega), key 1 (by omega), key 2 (by omega), key 3 (by omega)⟩
theorem flatH_ext {l : List Hl} {xs : List Value} (hl : xs.length = l.length * 4) (h : ∀ k h', l[k]? = some h' → xs[k * 4]? = some (.int .i64 h'.c) ∧ xs[k * 4 + 1]? = some (.int .i64 h'.i) ∧ xs[k * 4 + 2]? = some (.bool h'.own) ∧ xs[k * 4 + 3]? = some (.int .i64 h'.til)) : xs = flatH l := by
  apply List.ext_getElem?
  intro t
  by_cases ht : t < l.length * 4
  · have hk : l[t / 4]? = some (l[t / 4]'(by omega)) := List.getElem?_eq_getElem _
    obtain ⟨a0, a1, a2, a3⟩ := h _ _ hk
    obtain ⟨b0, b1, b2, b3⟩ := flatH_get l _ _ hk
    have hm : t = t / 4 * 4 ∨ t = t / 4 * 4 + 1 ∨ t = t / 4 * 4 + 2 ∨ t = t / 4 * 4 + 3 := by omega
    rcases hm with e | e | e | e
    · rw [e, a0, b0]
    · rw [e, a1, b1]
    · rw [e, a2, b2]
    · rw [e, a3, b3]
  · rw [List.getElem?_eq_none (by omega), List.getElem?_eq_none (by rw [flatH_len]; omega)]
theorem flatH_snoc (l : List Hl) (h : Hl) : flatH l ++ encH h = flatH (l ++ [h]) := by
  have hl := flatH_len l
  refine flatH_ext (by simp [hl, encH]; omega) fun k h' hk => ?_
  by_cases hkl : k < l.length
  · rw [List.getElem?_append_left hkl] at hk
    rw [List.getElem?_append_left (by omega), List.getElem?_append_left (by omega), List.getElem?_append_left (by omega), List.getElem?_append_left (by omega)]
    exact flatH_get l k h' hk
  · obtain ⟨hk2, _⟩ := List.getElem?_eq_some_iff.1 hk
    simp at hk2
    obtain rfl : k = l.length := by omega
    simp at hk
    subst hk
    rw [List.getElem?_append_right (by omega), List.getElem?_append_right (by omega), List.getElem?_append_right (by omega), List.getElem?_append_right (by omega), hl]
    simp [encH]
def ofE (e : Ent) : Hl := ⟨e.c, e.i, e.own, e.til⟩
/-- All grants, by inode and client. -/
def allL (g : Int → Int → Option (Bool × Int)) : List Hl := inodes.flatMap fun i => clients.filterMap fun c => (g i c).map fun p => ⟨c, i, p.1, p.2⟩
theorem inodes_up : inodes.Pairwise (· < ·) := by
  unfold inodes
  rw [List.pairwise_map]
  exact List.pairwise_lt_range.imp fun h => by omega
theorem mem_allL {g : Int → Int → Option (Bool × Int)} (hok : ∀ i c p, g i c = some p → (1 ≤ i ∧ i ≤ 32) ∧ 1 ≤ c ∧ c ≤ 8) (h : Hl) : h ∈ allL g ↔ g h.i h.c = some (h.own, h.til) := by
  unfold allL
  simp only [List.mem_flatMap, List.mem_filterMap, Option.map_eq_some_iff]
  constructor
  · rintro ⟨i, _, c, _, p, hp, rfl⟩
    exact hp
  · intro hg
    obtain ⟨hi, hc⟩ := hok _ _ _ hg
    exact ⟨h.i, mem_inodes.2 hi, h.c, mem_clients.2 hc, _, hg, rfl⟩
theorem allL_up (g : Int → Int → Option (Bool × Int)) : (allL g).Pairwise fun a b => ltH a b = true := by
  unfold allL
  rw [List.pairwise_flatMap]
  refine ⟨fun i _ => ?_, inodes_up.imp fun {a b} hab => ?_⟩
  · rw [List.pairwise_filterMap]
    refine clients_up.imp fun {a b} hab => ?_
    intro x hx y hy
    simp only [Option.map_eq_some_iff] at hx hy
    obtain ⟨_, _, rfl⟩ := hx
    obtain ⟨_, _, rfl⟩ := hy
    simp [ltH]
    omega
  · intro x hx y hy
    simp only [List.mem_filterMap, Option.map_eq_some_iff] at hx hy
    obtain ⟨_, _, _, _, rfl⟩ := hx
    obtain ⟨_, _, _, _, rfl⟩ := hy
    simp [ltH]
    omega
theorem all_eq {es ds : List Ent} {clock : Nat} {s : Tab} (h : Met es ds) (hr : Rep es clock s.g) (hok : s.Ok) (hall : ∀ e ∈ es, e.born ∈ sn ds) {l : List Hl} (hp : l.Perm (ds.map ofE)) (hs : l.Pairwise fun a b => ltH b a = false) : l = allL s.g := by
  have hk : l.Pairwise fun a b => ¬ (a.i = b.i ∧ a.c = b.c) := by
    rw [hp.pairwise_iff (fun {x y} h e => h ⟨e.1.symm, e.2.symm⟩), List.pairwise_map]
    exact h.keys hr
  have hlt : l.Pairwise fun a b => ltH a b = true := (hs.and hk).imp fun {a b} h => by
    simp [ltH] at h ⊢
    omega
  have hne : ∀ {m : List Hl}, (m.Pairwise fun a b => ltH a b = true) → m.Nodup := fun h => List.nodup_iff_pairwise_ne.2 (h.imp fun {a b} h e => by subst e; simp [ltH] at h)
  have hperm : l.Perm (allL s.g) := (List.perm_ext_iff_of_nodup (hne hlt) (hne (allL_up s.g))).2 fun x => by
    rw [hp.mem_iff, mem_allL hok.g, List.mem_map]
    constructor
    · rintro ⟨e, he, rfl⟩
      exact hr.sound e (h.sub e he)
    · intro hg
      obtain ⟨e, he, h1, h2⟩ := hr.full _ _ _ hg
      refine ⟨e, (h.mem hr.nodup hall e).2 he, ?_⟩
      have hsd := hr.sound e he
      rw [h1, h2, hg] at hsd
      injection hsd with hsd
      injection hsd with q1 q2
      obtain ⟨c, i, o, t⟩ := x
      simp only at h1 h2 q1 q2
      unfold ofE
      rw [h1, h2, q1, q2]
  exact hperm.eq_of_pairwise (le := fun a b => ltH a b = true) (fun a b _ _ h1 h2 => by simp [ltH] at h1 h2; omega) hlt (allL_up s.g)
theorem allL_len {g : Int → Int → Option (Bool × Int)} : (allL g).length ≤ 256 := by
  unfold allL
  rw [List.length_flatMap]
  have : ∀ l : List Int, (l.map fun i => (clients.filterMap fun c => (g i c).map fun p => (⟨c, i, p.1, p.2⟩ : Hl)).length).sum ≤ l.length * 8 := fun l => by
    induction l with
    | nil => simp
    | cons a l ih =>
      have h1 : (clients.filterMap fun c => (g a c).map fun p => (⟨c, a, p.1, p.2⟩ : Hl)).length ≤ 8 := List.length_filterMap_le _ _
      simp only [List.map_cons, List.sum_cons, List.length_cons]
      omega
  have h := this inodes
  rw [inodes_len] at h
  exact h
end Go.Proofs.Ytpjgcpnjfopolaa
