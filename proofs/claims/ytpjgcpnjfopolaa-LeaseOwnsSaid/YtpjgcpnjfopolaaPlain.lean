/-
  PLAIN LAW: what is collected out of a map's entries, in whatever order, and sorted, is the document's list.
-/
import Derived.Test.YtpjgcpnjfopolaaTab
namespace Go.Proofs.Ytpjgcpnjfopolaa
def clients : List Int := [1, 2, 3, 4, 5, 6, 7, 8]
theorem mem_clients {k : Int} : k ∈ clients ↔ 1 ≤ k ∧ k ≤ 8 := by
  unfold clients
  simp
  omega
theorem clients_up : clients.Pairwise (· < ·) := by decide
/-- The clients, other than c, whose grant of inode i does not go together with one (own or not). -/
def othB (g : Int → Int → Option (Bool × Int)) (c i : Int) (own : Bool) (k : Int) : Bool := k != c && match g i k with
  | some p => own || p.1
  | none => false
def oth (g : Int → Int → Option (Bool × Int)) (c i : Int) (own : Bool) : List Int := clients.filter (othB g c i own)
def leI : Int → Int → Bool := fun x y => decide (x ≤ y)
theorem sort_eq {l o : List Int} (ho : o.Pairwise (· < ·)) (hl : l.Nodup) (h : ∀ k, k ∈ l ↔ k ∈ o) : (l.mergeSort leI) = o := by
  have hon : o.Nodup := List.nodup_iff_pairwise_ne.2 (ho.imp fun h => by omega)
  have hp : (l.mergeSort leI).Perm o := (List.mergeSort_perm l leI).trans ((List.perm_ext_iff_of_nodup hl hon).2 h)
  refine hp.eq_of_pairwise (le := fun a b => leI a b = true) (fun a b _ _ h1 h2 => ?_) (List.pairwise_mergeSort (fun a b c => ?_) (fun a b => ?_) l) (ho.imp fun h => ?_)
  · simp [leI] at h1 h2; omega
  · simp [leI]; omega
  · simp [leI]; omega
  · simp [leI]; omega
theorem same_of_born {es : List Ent} (hn : (es.map Ent.born).Nodup) {a b : Ent} (ha : a ∈ es) (hb : b ∈ es) (h : a.born = b.born) : a = b := by
  obtain ⟨j, hj⟩ := List.getElem?_of_mem ha
  obtain ⟨k, hk⟩ := List.getElem?_of_mem hb
  have e : j = k := by
    rw [List.nodup_iff_pairwise_ne, List.pairwise_iff_getElem] at hn
    obtain ⟨hjl, e1⟩ := List.getElem?_eq_some_iff.1 hj
    obtain ⟨hkl, e2⟩ := List.getElem?_eq_some_iff.1 hk
    rcases Nat.lt_trichotomy j k with hlt | h' | hlt
    · have := hn j k (by simpa using hjl) (by simpa using hkl) hlt
      simp [e1, e2, h] at this
    · exact h'
    · have := hn k j (by simpa using hkl) (by simpa using hjl) hlt
      simp [e1, e2, h] at this
  subst e
  rw [hj] at hk
  injection hk
/-- The stamps of those that have been met. -/
def sn (ds : List Ent) : List Nat := ds.map Ent.born
/-- What has been met. -/
structure Met (es ds : List Ent) : Prop where
  sub : ∀ e ∈ ds, e ∈ es
  nd : (ds.map Ent.born).Nodup
theorem Met.nil (es : List Ent) : Met es [] := ⟨by simp, by simp⟩
theorem Met.add {es ds : List Ent} (h : Met es ds) {e : Ent} (he : e ∈ es) (hb : e.born ∉ sn ds) : Met es (ds ++ [e]) :=
  ⟨fun x hx => by
    rcases List.mem_append.1 hx with hx | hx
    · exact h.sub x hx
    · simp at hx; subst hx; exact he, by
    rw [List.map_append, List.nodup_append]
    refine ⟨h.nd, by simp, fun a ha b hb' => ?_⟩
    simp at hb'
    subst hb'
    rintro rfl
    exact hb ha⟩
theorem Met.mem {es ds : List Ent} (h : Met es ds) (hn : (es.map Ent.born).Nodup) (hall : ∀ e ∈ es, e.born ∈ sn ds) (e : Ent) : e ∈ ds ↔ e ∈ es := by
  refine ⟨h.sub e, fun he => ?_⟩
  obtain ⟨d, hd, hb⟩ := List.mem_map.1 (hall e he)
  exact same_of_born hn (h.sub d hd) he hb ▸ hd
theorem Met.keys {es ds : List Ent} {clock : Nat} {g : Int → Int → Option (Bool × Int)} (h : Met es ds) (hr : Rep es clock g) : ds.Pairwise fun a b => ¬ (a.i = b.i ∧ a.c = b.c) := by
  have hn := h.nd
  rw [List.nodup_iff_pairwise_ne, List.pairwise_map] at hn
  refine hn.imp_of_mem fun {a b} ha hb hne hk => hne ?_
  obtain ⟨j, hj⟩ := List.getElem?_of_mem (h.sub a ha)
  obtain ⟨k, hk'⟩ := List.getElem?_of_mem (h.sub b hb)
  obtain rfl := pair_get hr.keys hj hk' hk
  rw [hj] at hk'
  injection hk' with hk'
  rw [hk']
theorem Met.len {es ds : List Ent} {clock : Nat} {s : Tab} (h : Met es ds) (hr : Rep es clock s.g) (hok : s.Ok) : ds.length ≤ 297 := by
  have hk := h.keys hr
  have hb : ∀ e ∈ ds, (1 ≤ e.i ∧ e.i ≤ 32) ∧ 1 ≤ e.c ∧ e.c ≤ 8 := fun e he => hok.g _ _ _ (hr.sound e (h.sub e he))
  have hn : (ds.map fun e => (e.i * 9 + e.c).toNat).Nodup := by
    rw [List.nodup_iff_pairwise_ne, List.pairwise_map]
    refine hk.imp_of_mem fun {a b} ha hb' hne he => hne ?_
    have := hb a ha
    have := hb b hb'
    omega
  have := List.Nodup.length_le_of_subset hn (l₂ := List.range 297) fun x hx => by
    obtain ⟨e, he, rfl⟩ := List.mem_map.1 hx
    have := hb e he
    simp
    omega
  simpa using this
def othE (c i : Int) (own : Bool) (e : Ent) : Bool := e.i == i && (e.c != c && (own || e.own))
def colO (c i : Int) (own : Bool) (ds : List Ent) : List Int := (ds.filter (othE c i own)).map Ent.c
theorem oth_eq {es ds : List Ent} {clock : Nat} {s : Tab} (h : Met es ds) (hr : Rep es clock s.g) (hok : s.Ok) (hall : ∀ e ∈ es, e.born ∈ sn ds) (c i : Int) (own : Bool) : (colO c i own ds).mergeSort leI = oth s.g c i own := by
  refine sort_eq (clients_up.filter _) ?_ fun k => ?_
  · unfold colO
    rw [List.nodup_iff_pairwise_ne, List.pairwise_map]
    refine ((h.keys hr).filter _).imp_of_mem fun {a b} ha hb hne he => hne ?_
    have ha := (List.mem_filter.1 ha).2
    have hb := (List.mem_filter.1 hb).2
    simp [othE] at ha hb
    exact ⟨ha.1.trans hb.1.symm, he⟩
  · unfold colO oth
    rw [List.mem_map, List.mem_filter, mem_clients]
    constructor
    · rintro ⟨e, he, rfl⟩
      obtain ⟨he, hp⟩ := List.mem_filter.1 he
      have hs := hr.sound e (h.sub e he)
      have hb := hok.g _ _ _ hs
      simp [othE] at hp
      obtain ⟨rfl, h1, h2⟩ := hp
      refine ⟨hb.2, ?_⟩
      unfold othB
      rw [hs]
      simp [h1, h2]
    · rintro ⟨_, hp⟩
      unfold othB at hp
      simp only [Bool.and_eq_true, bne_iff_ne, ne_eq] at hp
      obtain ⟨h1, h2⟩ := hp
      cases hg : s.g i k with
      | none => rw [hg] at h2; cases h2
      | some p =>
        rw [hg] at h2
        obtain ⟨e, he, rfl, rfl⟩ := hr.full _ _ _ hg
        have hs := hr.sound e he
        rw [hg] at hs
        injection hs with hs
        subst hs
        refine ⟨e, List.mem_filter.2 ⟨(h.mem hr.nodup hall e).2 he, ?_⟩, rfl⟩
        simp [othE, h1]
        simpa using h2
theorem colO_snoc (c i : Int) (own : Bool) (ds : List Ent) (e : Ent) : colO c i own (ds ++ [e]) = colO c i own ds ++ if othE c i own e then [e.c] else [] := by
  unfold colO
  rw [List.filter_append, List.map_append]
  cases h : othE c i own e <;> simp [h]
theorem colO_len (c i : Int) (own : Bool) (ds : List Ent) : (colO c i own ds).length ≤ ds.length := by
  unfold colO
  rw [List.length_map]
  exact List.length_filter_le _ _
end Go.Proofs.Ytpjgcpnjfopolaa
