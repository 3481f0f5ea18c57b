/-
  Over: the clients that have a grant that is over.
-/
import Derived.Test.YtpjgcpnjfopolaaDrop
import Derived.Lib.RowBridge
namespace Go.Proofs.Ytpjgcpnjfopolaa
open Go.RowKit Go.Deep Go.Sort
theorem compact_inv (d : Array Int) (n : Nat) (hs : ∀ a b, a ≤ b → b < n → d[a]! ≤ d[b]!) : ∀ m, m ≤ n → (Lib.compactUpTo d m).Pairwise (· < ·) ∧ (∀ x ∈ Lib.compactUpTo d m, ∃ j, j < m ∧ x = d[j]!) ∧ ∀ j, j < m → d[j]! ∈ Lib.compactUpTo d m
  | 0, _ => by simp [Lib.compactUpTo]
  | m + 1, hm => by
    obtain ⟨h1, h2, h3⟩ := compact_inv d n hs m (by omega)
    rw [Lib.compactUpTo_succ]
    cases hk : Lib.keeps d m
    · simp only [Bool.false_eq_true, if_false, List.append_nil]
      refine ⟨h1, fun x hx => ?_, fun j hj => ?_⟩
      · obtain ⟨j, hj, e⟩ := h2 x hx
        exact ⟨j, by omega, e⟩
      · by_cases hjm : j = m
        · subst hjm
          have h0 : 0 < j ∧ d[j]! = d[j - 1]! := by
            simp [Lib.keeps] at hk
            exact ⟨by omega, hk.2⟩
          rw [h0.2]
          exact h3 _ (by omega)
        · exact h3 j (by omega)
    · simp only [if_true]
      refine ⟨?_, fun x hx => ?_, fun j hj => ?_⟩
      · rw [List.pairwise_append]
        refine ⟨h1, by simp, fun a ha b hb => ?_⟩
        simp only [List.mem_singleton] at hb
        subst hb
        obtain ⟨j, hj, rfl⟩ := h2 a ha
        have h0 : d[m]! ≠ d[m - 1]! := by
          simp [Lib.keeps] at hk
          rcases hk with hk | hk
          · omega
          · exact hk
        have := hs j (m - 1) (by omega) (by omega)
        have := hs (m - 1) m (by omega) (by omega)
        omega
      · rcases List.mem_append.1 hx with hx | hx
        · obtain ⟨j, hj, e⟩ := h2 x hx
          exact ⟨j, by omega, e⟩
        · simp at hx
          exact ⟨m, by omega, by simpa using hx⟩
      · by_cases hjm : j = m
        · subst hjm; simp
        · exact List.mem_append_left _ (h3 j (by omega))
theorem get_bang (l : List Int) (j : Nat) (h : j < l.length) : l.toArray[j]! = l[j] := by simp [h]
theorem compact_sorted {l o : List Int} (ho : o.Pairwise (· < ·)) (h : ∀ k, k ∈ l ↔ k ∈ o) : Lib.compact (l.mergeSort leI) = o := by
  have hs : (l.mergeSort leI).Pairwise (fun a b => leI a b = true) := List.pairwise_mergeSort (fun a b c => by simp [leI]; omega) (fun a b => by simp [leI]; omega) l
  have hm : ∀ k, k ∈ l.mergeSort leI ↔ k ∈ l := fun k => (List.mergeSort_perm l leI).mem_iff
  generalize l.mergeSort leI = t at *
  have hg : ∀ a b, a ≤ b → b < t.length → t.toArray[a]! ≤ t.toArray[b]! := fun a b hab hb => by
    rw [get_bang t a (by omega), get_bang t b hb]
    by_cases e : a = b
    · subst e; exact Int.le_refl _
    · have := (List.pairwise_iff_getElem.1 hs) a b (by omega) hb (by omega)
      simpa [leI] using this
  obtain ⟨h1, h2, h3⟩ := compact_inv t.toArray t.length hg t.length (Nat.le_refl _)
  change (Lib.compact t).Pairwise _ at h1
  change ∀ x ∈ Lib.compact t, _ at h2
  change ∀ j, j < t.length → _ ∈ Lib.compact t at h3
  have hp : (Lib.compact t).Perm o := (List.perm_ext_iff_of_nodup (List.nodup_iff_pairwise_ne.2 (h1.imp fun h => by omega)) (List.nodup_iff_pairwise_ne.2 (ho.imp fun h => by omega))).2 fun k => by
    rw [← h k, ← hm k]
    constructor
    · intro hk
      obtain ⟨j, hj, e⟩ := h2 k hk
      rw [e, get_bang t j hj]
      exact List.getElem_mem hj
    · intro hk
      obtain ⟨j, hj⟩ := List.getElem?_of_mem hk
      obtain ⟨hjl, e⟩ := List.getElem?_eq_some_iff.1 hj
      have := h3 j hjl
      rw [get_bang t j hjl, e] at this
      exact this
  exact hp.eq_of_pairwise (le := (· < ·)) (fun a b _ _ h1 h2 => by omega) h1 ho
def inodes : List Int := (List.range 32).map fun (k : Nat) => (k : Int) + 1
theorem mem_inodes {i : Int} : i ∈ inodes ↔ 1 ≤ i ∧ i ≤ 32 := by
  unfold inodes
  simp
  constructor
  · rintro ⟨a, ha, rfl⟩; omega
  · intro h; exact ⟨(i - 1).toNat, by omega, by omega⟩
def ovG (g : Int → Int → Option (Bool × Int)) (now k i : Int) : Bool := match g i k with
  | some p => decide (p.2 ≤ now)
  | none => false
def ovB (g : Int → Int → Option (Bool × Int)) (now k : Int) : Bool := inodes.any (ovG g now k)
def ovr (g : Int → Int → Option (Bool × Int)) (now : Int) : List Int := clients.filter (ovB g now)
def ovE (now : Int) (e : Ent) : Bool := decide (e.til ≤ now)
def colV (now : Int) (ds : List Ent) : List Int := (ds.filter (ovE now)).map Ent.c
theorem colV_snoc (now : Int) (ds : List Ent) (e : Ent) : colV now (ds ++ [e]) = colV now ds ++ if ovE now e then [e.c] else [] := by
  unfold colV
  rw [List.filter_append, List.map_append]
  cases h : ovE now e <;> simp [h]
theorem colV_len (now : Int) (ds : List Ent) : (colV now ds).length ≤ ds.length := by
  unfold colV
  rw [List.length_map]
  exact List.length_filter_le _ _
theorem ovr_eq {es ds : List Ent} {clock : Nat} {s : Tab} (h : Met es ds) (hr : Rep es clock s.g) (hok : s.Ok) (hall : ∀ e ∈ es, e.born ∈ sn ds) (now : Int) : Lib.compact ((colV now ds).mergeSort leI) = ovr s.g now := by
  refine compact_sorted (clients_up.filter _) fun k => ?_
  unfold colV ovr
  rw [List.mem_map, List.mem_filter, mem_clients]
  constructor
  · rintro ⟨e, he, rfl⟩
    obtain ⟨he, hp⟩ := List.mem_filter.1 he
    have hs := hr.sound e (h.sub e he)
    have hb := hok.g _ _ _ hs
    refine ⟨hb.2, ?_⟩
    unfold ovB
    rw [List.any_eq_true]
    refine ⟨e.i, mem_inodes.2 hb.1, ?_⟩
    unfold ovG
    rw [hs]
    exact hp
  · rintro ⟨_, hp⟩
    unfold ovB at hp
    rw [List.any_eq_true] at hp
    obtain ⟨i, _, hi⟩ := hp
    unfold ovG at hi
    cases hg : s.g i k with
    | none => rw [hg] at hi; cases hi
    | some p =>
      rw [hg] at hi
      obtain ⟨e, he, rfl, rfl⟩ := hr.full _ _ _ hg
      have hs := hr.sound e he
      rw [hg] at hs
      injection hs with hs
      subst hs
      exact ⟨e, List.mem_filter.2 ⟨(h.mem hr.nodup hall e).2 he, hi⟩, rfl⟩
/-- slices.Compact at a slice of the call's own. -/
theorem compact_own {v : Value} {B : Nat} {zs : List Int} {w : World} (hown : w.ownsRow B 3 1 v zs.length (zs.map (Value.int .i64))) (hn : zs.length < 100000) :
    Calls Try.prog 27 #[v] w fun e w' => ∃ v', e = .returned v' ∧ w'.ownsRow B 3 1 v' (Lib.compact zs).length ((Lib.compact zs).map (Value.int .i64)) ∧ w.grownBy w' v.ownBlock := by
  rcases hown.2 with ⟨rfl, h0⟩ | ⟨g, cap, cur, rfl, hbase, hb, h1, h2, h3, h4⟩
  · have hs : zs = [] := List.eq_nil_of_length_eq_zero h0
    subst hs
    refine (compact_none none 0 w).mono ?_
    rintro e w' ⟨rfl, rfl⟩
    exact ⟨_, rfl, World.ownsRow_nil _ _ _ _, ⟨rfl, rfl, rfl, Nat.le_refl _, fun _ _ _ => rfl⟩⟩
  · have hH : Holds (Value.int .i64) w g 0 zs.toArray := holds_of_blockI hb (by simpa using h4)
    refine (compact_some g 0 cap zs w hH (by omega) h1).mono ?_
    rintro e w' ⟨rfl, q, rfl⟩
    have hcl := Lib.compact_length_le zs
    have hgl : g < w.heap.size := blk_lt hb
    have hblk : (putRow (Value.int .i64) (Sort.ahead w q) g 0 (Lib.compact zs ++ List.replicate (zs.length - (Lib.compact zs).length) 0).toArray).heap[g]? = some (.cells (putCells (Value.int .i64) 0 (Lib.compact zs ++ List.replicate (zs.length - (Lib.compact zs).length) 0).toArray cur) 3 (0, 0)) := by
      simp [putRow, mapBlock, Sort.ahead, Array.getElem?_modify, hb, onCells]
    refine ⟨_, rfl, ⟨by simp, .inr ⟨g, cap, _, rfl, hbase, hblk, by omega, h2, by simp [putCells, h3], ?_⟩⟩, ⟨rfl, rfl, rfl, by simp [putRow, mapBlock, Sort.ahead], fun k hk hne => ?_⟩⟩
    · have ht := take_putCellsI cur (Lib.compact zs ++ List.replicate (zs.length - (Lib.compact zs).length) 0) (by simp; omega)
      have ht2 := congrArg (List.take (Lib.compact zs).length) ht
      rw [List.take_take, List.map_append, List.take_left' (by simp)] at ht2
      rw [Nat.mul_one, ← ht2]
      congr 1
      simp
    · have : g ≠ k := fun e => hne (by rw [← e]; rfl)
      simp [putRow, mapBlock, Sort.ahead, Array.getElem?_modify, this]
set_option maxRecDepth 100000 in
set_option maxHeartbeats 2000000 in
theorem over_any {w : World} {b m : Nat} {s : Tab} (h : TP w b m s) (now : Int) : Calls Try.prog 16 #[.pointer (some ⟨b, 0, none⟩), .int .i64 now] w fun e w' =>
    ∃ v, e = .returned v ∧ w'.ownsRow w.heap.size 3 1 v (ovr s.g now).length ((ovr s.g now).map (Value.int .i64)) ∧ Below w.heap.size w w' := by
  have HOK := Lib.hid h.ok
  have hbl := h.lt.1
  obtain ⟨arr, hb, ha⟩ := h.tab
  obtain ⟨es, clock, hm, hr⟩ := h.map
  have c0 := blk_cell hb ha.2.1
  have HM := Lib.hid hm
  have HR := Lib.hid hr
  clear hm hr hb ha h
  go_enter Try.func16, Try.ntmps16
  go_wp2_with (at_range; refine wpl_range rfl _ rfl rfl HM.out ?_; intro w1 hi1 hw1; have HC := Lib.hid (Col.start w1 hi1 hw1); clear hi1 hw1)
  go_frame
  go_loopw [5] (fun v wr => ∃ ds, Col w wr m es clock ds v (colV now ds)) (fun _ wr => wr.rangeLeft m w.heap.size)
  case atStart => exact ⟨[], HC.out⟩
  case round =>
    obtain ⟨ds, hcol⟩ := hrel
    have HCO := Lib.hid hcol
    clear hcol HC
    go_wp2_with (at_next; refine wpl_next rfl _ rfl rfl HCO.out.it HR.out ?_ ?_)
    · intro hall
      have HALL := Lib.hid (ovr_eq HCO.out.met HR.out HOK.out hall now)
      clear hall
      have HLE := Lib.hid (And.intro (colV_len now ds) (HCO.out.met.len HR.out HOK.out))
      go_wp2_with fail
      refine (sort_own HCO.out.row (by have := HLE.out; omega)).mono ?_
      rintro e w2 ⟨rfl, ho2, hg2⟩
      have hb2 := HCO.out.bel.grown hg2 HCO.out.bel.size fun k hk => (HCO.out.row.lt k hk).1
      have HBL := Lib.hid hb2
      have ho3 : w2.ownsRow w.heap.size 3 1 u5 ((colV now ds).mergeSort leI).length (((colV now ds).mergeSort leI).map (Value.int .i64)) := by rw [List.length_mergeSort]; exact ho2
      have HO3 := Lib.hid ho3
      have HCP := Lib.hid (compact_own ho3 (by rw [List.length_mergeSort]; have := HLE.out; omega))
      clear ho2 hg2 ho3 hb2
      go_wp2_with fail
      refine (HCP.out).mono ?_
      rintro e w3 ⟨v3, rfl, ho4, hg4⟩
      have HRES := Lib.hid (show w3.ownsRow w.heap.size 3 1 v3 (ovr s.g now).length ((ovr s.g now).map (Value.int .i64)) from by rw [HALL.out] at ho4; exact ho4)
      have HB3 := Lib.hid (HBL.out.grown hg4 HBL.out.size fun k hk => (HO3.out.lt k hk).1)
      clear ho4 hg4
      go_wp2_with fail
      go_ret
      exact ⟨_, rfl, HRES.out, HB3.out⟩
    · intro e w2 he hbn hi2 hg2 hs2 hlt2 hen
      have HCN := Lib.hid (HCO.out.next he hbn hi2 hg2)
      have HLE := Lib.hid (And.intro (colV_len now ds) (And.intro (HCO.out.met.len HR.out HOK.out) (And.intro hlt2 hs2)))
      have HSN := Lib.hid (colV_snoc now ds e)
      have hwz : w.heap.size ≤ w2.heap.size := HCN.out.bel.size
      clear he hbn hi2 hg2 hlt2 hs2
      by_cases h1 : e.til ≤ now
      · have HO : Hid (ovE now e = true) := Lib.hid (by simp [ovE, h1])
        have hc2 := HCN.out.two (.cells #[.int .i64 e.i, .int .i64 e.c] 62) (.cells #[.int .i64 e.c, .int .i64 e.i, .bool e.own, .int .i64 e.til] 40)
        have HC2 := Lib.hid hc2
        clear hc2
        go_wp2_with (at_builtin; refine wpl_appg rfl _ _ rfl rfl HC2.out.row (by simp; omega) rfl (by simp) (by have := HLE.out; omega) ?_; intro v3 w3 ho3 hg3; have HC3 := Lib.hid (HC2.out.app ho3 hg3); clear ho3 hg3)
        exact ⟨⟨_, by rw [HSN.out, HO.out]; exact HC3.out⟩, HCN.out.left HC3.out HLE.out.2.2.1⟩
      · have HO : Hid (ovE now e = false) := Lib.hid (by simp [ovE, h1])
        go_wp2_with fail
        have hc2 := HCN.out.two (.cells #[.int .i64 e.i, .int .i64 e.c] 62) (.cells #[.int .i64 e.c, .int .i64 e.i, .bool e.own, .int .i64 e.til] 40)
        exact ⟨⟨_, by rw [HSN.out, HO.out]; simpa using hc2⟩, HCN.out.left hc2 HLE.out.2.2.1⟩
end Go.Proofs.Ytpjgcpnjfopolaa
