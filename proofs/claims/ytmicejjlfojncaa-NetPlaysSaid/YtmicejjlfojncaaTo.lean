/-
  To: the places of those that go to a node.
-/
import Derived.Test.YtmicejjlfojncaaBag
namespace Go.Proofs.Ytmicejjlfojncaa
open Go.RowKit Go.Deep
/-- The places among the first k of those that go to a node. -/
def idx (l : List (Int × List Nat)) (node : Int) : Nat → List Value
  | 0 => []
  | k + 1 => if (l.getD k (0, [])).1 = node then idx l node k ++ [.int .i64 (k : Int)] else idx l node k
theorem idx_le (l : List (Int × List Nat)) (node : Int) : ∀ k, (idx l node k).length ≤ k
  | 0 => Nat.le_refl _
  | k + 1 => by
    have := idx_le l node k
    unfold idx
    split <;> simp <;> omega
theorem cont_get (ps : List Pk) (k : Nat) (p : Pk) (h : ps[k]? = some p) : (cont ps).getD k (0, []) = (p.to, p.s) := by
  simp [cont, h]
theorem info3 : (Try.prog.info? 3).map (fun i => (i.zero, i.size, i.bytes)) = some (some (.int .i64 0), 1, 8) := by kernel_rfl
theorem goes_is (to node : Int) (v : Value) (b : Nat) (w : World) (hb : w.cell? ⟨b, 0, none⟩ = some (.int .i64 node)) :
    Calls Try.prog 26 #[.agg #[.int .i64 to, v], .pointer (some ⟨b, 0, none⟩)] w fun e w' => e = .returned (.bool (to == node)) ∧ Below w.heap.size w w' := by
  have hb1 := fun o => (((Below.refl w.heap.size w).alloc (Nat.le_refl _) o).cell (p := ⟨b, 0, none⟩) (World.block_lt_of_cell? _ _ hb)).trans hb
  have hb1 := fun o => (((Below.refl w.heap.size w).alloc (Nat.le_refl _) o).cell (p := ⟨b, 0, none⟩) (World.block_lt_of_cell? _ _ hb)).trans hb
  have hb1 := fun o => (((Below.refl w.heap.size w).alloc (Nat.le_refl _) o).cell (p := ⟨b, 0, none⟩) (World.block_lt_of_cell? _ _ hb)).trans hb
  go_enter Try.func26, Try.ntmps26
  go_wp2
  go_ret
  exact ⟨rfl, (Below.refl _ _).alloc (Nat.le_refl _) _⟩
theorem goes_any (node : Int) (w : World) : Calls Try.prog 17 #[.int .i64 node] w fun e w' => e = .returned (.func (.func 26) #[] #[.pointer (some ⟨w.heap.size, 0, none⟩)]) ∧ w' = w.alloc (.cells #[.int .i64 node] 3) := by
  go_enter Try.func17, Try.ntmps17
  go_wp2
  go_ret
  exact ⟨rfl, rfl⟩
theorem one_of {w : World} {p : Pk} (h : Byt w p.v p.s) : p.v.oneCell' = true := by
  obtain ⟨A, cap, h, _⟩ := h
  rw [h]
  rfl
set_option maxHeartbeats 2000000 in
theorem to_any {K : Nat → Prop} {w : World} {c : Nat} {l : List (Int × List Nat)} (h : Bag w K c l) (node : Int) (hl : l.length ≤ 1000) :
    Calls Try.prog 11 #[.pointer (some ⟨c, 0, none⟩), .int .i64 node] w fun e w' => ∃ v, e = .returned v ∧ w'.ownsRow w.heap.size 3 1 v (idx l node l.length).length (idx l node l.length) ∧ Below w.heap.size w w' := by
  obtain ⟨v, ps, h0, rfl⟩ := h
  have hcl : (cont ps).length = ps.length := by simp [cont]
  rw [hcl] at hl ⊢
  obtain ⟨A, cap, rfl, h1, h2, h3⟩ := h0.core.shape
  have c0 : w.cell? ⟨c, 0, none⟩ = some (.slice A ps.length cap) := blk_cell h0.core.blk rfl
  have c0' : ∀ o, (w.alloc o).cell? ⟨c, 0, none⟩ = some (.slice A ps.length cap) := fun o => blk_cell (blk_alloc h0.core.blk) rfl
  have hd0 := h0.data
  have HD := Lib.hid hd0
  have HG := Lib.hid h3
  have HI := Lib.hid (idx_le (cont ps) node)
  have HPS : Hid (∀ k p, ps[k]? = some p → (cont ps).getD k (0, []) = (p.to, p.s)) := Lib.hid (cont_get ps)
  have HFL := Lib.hid (flat_get ps)
  have HLEN : Hid (∀ k, k < ps.length → ∃ p, ps[k]? = some p ∧ p ∈ ps) := Lib.hid fun k hk => ⟨ps[k], by simp [hk], List.getElem_mem hk⟩
  clear hd0 h3 hcl h0
  generalize hn : ps.length = n at *
  have HN := Lib.hid hn
  clear hn
  go_enter Try.func11, Try.ntmps11
  go_wp2_with (go_at_call 17; refine (goes_any node _).mono ?_; rintro e w7 ⟨rfl, rfl⟩)
  have hbx : Below w.heap.size w (w.alloc (.cells #[.int .i64 node] 3)) := (Below.refl _ _).alloc (Nat.le_refl _) _
  have hbox : (w.alloc (.cells #[.int .i64 node] 3)).heap[w.heap.size]? = some (.cells #[.int .i64 node] 3 (0, 0)) := heap_alloc_new _ _
  have hsz : w.heap.size < (w.alloc (.cells #[.int .i64 node] 3)).heap.size := blk_lt hbox
  generalize w.alloc (.cells #[.int .i64 node] 3) = w1 at *
  have HBX := Lib.hid hbx
  have HBOX := Lib.hid hbox
  clear hbx hbox
  go_loopw [5, 16] (fun v i wr => ∃ k : Nat, k ≤ n ∧ i = .int .i64 k ∧ wr.ownsRow w1.heap.size 3 1 v (idx (cont ps) node k).length (idx (cont ps) node k) ∧ Below w1.heap.size w1 wr) (fun _ i _ => n - (intOf i).toNat)
  case atStart => exact ⟨0, Nat.zero_le _, rfl, World.ownsRow_nil _ _ _ _, Below.refl _ _⟩
  case round =>
    obtain ⟨k, hk, rfl, hown, hbel⟩ := hrel
    have hB := hbel.size
    have hle := HI.out k
    by_cases hlt : k < n
    · have hd : decide ((k : Int) < (n : Int)) = true := by simp; omega
      obtain ⟨p, hp, hmem⟩ := HLEN.out k hlt
      obtain ⟨g, rfl, hg1, hg2, hrow⟩ := HG.out (by omega)
      have r0 := hrow (k * 2) (by omega)
      have r1 := hrow (k * 2 + 1) (by omega)
      rw [(HFL.out k p hp).1] at r0
      rw [(HFL.out k p hp).2] at r1
      have hgw1 : g < w1.heap.size := by omega
      have s0 := (hbel.cell (p := ⟨g, k * 2, none⟩) hgw1).trans ((HBX.out.cell (p := ⟨g, k * 2, none⟩) hg2).trans r0)
      have s1 := (hbel.cell (p := ⟨g, k * 2 + 1, none⟩) hgw1).trans ((HBX.out.cell (p := ⟨g, k * 2 + 1, none⟩) hg2).trans r1)
      obtain ⟨A2, cap2, hpv, _⟩ := (HD.out p hmem).1
      rw [hpv] at s1
      have hbx1 := blk_below hbel hsz HBOX.out
      have hbn : ∀ o, (wr.alloc o).cell? ⟨w.heap.size, 0, none⟩ = some (.int .i64 node) := fun o => blk_cell (blk_alloc hbx1) rfl
      have hal := fun o => below_then' hbel hB ((Below.refl wr.heap.size wr).alloc (Nat.le_refl _) o)
      have hoa := fun o => hown.alloc o
      have hst : idx (cont ps) node (k + 1) = if p.to = node then idx (cont ps) node k ++ [.int .i64 (k : Int)] else idx (cont ps) node k := by
        rw [idx, HPS.out k p hp]
      generalize hm : p.s.length = m2 at *
      generalize p.to = t at *
      have HHM := Lib.hid hm
      have HGO := Lib.hid fun o => goes_is t node (.slice A2 m2 cap2) w.heap.size _ (hbn o)
      have HAL := Lib.hid hal
      have HOA := Lib.hid hoa
      by_cases htn : t = node
      · have hdn : (t == node) = true := by simpa using htn
        rw [if_pos htn] at hst
        have HST := Lib.hid hst
        clear hm hpv r0 r1 hrow hp hmem hbn hbx1 hst htn hal hoa hbel hown
        go_wp2_with (first
          | (go_at_call 26; refine (HGO.out _).mono ?_; rintro e w2 ⟨rfl, hb2⟩; have hown1 := own_below (HOA.out _) hb2; have hbel1 := below_then' (HAL.out _) (by simp; omega) hb2; have hB1 := hbel1.size)
          | (at_builtin; refine wpl_app 31 3 (.int .i64 0) 8 Try.underlying31 info3 rfl (by decide) rfl _ _ rfl rfl hown1 hbel1 hB1 rfl rfl (by omega) ?_; intro v' w' hown' hbel' hB'))
        exact ⟨⟨k + 1, by omega, by go_num, by rw [HST.out]; simpa using hown', hbel'⟩, by simp [intOf]; omega⟩
      · have hdn : (t == node) = false := by simpa using htn
        rw [if_neg htn] at hst
        have HST := Lib.hid hst
        clear hm hpv r0 r1 hrow hp hmem hbn hbx1 hst htn hal hoa hbel hown
        go_wp2_with (go_at_call 26; refine (HGO.out _).mono ?_; rintro e w2 ⟨rfl, hb2⟩; have hown1 := own_below (HOA.out _) hb2; have hbel1 := below_then' (HAL.out _) (by simp; omega) hb2; have hB1 := hbel1.size)
        exact ⟨⟨k + 1, by omega, by go_num, by rw [HST.out]; exact hown1, hbel1⟩, by simp [intOf]; omega⟩
    · obtain rfl : n = k := by omega
      have hd : decide ((n : Int) < (n : Int)) = false := by simp
      have hfin := HBX.out.trans (hbel.mono (by omega))
      have ho2 := own_mono hown (show w.heap.size ≤ w1.heap.size by omega)
      clear hbel hown
      go_wp2
      go_ret
      exact ⟨_, rfl, ho2, hfin⟩
end Go.Proofs.Ytmicejjlfojncaa
