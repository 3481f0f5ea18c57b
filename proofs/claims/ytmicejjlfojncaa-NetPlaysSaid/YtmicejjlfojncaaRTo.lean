/-
  The reference's To and Take; the same numbers.
-/
import Derived.Test.YtmicejjlfojncaaRLose
import Derived.Test.YtmicejjlfojncaaTo
namespace Go.Proofs.Ytmicejjlfojncaa
open Go.RowKit Go.Deep
set_option maxHeartbeats 1000000 in
theorem rto_any {K : Nat → Prop} {w : World} {c : Nat} {l : List (Int × List Nat)} (h : RBag w K c l) (node : Int) (hl : l.length ≤ 200) :
    Calls Try.prog 24 #[.pointer (some ⟨c, 0, none⟩), .int .i64 node] w fun e w' => ∃ v, e = .returned v ∧ w'.ownsRow w.heap.size 3 1 v (idx l node l.length).length (idx l node l.length) ∧ Below w.heap.size w w' := by
  obtain ⟨v, ps, h0, rfl⟩ := h
  have hll : (cont ps).length = ps.length := by simp [cont]
  rw [hll] at hl ⊢
  obtain ⟨A, cap, rfl, h1, h2, h3⟩ := h0.core.shape
  have H3 := Lib.hid h3
  have H0 := Lib.hid h0
  have hcl : c < w.heap.size := h0.lt c h0.kc
  have c0 : w.cell? ⟨c, 0, none⟩ = some (.slice A ps.length cap) := blk_cell h0.core.blk rfl
  clear h0 h3
  go_enter Try.func24, Try.ntmps24
  go_wp2
  go_loopw [5, 6] (fun r i wr => ∃ m : Nat, m ≤ ps.length ∧ i = .int .i64 m ∧ wr.ownsRow w.heap.size 3 1 r (idx (cont ps) node m).length (idx (cont ps) node m) ∧ Below w.heap.size w wr) (fun _ i _ => ps.length - (intOf i).toNat)
  case atStart => exact ⟨0, Nat.zero_le _, rfl, World.ownsRow_nil _ _ _ _, Below.refl _ _⟩
  case round =>
    obtain ⟨m, hm, rfl, hown, hbel⟩ := hrel
    have HB := Lib.hid hbel
    have HO := Lib.hid hown
    have hsz := hbel.size
    have c1 := (hbel.cell (p := ⟨c, 0, none⟩) hcl).trans c0
    have hle := idx_le (cont ps) node m
    clear hbel hown
    by_cases hlt : m < ps.length
    · obtain ⟨g, rfl, hgc, hgl, hcell⟩ := H3.out (by omega)
      have hmem : ps[m]? = some (ps[m]'hlt) := List.getElem?_eq_getElem _
      have hst : idx (cont ps) node (m + 1) = if (ps[m]'hlt).to = node then idx (cont ps) node m ++ [.int .i64 (m : Int)] else idx (cont ps) node m := by
        rw [idx, cont_get ps m _ hmem]
      obtain ⟨f0, f1⟩ := flat_get ps m _ hmem
      generalize ps[m]'hlt = p at *
      have d0 := ((HB.out.cell (p := ⟨g, m * 2, none⟩) hgl).trans (hcell (m * 2) (by omega))).trans f0
      have hd : ((m : Nat) : Int) < ((ps.length : Nat) : Int) := by omega
      clear hmem f0 f1 c0 hcell
      by_cases hmk : p.to = node
      · rw [if_pos hmk] at hst
        have HST := Lib.hid hst
        clear hst
        go_wp2_with (at_builtin; refine wpl_app 31 3 (.int .i64 0) 8 Try.underlying31 info3 rfl (by decide) rfl _ _ rfl rfl HO.out HB.out hsz rfl rfl (by omega) ?_; intro v' w' hown' hbel' hB'; have HO1 := Lib.hid hown'; have HB1 := Lib.hid hbel'; clear hown' hbel')
        exact ⟨⟨m + 1, by omega, by go_num, by rw [HST.out, List.length_append]; exact HO1.out, HB1.out⟩, by simp [intOf]; omega⟩
      · rw [if_neg hmk] at hst
        have HST := Lib.hid hst
        clear hst
        go_wp2
        exact ⟨⟨m + 1, by omega, by go_num, by rw [HST.out]; exact HO.out, HB.out⟩, by simp [intOf]; omega⟩
    · obtain rfl : m = ps.length := by omega
      have hnl : ¬ ((ps.length : Int) < (ps.length : Int)) := by omega
      go_wp2
      go_ret
      exact ⟨_, rfl, HO.out, HB.out⟩
set_option maxHeartbeats 1000000 in
theorem sameI_yes {w : World} {v v' : Value} {B B' : Nat} {xs : List Value} (h1 : w.ownsRow B 3 1 v xs.length xs) (h2 : w.ownsRow B' 3 1 v' xs.length xs) (hi : ∀ j, j < xs.length → ∃ z : Int, xs[j]? = some (.int .i64 z)) (hn : xs.length ≤ 1000) :
    Calls Try.prog 23 #[v, v'] w fun e w' => e = .returned (.bool true) ∧ Below w.heap.size w w' := by
  obtain ⟨A1, c1, rfl, hq1⟩ := own_shape h1
  obtain ⟨A2, c2, rfl, hq2⟩ := own_shape h2
  have HQ1 := Lib.hid hq1
  have HQ2 := Lib.hid hq2
  have HI := Lib.hid hi
  clear hq1 hq2 h1 h2 hi
  go_enter Try.func23, Try.ntmps23
  go_wp2
  go_loopw [5] (fun i wr => ∃ j : Nat, j ≤ xs.length ∧ i = .int .i64 j ∧ Below w.heap.size w wr) (fun i _ => xs.length - (intOf i).toNat)
  case atStart => exact ⟨0, Nat.zero_le _, rfl, Below.refl _ _⟩
  case round =>
    obtain ⟨j, hj, rfl, hb⟩ := hrel
    have HB := Lib.hid hb
    clear hb
    by_cases hlt : j < xs.length
    · obtain ⟨g1, rfl, _, k1, m1⟩ := HQ1.out (by omega)
      obtain ⟨g2, rfl, _, k2, m2⟩ := HQ2.out (by omega)
      obtain ⟨z, hz⟩ := HI.out j hlt
      have e1 := ((HB.out.cell (p := ⟨g1, j, none⟩) k1).trans (m1 j hlt)).trans hz
      have e2 := ((HB.out.cell (p := ⟨g2, j, none⟩) k2).trans (m2 j hlt)).trans hz
      have hd : ((j : Nat) : Int) < ((xs.length : Nat) : Int) := by omega
      clear hz m1 m2
      go_wp2
      go_quiet (fail)
      go_wp2
      exact ⟨⟨j + 1, by omega, by go_num, below_drewN HB.out _⟩, by simp [intOf]; omega⟩
    · obtain rfl : j = xs.length := by omega
      have hnl : ¬ ((xs.length : Int) < (xs.length : Int)) := by omega
      go_wp2
      go_ret
      exact ⟨rfl, HB.out⟩
end Go.Proofs.Ytmicejjlfojncaa
