/-
  The reference's Drop of any place; its Lose.
-/
import Derived.Test.YtmicejjlfojncaaRDrop
namespace Go.Proofs.Ytmicejjlfojncaa
open Go.RowKit Go.Deep
set_option maxHeartbeats 1000000 in
theorem rdrop_any {K : Nat → Prop} {w : World} {c : Nat} {l : List (Int × List Nat)} (h : RBag w K c l) (hl : l.length ≤ 200) (k : Int) :
    Calls Try.prog 20 #[.pointer (some ⟨c, 0, none⟩), .int .i64 k] w fun e w' => e = .returned (.bool (inBag k l.length)) ∧
      ∃ K', RBag w' K' c (if inBag k l.length then l.eraseIdx k.toNat else l) ∧ Fr K w w' ∧ ∀ x, K' x → K x ∨ w.heap.size ≤ x := by
  obtain ⟨v, ps, h0, rfl⟩ := h
  have hll : (cont ps).length = ps.length := by simp [cont]
  rw [hll] at hl ⊢
  by_cases hk : 0 ≤ k ∧ k < ps.length
  · obtain ⟨j, rfl⟩ := Int.eq_ofNat_of_zero_le hk.1
    have hj : j < ps.length := by omega
    have hi : inBag (j : Int) ps.length = true := by unfold inBag; simp; omega
    rw [hi]
    exact rdrop_in h0 hl j hj
  · have hi : inBag k ps.length = false := by unfold inBag; simp; omega
    rw [hi]
    have H : Hid (RBag w K c (cont ps)) := Lib.hid ⟨v, ps, h0, rfl⟩
    obtain ⟨A, cap, rfl, h1, h2, h3⟩ := h0.core.shape
    have c0 : w.cell? ⟨c, 0, none⟩ = some (.slice A ps.length cap) := blk_cell h0.core.blk rfl
    clear h0 h3 hi
    generalize ps.length = n at *
    have hor : k < 0 ∨ (0 ≤ k ∧ (n : Int) ≤ k) := by omega
    clear hk
    rcases hor with k1 | ⟨k1, k2⟩
    all_goals
      go_enter Try.func20, Try.ntmps20
      go_wp2
      go_ret
      exact ⟨rfl, K, H.out, Fr.refl _ _, fun x hx => .inl hx⟩
set_option maxHeartbeats 1000000 in
theorem rlose_any {K : Nat → Prop} {w : World} {c : Nat} {l : List (Int × List Nat)} (h : RBag w K c l) (hl : l.length ≤ 200) (node : Int) :
    Calls Try.prog 22 #[.pointer (some ⟨c, 0, none⟩), .int .i64 node] w fun e w' => e = .returned (.tuple #[]) ∧
      ∃ K', RBag w' K' c (l.filter fun p => p.1 != node) ∧ Fr K w w' ∧ ∀ x, K' x → K x ∨ w.heap.size ≤ x := by
  obtain ⟨v, ps, h0, rfl⟩ := h
  have hll : (cont ps).length = ps.length := by simp [cont]
  rw [hll] at hl
  obtain ⟨A, cap, rfl, h1, h2, h3⟩ := h0.core.shape
  have H3 := Lib.hid h3
  have H0 := Lib.hid h0
  have hcl : c < w.heap.size := h0.lt c h0.kc
  have c0 : w.cell? ⟨c, 0, none⟩ = some (.slice A ps.length cap) := blk_cell h0.core.blk rfl
  clear h0 h3
  go_enter Try.func22, Try.ntmps22
  go_wp2
  go_loopw [4, 5] (fun r i wr => ∃ m : Nat, m ≤ ps.length ∧ i = .int .i64 m ∧ wr.ownsRow w.heap.size 57 2 r (keep (fun _ p => p.to != node) ps m).length (flat (keep (fun _ p => p.to != node) ps m)) ∧ Below w.heap.size w wr) (fun _ i _ => ps.length - (intOf i).toNat)
  case atStart => exact ⟨0, Nat.zero_le _, rfl, World.ownsRow_nil _ _ _ _, Below.refl _ _⟩
  case round =>
    obtain ⟨m, hm, rfl, hown, hbel⟩ := hrel
    have HB := Lib.hid hbel
    have HO := Lib.hid hown
    have hsz := hbel.size
    have c1 := (hbel.cell (p := ⟨c, 0, none⟩) hcl).trans c0
    have hkp := keep_len (fun _ p => p.to != node) ps m
    obtain ⟨Ar, cr, rfl⟩ := own_shape2 hown
    clear hbel hown
    by_cases hlt : m < ps.length
    · obtain ⟨g, rfl, hgc, hgl, hcell⟩ := H3.out (by omega)
      have hmem : ps[m]? = some (ps[m]'hlt) := List.getElem?_eq_getElem _
      have hst := keep_succ (fun _ p => p.to != node) ps m _ hmem
      obtain ⟨f0, f1⟩ := flat_get ps m _ hmem
      have hpm := List.mem_of_getElem? hmem
      have hpv := H0.out.data _ hpm
      generalize ps[m]'hlt = p at *
      rw [hpv] at f1
      have d0 := ((HB.out.cell (p := ⟨g, m * 2, none⟩) hgl).trans (hcell (m * 2) (by omega))).trans f0
      have d1 := ((HB.out.cell (p := ⟨g, m * 2 + 1, none⟩) hgl).trans (hcell (m * 2 + 1) (by omega))).trans f1
      have HPV := Lib.hid hpv
      have HFL : Hid (∀ qs : List Pk, flat (qs ++ [p]) = flat qs ++ [.int .i64 p.to, .string (str p.s)]) := Lib.hid fun qs => by rw [flat_app]; simp [flat, HPV.out]
      have hd : ((m : Nat) : Int) < ((ps.length : Nat) : Int) := by omega
      clear hmem f0 f1 hpm hpv c0 hcell
      by_cases hmk : p.to = node
      · have HST : Hid (keep (fun _ p => p.to != node) ps (m + 1) = keep (fun _ p => p.to != node) ps m) := Lib.hid (by rw [hst]; simp [hmk])
        clear hst
        go_wp2
        exact ⟨⟨m + 1, by omega, by go_num, by rw [HST.out]; exact HO.out, HB.out⟩, by simp [intOf]; omega⟩
      · have HST : Hid (keep (fun _ p => p.to != node) ps (m + 1) = keep (fun _ p => p.to != node) ps m ++ [p]) := Lib.hid (by rw [hst]; simp [hmk])
        clear hst
        go_wp2_with (at_builtin; refine wpl_appr rfl _ _ rfl rfl HO.out rfl rfl rfl rfl (by omega) hsz ?_; intro v' w' hown' hgr'; have HO1 := Lib.hid hown'; have HG1 := Lib.hid (HB.out.grown hgr' hsz (fun b hb => (HO.out.lt b hb).1)); clear hown' hgr')
        exact ⟨⟨m + 1, by omega, by go_num, by rw [HST.out, HFL.out, List.length_append]; exact HO1.out, HG1.out⟩, by simp [intOf]; omega⟩
    · obtain rfl : m = ps.length := by omega
      have hnl : ¬ ((ps.length : Int) < (ps.length : Int)) := by omega
      have hb3 := blk_below HB.out hcl H0.out.core.blk
      have f3 : wr.frozen? ⟨c, 0, none⟩ = false := frozen_of_row _ _ _ _ _ hb3
      have HSW := Lib.hid (H0.out.swapped HB.out HO.out (keep_mem _ _ _))
      have HE := Lib.hid (keep_filter (fun p => p.to != node) ps ps.length)
      have HOL := Lib.hid fun x => HO.out.lt x
      have HCF : Hid (cont (ps.filter fun p => p.to != node) = (cont ps).filter fun p => p.1 != node) := Lib.hid (by unfold cont; rw [List.filter_map]; rfl)
      clear hb3 c0
      go_wp2
      go_end0
      refine ⟨rfl, _, ⟨_, _, HSW.out.1, by rw [HE.out, List.take_length]; exact HCF.out⟩, HSW.out.2, ?_⟩
      rintro x (rfl | hx)
      · exact .inl H0.out.kc
      · exact .inr (HOL.out x hx).1
end Go.Proofs.Ytmicejjlfojncaa
