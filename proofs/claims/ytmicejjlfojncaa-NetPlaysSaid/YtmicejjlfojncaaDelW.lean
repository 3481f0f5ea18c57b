/-
  slices.DeleteFunc over packets: its walk.
-/
import Derived.Test.YtmicejjlfojncaaDelF
namespace Go.Proofs.Ytmicejjlfojncaa
open Go.RowKit Go.Deep
set_option maxHeartbeats 2000000 in
theorem delF_any {w : World} {g n cap b : Nat} {node : Int} {cur : Array Value} {ps : List Pk} (hg : w.heap[g]? = some (.cells cur 49 (0, 0))) (hs : cur.size = cap * 2) (hn : n ≤ cap)
    (ht : cur.toList.take (n * 2) = flat ps) (hps : ps.length = n) (hn2 : n ≤ 1000) (hbg : b ≠ g) (hb : w.heap[b]? = some (.cells #[.int .i64 node] 3 (0, 0))) (hone : ∀ p ∈ ps, ∃ A c, p.v = .slice A p.s.length c) :
    Calls Try.prog 27 #[.slice (some ⟨g, 0, none⟩) n cap, .func (.func 26) #[] #[.pointer (some ⟨b, 0, none⟩)]] w fun e w' => ∃ cur', e = .returned (.slice (some ⟨g, 0, none⟩) (lef node ps n).length cap) ∧
      w'.heap[g]? = some (.cells cur' 49 (0, 0)) ∧ cur'.size = cap * 2 ∧ cur'.toList.take ((lef node ps n).length * 2) = flat (lef node ps n) ∧ w.grownBy w' (some g) := by
  have hgl := blk_lt hg
  have hbl := blk_lt hb
  have hfl := flat_len ps
  rw [hps] at hfl
  have hcur : ∀ j, j < n * 2 → cur[j]? = (flat ps)[j]? := fun j hj => by
    rw [← ht, List.getElem?_take, if_pos hj, Array.getElem?_toList]
  have hIX := indexF_any (w := w) (A := some ⟨g, 0, none⟩) (cap := cap) (ps := ps) (node := node) (by omega) hbl (blk_cell hb rfl)
    (fun _ => ⟨g, rfl, hgl, fun j hj => by rw [cell_of_row w g j cur 49 (0, 0) hg]; exact hcur j (by omega)⟩) hone
  rw [hps] at hIX
  have HIX := Lib.hid hIX
  have HONE := Lib.hid hone
  have HCUR := Lib.hid hcur
  have HT := Lib.hid ht
  clear hIX hone hcur ht
  go_enter Try.func27, Try.ntmps27
  go_wp2_with fail
  refine (HIX.out).mono ?_
  rintro e w1 ⟨hb1, ⟨rfl, hno⟩ | ⟨i0, p0, rfl, hp0, hto0, hno⟩⟩
  · have hall := lef_all node ps n (fun j q _ hq => hno q (List.mem_of_getElem? hq))
    have HALL : Hid (lef node ps n = ps) := Lib.hid (by rw [hall, ← hps, List.take_length])
    have hg1 := blk_below hb1 hgl hg
    have HF : Hid (w.grownBy w1 (some g)) := Lib.hid ⟨hb1.os, hb1.tape, hb1.output, hb1.size, fun k hk _ => hb1.block k hk⟩
    clear hno hall hb1
    go_wp2
    go_ret
    exact ⟨cur, by rw [HALL.out, hps]; rfl, hg1, hs, by rw [HALL.out, hps]; exact HT.out, HF.out⟩
  · have hi0 : i0 < n := by have := (List.getElem?_eq_some_iff.1 hp0).1; omega
    have hg1 := blk_below hb1 hgl hg
    have HF1 : Hid (w.grownBy w1 (some g)) := Lib.hid ⟨hb1.os, hb1.tape, hb1.output, hb1.size, fun k hk _ => hb1.block k hk⟩
    have hne1 : ((i0 : Int) == -1) = false := by simp <;> omega
    have hL0 : lef node ps (i0 + 1) = ps.take i0 := by rw [lef_succ node ps i0 p0 hp0, lef_all node ps i0 hno, if_pos hto0, List.append_nil]
    have hL1 : (lef node ps (i0 + 1)).length = i0 := by rw [hL0]; simp; omega
    have HL := Lib.hid (And.intro hL0 hL1)
    clear hno hL0 hL1 hb1 hp0 hto0
    go_wp2
    go_loopw [5, 6, 7] (fun i j _ wr => ∃ m L : Nat, m ≤ n ∧ L < m ∧ (lef node ps m).length = L ∧ j = .int .i64 m ∧ i = .int .i64 L ∧ Del w g n cap node ps m wr) (fun _ j _ _ => n - (intOf j).toNat)
    case atStart =>
      refine ⟨i0 + 1, i0, hi0, by omega, HL.out.2, by go_num, rfl, HF1.out, cur, hg1, hs, ?_, fun t _ h => HCUR.out t h⟩
      rw [HL.out.2, HL.out.1, flat_take, ← HT.out, List.take_take]
      congr 1
      omega
    case round =>
      obtain ⟨m, L, hmn, hlm, hL, rfl, rfl, hdel⟩ := hrel
      have HD := Lib.hid hdel
      have HLL := Lib.hid hL
      obtain ⟨hgr, cr, hgc, hcs, hct, hcr⟩ := hdel
      have hgl' : g < wr.heap.size := blk_lt hgc
      have hbk : wr.heap[b]? = some (.cells #[.int .i64 node] 3 (0, 0)) := by rw [hgr.block b hbl (by simpa using hbg), hb]
      clear hL hct HF1 HL hg1
      by_cases hlt : m < n
      · have hmem : ps[m]? = some (ps[m]'(by omega)) := List.getElem?_eq_getElem _
        obtain ⟨f0, f1⟩ := flat_get ps m _ hmem
        obtain ⟨A2, c2, hpv⟩ := HONE.out _ (List.mem_of_getElem? hmem)
        have HMEM := Lib.hid hmem
        generalize ps[m]'(by omega) = p at *
        have HPV := Lib.hid hpv
        rw [hpv] at f1
        have d0 := (cell_of_row wr g (m * 2) cr 49 (0, 0) hgc).trans ((hcr (m * 2) (by omega) (by omega)).trans f0)
        have d1 := (cell_of_row wr g (m * 2 + 1) cr 49 (0, 0) hgc).trans ((hcr (m * 2 + 1) (by omega) (by omega)).trans f1)
        have hd : ((m : Nat) : Int) < ((n : Nat) : Int) := by omega
        obtain ⟨o0, ho0⟩ : ∃ o0, cr[L * 2]? = some o0 := ⟨_, Array.getElem?_eq_getElem (by omega)⟩
        obtain ⟨o1, ho1⟩ : ∃ o1, cr[L * 2 + 1]? = some o1 := ⟨_, Array.getElem?_eq_getElem (by omega)⟩
        have hbo : ∀ o, (wr.alloc o).cell? ⟨b, 0, none⟩ = some (.int .i64 node) := fun o => blk_cell (blk_alloc hbk) rfl
        have HGO := Lib.hid fun o => goes_is p.to node (.slice A2 p.s.length c2) b _ (hbo o)
        have HGC := Lib.hid (And.intro hgc (And.intro ho0 ho1))
        clear hmem f0 f1 hpv hcr hgr hgc ho0 ho1 hbk hbo hcs
        by_cases hk : p.to = node
        · have hkk : (p.to == node) = true := by simpa using hk
          have HN := Lib.hid (HD.out.drop HMEM.out hk)
          rw [hkk] at HGO
          clear hk hkk
          generalize p.to = to at *
          generalize p.s.length = sl at *
          go_wp2_with (go_at_call 26; refine (HGO.out _).mono ?_; rintro e w2 ⟨rfl, hb2⟩; have HB2 := Lib.hid (below_new hb2); clear hb2)
          refine ⟨⟨m + 1, L, by omega, by omega, by rw [HN.out.2]; exact HLL.out, by go_num, rfl, HN.out.1.below HB2.out⟩, by simp [intOf]; omega⟩
        · have hkk : (p.to == node) = false := by simpa using hk
          have HK := Lib.hid hk
          rw [hkk] at HGO
          clear hk hkk
          generalize hto : p.to = to at *
          have HTO := Lib.hid hto
          clear hto
          generalize p.s.length = sl at *
          go_wp2_with (go_at_call 26; refine (HGO.out _).mono ?_; rintro e w2 ⟨rfl, hb2⟩; have HB2 := Lib.hid (below_new hb2); have hbx := blk_new hb2; have x0 := blk_cell (j := 0) hbx rfl; have x1 := blk_cell (j := 1) hbx rfl; have hgk := blk_below HB2.out hgl' HGC.out.1; have s0 := blk_cell hgk HGC.out.2.1; have s1 := blk_cell hgk HGC.out.2.2; have z0 := frozen_of_row w2 g (L * 2) _ _ hgk; have z1 := frozen_of_row w2 g (L * 2 + 1) _ _ hgk; clear hb2 hbx hgk)
          have hkp := (HD.out.below HB2.out).keep HMEM.out (by rw [HTO.out]; exact HK.out) HLL.out hlm hlt hn
          rw [HTO.out, HPV.out] at hkp
          refine ⟨⟨m + 1, L + 1, by omega, by omega, hkp.2, by go_num, by go_num, hkp.1⟩, by simp [intOf]; omega⟩
      · obtain rfl : m = n := by omega
        obtain ⟨zs, hzl, hcl⟩ := run_clear_many wr g (L * 2) (m - L) (cap - L) (by omega) (fun j hj => by rw [cell_of_row wr g _ cr 49 (0, 0) hgc, Array.getElem?_eq_getElem (by omega)]; rfl) (fun j hj => frozen_of_row _ _ _ _ _ hgc)
        have hgf := blk_setCells zs (L * 2) wr cr hgc
        have hgw := grown_setCells zs (L * 2) wr hgr
        have hct := HD.out.2
        obtain ⟨cr', k1, k2, k3, k4⟩ := hct
        obtain rfl : cr' = cr := by rw [hgc] at k1; injection k1 with k1; injection k1 with k1; exact k1.symm
        have hend : (Lib.lay cr' (L * 2) zs).size = cap * 2 ∧ (Lib.lay cr' (L * 2) zs).toList.take (L * 2) = flat (lef node ps m) := by
          refine ⟨by rw [Lib.lay_size]; exact hcs, ?_⟩
          rw [← k3, HLL.out]
          apply List.ext_getElem?
          intro t
          rw [List.getElem?_take, List.getElem?_take, Array.getElem?_toList, Array.getElem?_toList]
          by_cases c1 : t < L * 2
          · rw [if_pos c1, if_pos c1, Lib.lay_get? _ _ _ _ (by omega), if_neg (by omega)]
          · rw [if_neg c1, if_neg c1]
        have HE := Lib.hid (And.intro hgf (And.intro hgw hend))
        have hcap : ¬ cap = L := by omega
        have hLm : L ≤ m := by omega
        have hLc : L ≤ cap := by omega
        clear hgf hgw hend k1 k2 k3 k4 hgr hgc hcs hbk hfl hzl
        go_wp2
        go_ret
        exact ⟨_, by rw [HLL.out]; rfl, HE.out.1, HE.out.2.2.1, by rw [HLL.out]; exact HE.out.2.2.2, HE.out.2.1⟩
/-- .. of none at all. -/
theorem delF_none {w : World} {b : Nat} {node : Int} (hb : w.heap[b]? = some (.cells #[.int .i64 node] 3 (0, 0))) :
    Calls Try.prog 27 #[.slice none 0 0, .func (.func 26) #[] #[.pointer (some ⟨b, 0, none⟩)]] w fun e w' => e = .returned (.slice none 0 0) ∧ Below w.heap.size w w' := by
  have hIX := indexF_any (w := w) (A := none) (cap := 0) (ps := []) (node := node) (by simp) (blk_lt hb) (blk_cell hb rfl) (fun h => by simp at h) (fun p h => by simp at h)
  have HIX := Lib.hid hIX
  clear hIX
  go_enter Try.func27, Try.ntmps27
  go_wp2_with fail
  refine (HIX.out).mono ?_
  rintro e w1 ⟨hb1, ⟨rfl, _⟩ | ⟨i0, p0, rfl, hp0, _⟩⟩
  · have HB := Lib.hid hb1
    clear hb1
    go_wp2
    go_ret
    exact ⟨rfl, HB.out⟩
  · simp at hp0
end Go.Proofs.Ytmicejjlfojncaa
