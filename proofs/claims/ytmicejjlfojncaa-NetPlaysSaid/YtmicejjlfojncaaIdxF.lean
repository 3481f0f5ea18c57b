/-
  slices.IndexFunc over packets, with the closure of goes.
-/
import Derived.Test.YtmicejjlfojncaaTo
namespace Go.Proofs.Ytmicejjlfojncaa
open Go.RowKit Go.Deep
set_option maxHeartbeats 1000000 in
theorem indexF_any {w : World} {A : Option Addr} {cap : Nat} {ps : List Pk} {b : Nat} {node : Int} (hn : ps.length ≤ 1000) (hbw : b < w.heap.size) (hb : w.cell? ⟨b, 0, none⟩ = some (.int .i64 node))
    (hcell : 0 < ps.length → ∃ g, A = some ⟨g, 0, none⟩ ∧ g < w.heap.size ∧ ∀ j, j < ps.length * 2 → w.cell? ⟨g, j, none⟩ = (flat ps)[j]?) (hone : ∀ p ∈ ps, ∃ A c, p.v = .slice A p.s.length c) :
    Calls Try.prog 28 #[.slice A ps.length cap, .func (.func 26) #[] #[.pointer (some ⟨b, 0, none⟩)]] w fun e w' => Below w.heap.size w w' ∧
      ((e = .returned (.int .i64 (-1)) ∧ ∀ p ∈ ps, p.to ≠ node) ∨ ∃ i p, e = .returned (.int .i64 (i : Nat)) ∧ ps[i]? = some p ∧ p.to = node ∧ ∀ j q, j < i → ps[j]? = some q → q.to ≠ node) := by
  have HC := Lib.hid hcell
  have HO := Lib.hid hone
  clear hcell hone
  go_enter Try.func28, Try.ntmps28
  go_wp2
  go_loopw [5, 8] (fun _ i wr => ∃ m : Nat, m ≤ ps.length ∧ i = .int .i64 m ∧ (∀ j q, j < m → ps[j]? = some q → q.to ≠ node) ∧ Below w.heap.size w wr) (fun _ i _ => ps.length - (intOf i).toNat)
  case atStart => exact ⟨0, Nat.zero_le _, rfl, (fun j q h => by omega), Below.refl _ _⟩
  case round =>
    obtain ⟨m, hm, rfl, hno, hbel⟩ := hrel
    have HB := Lib.hid hbel
    have HN := Lib.hid hno
    have hbn := (hbel.cell (p := ⟨b, 0, none⟩) hbw).trans hb
    clear hbel hno
    by_cases hlt : m < ps.length
    · obtain ⟨g, rfl, hgl, hcell⟩ := HC.out (by omega)
      have hmem : ps[m]? = some (ps[m]'hlt) := List.getElem?_eq_getElem _
      obtain ⟨f0, f1⟩ := flat_get ps m _ hmem
      obtain ⟨A2, c2, hpv⟩ := HO.out _ (List.mem_of_getElem? hmem)
      have HMEM := Lib.hid hmem
      generalize ps[m]'hlt = p at *
      rw [hpv] at f1
      have d0 := ((HB.out.cell (p := ⟨g, m * 2, none⟩) hgl).trans (hcell (m * 2) (by omega))).trans f0
      have d1 := ((HB.out.cell (p := ⟨g, m * 2 + 1, none⟩) hgl).trans (hcell (m * 2 + 1) (by omega))).trans f1
      have hd : ((m : Nat) : Int) < ((ps.length : Nat) : Int) := by omega
      have HGO := Lib.hid (goes_is p.to node (.slice A2 p.s.length c2) b wr hbn)
      clear hmem f0 f1 hcell hpv hbn
      by_cases hk : p.to = node
      · have hkk : (p.to == node) = true := by simpa using hk
        have HK := Lib.hid hk
        rw [hkk] at HGO
        clear hk hkk
        generalize hto : p.to = to at *
        have HTO := Lib.hid hto
        clear hto
        generalize p.s.length = sl at *
        go_wp2_with (go_at_call 26; refine (HGO.out).mono ?_; rintro e w2 ⟨rfl, hb2⟩; have HB2 := Lib.hid (below_then HB.out hb2); clear hb2)
        go_ret
        exact ⟨HB2.out, .inr ⟨m, p, rfl, HMEM.out, HTO.out.trans HK.out, HN.out⟩⟩
      · have hkk : (p.to == node) = false := by simpa using hk
        have HK := Lib.hid hk
        rw [hkk] at HGO
        clear hk hkk
        generalize hto : p.to = to at *
        have HTO := Lib.hid hto
        clear hto
        generalize p.s.length = sl at *
        go_wp2_with (go_at_call 26; refine (HGO.out).mono ?_; rintro e w2 ⟨rfl, hb2⟩; have HB2 := Lib.hid (below_then HB.out hb2); clear hb2)
        refine ⟨⟨m + 1, by omega, by go_num, fun j q hj hq => ?_, HB2.out⟩, by simp [intOf]; omega⟩
        by_cases hjm : j = m
        · subst hjm
          rw [HMEM.out] at hq
          injection hq with hq
          subst hq
          rw [HTO.out]
          exact HK.out
        · exact HN.out j q (by omega) hq
    · obtain rfl : m = ps.length := by omega
      have hnl : ¬ ((ps.length : Int) < (ps.length : Int)) := by omega
      go_wp2
      go_ret
      refine ⟨HB.out, .inl ⟨rfl, fun p hp => ?_⟩⟩
      obtain ⟨j, hj⟩ := List.getElem?_of_mem hp
      exact HN.out j p (List.getElem?_eq_some_iff.1 hj).1 hj
end Go.Proofs.Ytmicejjlfojncaa
