/-
  Same of the reference, of texts: where they are the same.
-/
import Derived.Test.YthhcgdmpbihdnaaSame
import Derived.Test.YthhcgdmpbihdnaaNames
namespace Go.Proofs.Ythhcgdmpbihdnaa
open Go.RowKit Go.Deep
set_option maxRecDepth 100000 in
set_option maxHeartbeats 1000000 in
theorem sameT_yes {w : World} {v v' : Value} {B B' : Nat} {l : List (List UInt8)} (h1 : w.ownsRow B 9 1 v l.length (l.map encStr)) (h2 : w.ownsRow B' 9 1 v' l.length (l.map encStr)) (hn : l.length ≤ 16) :
    Calls Try.prog 29 #[v, v'] w fun e w' => e = .returned (.bool true) ∧ Below w.heap.size w w' := by
  obtain ⟨A1, c1, rfl, hq1⟩ := own_shape h1
  obtain ⟨A2, c2, rfl, hq2⟩ := own_shape h2
  have HQ1 := Lib.hid hq1
  have HQ2 := Lib.hid hq2
  clear hq1 hq2 h1 h2
  go_enter Try.func29, Try.ntmps29
  go_wp2
  go_loopw [5] (fun i wr => ∃ j : Nat, j ≤ l.length ∧ i = .int .i64 j ∧ Below w.heap.size w wr) (fun i _ => l.length - (intOf i).toNat)
  case atStart => exact ⟨0, Nat.zero_le _, rfl, Below.refl _ _⟩
  case round =>
    obtain ⟨j, hj, rfl, hb⟩ := hrel
    have HB := Lib.hid hb
    clear hb
    by_cases hlt : j < l.length
    · obtain ⟨g1, rfl, _, k1, m1⟩ := HQ1.out (by omega)
      obtain ⟨g2, rfl, _, k2, m2⟩ := HQ2.out (by omega)
      have hmem : l[j]? = some (l[j]'hlt) := List.getElem?_eq_getElem _
      have e1 := (HB.out.cell (p := ⟨g1, j, none⟩) k1).trans (m1 j hlt)
      have e2 := (HB.out.cell (p := ⟨g2, j, none⟩) k2).trans (m2 j hlt)
      rw [List.getElem?_map, hmem] at e1 e2
      generalize l[j]'hlt = y at *
      have e1' : wr.cell? ⟨g1, j, none⟩ = some (.string ⟨y.toArray⟩) := e1
      have e2' : wr.cell? ⟨g2, j, none⟩ = some (.string ⟨y.toArray⟩) := e2
      generalize (⟨y.toArray⟩ : ByteArray) = s at *
      have hd : ((j : Nat) : Int) < ((l.length : Nat) : Int) := by omega
      clear e1 e2 hmem m1 m2
      go_wp2
      go_quiet (fail)
      go_wp2
      exact ⟨⟨j + 1, by omega, by go_num, below_drewN HB.out _⟩, by simp [intOf]; omega⟩
    · obtain rfl : j = l.length := by omega
      have hnl : ¬ ((l.length : Int) < (l.length : Int)) := by omega
      go_wp2
      go_ret
      exact ⟨rfl, HB.out⟩
end Go.Proofs.Ythhcgdmpbihdnaa
