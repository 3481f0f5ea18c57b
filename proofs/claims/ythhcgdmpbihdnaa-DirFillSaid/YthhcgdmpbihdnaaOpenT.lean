/-
  The argument: a slice of texts.
-/
import Derived.Test.YthhcgdmpbihdnaaFill
import Derived.SliceStrings
namespace Go.Proofs.Ythhcgdmpbihdnaa
open Go.ChangeShapes Go.WideShapes Go.ChangeAt Go.RowKit Go.Deep
theorem open_txt {H : Type} {enc : TypeId × Value → H} {W : World} {b0 : Nat} {sp : Nat → Bool} {held : Bool} {v : Value} {d : DataW H} {p : List MemPlace}
    (hv : Value.okWide Try.prog W .any b0 52 v) (h : DataW.Trod enc Try.prog W 0 sp held 52 v d p) : ∃ f n, Txt W v f n := by
  obtain ⟨A0, n0, c0, rfl⟩ := okWide_slice Try.underlying52 hv
  obtain ⟨fuel, hf⟩ := h
  rcases open_strings Try.underlying52 Try.underlying9 (by kernel_rfl) hf with ⟨hcs, _⟩ | ⟨a, len, cap, ss, hcs, _, hl, hm, hz, _, hc, hsz⟩
  · simp [Value.cells] at hcs
    obtain ⟨rfl, rfl, rfl⟩ := hcs
    exact ⟨fun _ => ByteArray.empty, 0, none, 0, rfl, by omega, fun _ => by show ByteArray.empty.size ≤ _; decide, fun h => absurd h (Nat.lt_irrefl 0)⟩
  · simp [Value.cells] at hcs
    obtain ⟨rfl, rfl, rfl⟩ := hcs
    have hlm : n0 ≤ ss.length := by rw [hz]; split <;> omega
    refine ⟨fun i => ss.getD i ByteArray.empty, n0, some a, c0, rfl, ?_, fun i => ?_, fun h0 => ?_⟩
    · unfold maxLen at hm; omega
    · by_cases hi : i < ss.length
      · have h1 : ss.getD i ByteArray.empty = ss[i] := by simp [List.getD, hi]
        show (ss.getD i ByteArray.empty).size ≤ _
        rw [h1]
        have := hsz _ (List.getElem_mem hi)
        unfold maxLen at this
        exact this
      · have h1 : ss.getD i ByteArray.empty = ByteArray.empty := by simp [List.getD, Nat.le_of_not_lt hi]
        show (ss.getD i ByteArray.empty).size ≤ _
        rw [h1]
        decide
    · obtain ⟨b, off, spot⟩ := a
      have c0' := hc 0 (by omega)
      have hs : spot = none := by simpa [Addr.add] using World.cell?_spot c0'
      subst hs
      have hadd := add_lit' b off
      rw [hadd] at c0'
      refine ⟨b, off, rfl, World.block_lt_of_cell? _ _ c0', fun i hi => ?_⟩
      have g0 := hc i (by omega)
      rw [hadd] at g0
      exact g0
end Go.Proofs.Ythhcgdmpbihdnaa
