/-
  The arguments: a slice of entries; an entry; bytes.
-/
import Derived.Test.YthhcgdmpbihdnaaLives
import Derived.Deep.SlicePairs
import Derived.ChangeMaps5
namespace Go.Proofs.Ythhcgdmpbihdnaa
open Go.ChangeShapes Go.WideShapes Go.ChangeAt Go.RowKit Go.Deep
def nameOf : Value → ByteArray
  | .string s => s
  | _ => noName
def inoOf : Value → Int
  | .int _ n => n
  | _ => 0
theorem add_lit' (b off j : Nat) : (⟨b, off, none⟩ : Addr).add j = ⟨b, off + j, none⟩ := by unfold Addr.add; split <;> simp_all
theorem open_ents {H : Type} {enc : TypeId × Value → H} {W : World} {b0 : Nat} {sp : Nat → Bool} {held : Bool} {v : Value} {d : DataW H} {p : List MemPlace}
    (hv : Value.okWide Try.prog W .any b0 22 v) (h : DataW.Trod enc Try.prog W 0 sp held 22 v d p) : ∃ f n, Inp W v f n := by
  obtain ⟨A0, n0, c0, rfl⟩ := okWide_slice Try.underlying22 hv
  obtain ⟨fuel, hf⟩ := h
  rcases open_slice_pairs Try.underlying22 Try.underlying24 (by kernel_rfl) rfl rfl (by kernel_rfl) (by kernel_rfl) hf with ⟨hcs, _⟩ | ⟨x, l, c, m, k, V0, V1, D0, D1, P0, P1, hcs, _, hl, hm, hmm, _, hc⟩
  · simp [Value.cells] at hcs
    obtain ⟨rfl, rfl, rfl⟩ := hcs
    exact ⟨fun _ => ent0, 0, none, 0, rfl, Nat.le_refl _, Nat.zero_le _, fun _ => by show noName.size ≤ _; decide, fun h => absurd h (Nat.lt_irrefl 0)⟩
  · simp [Value.cells] at hcs
    obtain ⟨rfl, rfl, rfl⟩ := hcs
    have hlm : n0 ≤ m := by rw [hmm]; split <;> omega
    have hV : ∀ i, i < n0 → V0 i = .string (nameOf (V0 i)) ∧ (nameOf (V0 i)).size ≤ maxLen ∧ V1 i = .int .i64 (inoOf (V1 i)) := fun i hi => by
      obtain ⟨_, _, t0, t1⟩ := hc i (by omega)
      obtain ⟨s, e1, _, e2⟩ := DataW.trod_string (by exact Try.underlying9) t0
      obtain ⟨z, e3, _, _⟩ := DataW.trod_int (k := .i64) (by exact Try.underlying3) t1
      injection e1 with e1
      injection e3 with e3
      rw [e1, e3]
      exact ⟨rfl, e2, rfl⟩
    refine ⟨fun i => if i < n0 then ⟨nameOf (V0 i), inoOf (V1 i)⟩ else ent0, n0, some x, c0, rfl, hl, hm, fun i => ?_, fun h0 => ?_⟩
    · by_cases hi : i < n0
      · simp only [hi, if_true]
        have := (hV i hi).2.1
        unfold maxLen at this
        exact this
      · simp only [hi, if_false]
        show noName.size ≤ _
        decide
    · obtain ⟨b, off, spot⟩ := x
      have c0' := (hc 0 (by omega)).1
      have hs : spot = none := by simpa [Addr.add] using World.cell?_spot c0'
      subst hs
      have hadd := add_lit' b off
      rw [hadd] at c0'
      refine ⟨b, off, rfl, World.block_lt_of_cell? _ _ c0', fun i hi => ?_⟩
      obtain ⟨g0, g1, _, _⟩ := hc i (by omega)
      obtain ⟨e1, _, e2⟩ := hV i hi
      rw [hadd, e1] at g0
      rw [hadd, e2] at g1
      simp only [hi, if_true]
      exact ⟨g0, g1⟩
theorem own_rw {w : World} {B : Nat} {v : Value} {f : Nat → Ent} {n : Nat} (h : w.ownsRow B 24 2 v n (ecs f n)) (hn : 0 < n) : Rw w v f n := by
  rcases h.2 with ⟨_, h0⟩ | ⟨g, cap, cur, rfl, hb, hg, hc, h5, h6, h7⟩
  · omega
  · exact ⟨g, cap, cur, rfl, hg, hc, h5, h6, h7⟩
end Go.Proofs.Ythhcgdmpbihdnaa
