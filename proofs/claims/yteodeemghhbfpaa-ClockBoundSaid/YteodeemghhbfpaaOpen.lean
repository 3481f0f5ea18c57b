/-
  WHAT COMES IN, opened: skews; passes.
-/
import Derived.Test.YteodeemghhbfpaaStep
import Derived.Deep.SlicePairs
namespace Go.Proofs.Yteodeemghhbfpaa
open Go.ChangeShapes Go.WideShapes Go.ChangeAt Go.RowKit Go.Deep
/-- A slice of numbers that came in: its length is within its capacity, its cells are there. -/
structure Nums (w : World) (A : Option Addr) (n cap : Nat) (f : Nat → Int) : Prop where
  le : n ≤ cap
  max : cap ≤ maxLen
  skews : Skews w A n f
  old : 0 < n → ∀ a, A = some a → a.block < w.heap.size
theorem nums_of {H : Type} {enc : TypeId × Value → H} {W : World} {base : Nat} {sp : Nat → Bool} {held : Bool} {fuel : Nat} {v : Value} {x : DataW H × List MemPlace}
    (h : DataW.trod enc Try.prog W base sp held fuel 30 [v] = some x) : ∃ A n cap f, v = .slice A n cap ∧ Nums W A n cap f := by
  rcases open_ints Try.underlying30 Try.underlying3 (by kernel_rfl) h with ⟨hcs, _⟩ | ⟨⟨b, off, spot⟩, n, cap, zs, hcs, _, hl, hm, hz, _, hcell, hwz⟩
  · injection hcs with hcs _
    exact ⟨none, 0, 0, fun _ => 0, hcs, Nat.le_refl _, by unfold maxLen; omega, fun h => by omega, fun h => by omega⟩
  · injection hcs with hcs _
    subst hcs
    have hz' : n ≤ zs.length := by rw [hz]; split <;> omega
    have key : 0 < n → spot = none ∧ b < W.heap.size := fun h0 => by
      have c0 := hcell 0 (by omega)
      have hs : spot = none := by simpa [Addr.add] using World.cell?_spot c0
      subst hs
      exact ⟨rfl, World.block_lt_of_cell? _ _ (by simpa [Addr.add] using c0)⟩
    refine ⟨some ⟨b, off, spot⟩, n, cap, fun j => zs.getD j 0, rfl, hl, hm, fun h0 => ?_, fun h0 a e => by injection e with e; rw [← e]; exact (key h0).2⟩
    obtain ⟨hs, hb⟩ := key h0
    subst hs
    refine ⟨b, off, rfl, hb, fun j hj => ?_⟩
    have hc := hcell j (by omega)
    have hadd : (⟨b, off, none⟩ : Addr).add j = ⟨b, off + j, none⟩ := by unfold Addr.add; split <;> simp_all
    rwa [hadd] at hc
theorem open_nums {H : Type} {enc : TypeId × Value → H} {W : World} {b0 : Nat} {sp : Nat → Bool} {held : Bool} {v : Value} {d : DataW H} {p : List MemPlace}
    (hv : Value.okWide Try.prog W .any b0 30 v) (h : DataW.Trod enc Try.prog W 0 sp held 30 v d p) : ∃ A n cap f, v = .slice A n cap ∧ Nums W A n cap f := by
  obtain ⟨A, n, cap, rfl⟩ := okWide_slice Try.underlying30 hv
  obtain ⟨fuel, hf⟩ := h
  exact nums_of (v := .slice A n cap) hf
theorem open_passes {H : Type} {enc : TypeId × Value → H} {W : World} {b0 : Nat} {sp : Nat → Bool} {held : Bool} {v : Value} {d : DataW H} {p : List MemPlace}
    (hv : Value.okWide Try.prog W .any b0 22 v) (h : DataW.Trod enc Try.prog W 0 sp held 22 v d p) : ∃ A n cap q, v = .slice A n cap ∧ n ≤ cap ∧ cap ≤ maxLen ∧ Passes W A n q := by
  obtain ⟨A, n, cap, rfl⟩ := okWide_slice Try.underlying22 hv
  obtain ⟨fuel, hf⟩ := h
  rcases open_slice_pairs Try.underlying22 Try.underlying32 (by kernel_rfl) rfl rfl (by kernel_rfl) (by kernel_rfl) hf with ⟨hcs, _⟩ | ⟨⟨b, off, spot⟩, len, cap', m, k, V0, V1, D0, D1, P0, P1, hcs, _, hl, hm, hmm, _, hx⟩
  · simp [Value.cells] at hcs
    obtain ⟨rfl, rfl, rfl⟩ := hcs
    exact ⟨none, 0, 0, fun _ => ⟨0, none, 0, 0, fun _ => 0⟩, rfl, Nat.le_refl _, by unfold maxLen; omega, ⟨fun h => by omega, fun _ h => by omega, fun _ h => by omega, fun _ h => by omega, fun _ h => by omega, fun _ h => by omega⟩⟩
  · simp [Value.cells] at hcs
    obtain ⟨rfl, rfl, rfl⟩ := hcs
    have hlm : n ≤ m := by rw [hmm]; split <;> omega
    have each : ∀ i, i < n → ∃ q : One, W.cell? ((⟨b, off, spot⟩ : Addr).add (i * 2)) = some (.int .i64 q.t) ∧ W.cell? ((⟨b, off, spot⟩ : Addr).add (i * 2 + 1)) = some (.slice q.A q.n q.cap) ∧
        (-9223372036854775808 ≤ q.t ∧ q.t ≤ 9223372036854775807) ∧ Nums W q.A q.n q.cap q.f := fun i hi => by
      obtain ⟨c0, c1, t0, t1⟩ := hx i (by omega)
      obtain ⟨t, e0, _, hw⟩ := DataW.trod_int Try.underlying3 t0
      injection e0 with e0 _
      obtain ⟨A', n', cap', f', e1, hn⟩ := nums_of t1
      have hb := bounds_i64 hw
      exact ⟨⟨t, A', n', cap', f'⟩, by rw [c0, e0], by rw [c1, e1], hb, hn⟩
    obtain ⟨q, hq⟩ : ∃ q : Nat → One, ∀ i, i < n → W.cell? ((⟨b, off, spot⟩ : Addr).add (i * 2)) = some (.int .i64 (q i).t) ∧ W.cell? ((⟨b, off, spot⟩ : Addr).add (i * 2 + 1)) = some (.slice (q i).A (q i).n (q i).cap) ∧
        (-9223372036854775808 ≤ (q i).t ∧ (q i).t ≤ 9223372036854775807) ∧ Nums W (q i).A (q i).n (q i).cap (q i).f :=
      ⟨fun i => if h : i < n then Classical.choose (each i h) else ⟨0, none, 0, 0, fun _ => 0⟩, fun i hi => by simp only [hi, dif_pos]; exact Classical.choose_spec (each i hi)⟩
    refine ⟨some ⟨b, off, spot⟩, n, cap, q, rfl, hl, hm, ⟨fun h0 => ?_, fun i hi => (hq i hi).2.2.2.le, fun i hi => (hq i hi).2.2.2.max, fun i hi => (hq i hi).2.2.2.old, fun i hi => (hq i hi).2.2.1, fun i hi => (hq i hi).2.2.2.skews⟩⟩
    have c0 := (hq 0 h0).1
    have hs : spot = none := by simpa [Addr.add] using World.cell?_spot c0
    subst hs
    refine ⟨b, off, rfl, World.block_lt_of_cell? _ _ (by simpa [Addr.add] using c0), fun i hi => ?_⟩
    have hadd : ∀ j, (⟨b, off, none⟩ : Addr).add j = ⟨b, off + j, none⟩ := fun j => by unfold Addr.add; split <;> simp_all
    obtain ⟨h1, h2, _⟩ := hq i hi
    rw [hadd] at h1 h2
    exact ⟨h1, h2⟩
end Go.Proofs.Yteodeemghhbfpaa
