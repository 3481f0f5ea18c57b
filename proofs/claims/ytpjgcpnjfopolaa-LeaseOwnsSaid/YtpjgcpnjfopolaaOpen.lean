/-
  THE DEEDS that came in, opened to their cells.
-/
import Derived.Test.YtpjgcpnjfopolaaLives
import Derived.ChangeSame
namespace Go.Proofs.Ytpjgcpnjfopolaa
open Go.ChangeShapes Go.WideShapes Go.ChangeAt Go.RowKit Go.Deep
/-- A deed: its kind, tick, client, inode; own. -/
structure Dd where
  k : Int
  now : Int
  c : Int
  i : Int
  own : Bool
/-- Deeds that came in. -/
def Deeds (w : World) (A : Option Addr) (n : Nat) (d : Nat → Dd) : Prop :=
  0 < n → ∃ b off, A = some ⟨b, off, none⟩ ∧ b < w.heap.size ∧ ∀ i, i < n → w.cell? ⟨b, off + i * 5, none⟩ = some (.int .i64 (d i).k) ∧ w.cell? ⟨b, off + i * 5 + 1, none⟩ = some (.int .i64 (d i).now) ∧
    w.cell? ⟨b, off + i * 5 + 2, none⟩ = some (.int .i64 (d i).c) ∧ w.cell? ⟨b, off + i * 5 + 3, none⟩ = some (.int .i64 (d i).i) ∧ w.cell? ⟨b, off + i * 5 + 4, none⟩ = some (.bool (d i).own)
set_option maxRecDepth 100000 in
theorem open_deeds {H : Type} {enc : TypeId × Value → H} {W : World} {b0 : Nat} {sp : Nat → Bool} {held : Bool} {v : Value} {d : DataW H} {p : List MemPlace}
    (hv : Value.okWide Try.prog W .any b0 22 v) (h : DataW.Trod enc Try.prog W 0 sp held 22 v d p) : ∃ A n cap dd, v = .slice A n cap ∧ Deeds W A n dd := by
  obtain ⟨A, n, cap, rfl⟩ := okWide_slice Try.underlying22 hv
  obtain ⟨fuel, hf⟩ := h
  rcases open_slice Try.underlying22 hf with ⟨hcs, _⟩ | ⟨⟨b, off, spot⟩, len, cap', m, n', D, Pl, hcs, _, hl, hm, hmm, _, hx⟩
  · simp [Value.cells] at hcs
    obtain ⟨rfl, rfl, rfl⟩ := hcs
    exact ⟨none, 0, 0, fun _ => ⟨0, 0, 0, 0, false⟩, rfl, fun h => by omega⟩
  · simp [Value.cells] at hcs
    obtain ⟨rfl, rfl, rfl⟩ := hcs
    have hlm : n ≤ m := by rw [hmm]; split <;> omega
    have hC : Try.prog.cellsOf 28 = 5 := by kernel_rfl
    rw [hC] at hx
    have each : ∀ i, i < n → ∃ q : Dd, W.cell? ((⟨b, off, spot⟩ : Addr).add (i * 5)) = some (.int .i64 q.k) ∧ W.cell? ((⟨b, off, spot⟩ : Addr).add (i * 5 + 1)) = some (.int .i64 q.now) ∧
        W.cell? ((⟨b, off, spot⟩ : Addr).add (i * 5 + 2)) = some (.int .i64 q.c) ∧ W.cell? ((⟨b, off, spot⟩ : Addr).add (i * 5 + 3)) = some (.int .i64 q.i) ∧ W.cell? ((⟨b, off, spot⟩ : Addr).add (i * 5 + 4)) = some (.bool q.own) := fun i hi => by
      obtain ⟨cs', hc, ht⟩ := hx i (by omega)
      obtain ⟨ys, n2, _, _, hlen, hyl, hfs⟩ := DataW.trod_struct Try.underlying28 ht
      rw [hC] at hlen
      obtain ⟨_, _, hat⟩ := World.cells?_some hc
      match cs', hlen, ys, hyl with
      | [v0, v1, v2, v3, v4], _, [y0, y1, y2, y3, y4], _ =>
        have c3 : Try.prog.cellsOf 3 = 1 := by kernel_rfl
        have c4 : Try.prog.cellsOf 4 = 1 := by kernel_rfl
        have t0 : DataW.trod enc Try.prog W 0 sp held n2 3 (([v0, v1, v2, v3, v4].drop 0).take (Try.prog.cellsOf 3)) = some y0 := hfs 0 _ rfl
        have t1 : DataW.trod enc Try.prog W 0 sp held n2 3 (([v0, v1, v2, v3, v4].drop 1).take (Try.prog.cellsOf 3)) = some y1 := hfs 1 _ rfl
        have t2 : DataW.trod enc Try.prog W 0 sp held n2 3 (([v0, v1, v2, v3, v4].drop 2).take (Try.prog.cellsOf 3)) = some y2 := hfs 2 _ rfl
        have t3 : DataW.trod enc Try.prog W 0 sp held n2 3 (([v0, v1, v2, v3, v4].drop 3).take (Try.prog.cellsOf 3)) = some y3 := hfs 3 _ rfl
        have t4 : DataW.trod enc Try.prog W 0 sp held n2 4 (([v0, v1, v2, v3, v4].drop 4).take (Try.prog.cellsOf 4)) = some y4 := hfs 4 _ rfl
        rw [c3] at t0 t1 t2 t3
        rw [c4] at t4
        obtain ⟨z0, e0, _, _⟩ := DataW.trod_int Try.underlying3 t0
        obtain ⟨z1, e1, _, _⟩ := DataW.trod_int Try.underlying3 t1
        obtain ⟨z2, e2, _, _⟩ := DataW.trod_int Try.underlying3 t2
        obtain ⟨z3, e3, _, _⟩ := DataW.trod_int Try.underlying3 t3
        obtain ⟨z4, e4, _⟩ := DataW.trod_bool Try.underlying4 t4
        injection e0 with e0 _
        injection e1 with e1 _
        injection e2 with e2 _
        injection e3 with e3 _
        injection e4 with e4 _
        have k0 := hat 0 (by omega)
        have k1 := hat 1 (by omega)
        have k2 := hat 2 (by omega)
        have k3 := hat 3 (by omega)
        have k4 := hat 4 (by omega)
        rw [add_add] at k0 k1 k2 k3 k4
        exact ⟨⟨z0, z1, z2, z3, z4⟩, by rw [← e0]; exact k0, by rw [← e1]; exact k1, by rw [← e2]; exact k2, by rw [← e3]; exact k3, by rw [← e4]; exact k4⟩
    obtain ⟨q, hq⟩ : ∃ q : Nat → Dd, ∀ i, i < n → W.cell? ((⟨b, off, spot⟩ : Addr).add (i * 5)) = some (.int .i64 (q i).k) ∧ W.cell? ((⟨b, off, spot⟩ : Addr).add (i * 5 + 1)) = some (.int .i64 (q i).now) ∧
        W.cell? ((⟨b, off, spot⟩ : Addr).add (i * 5 + 2)) = some (.int .i64 (q i).c) ∧ W.cell? ((⟨b, off, spot⟩ : Addr).add (i * 5 + 3)) = some (.int .i64 (q i).i) ∧ W.cell? ((⟨b, off, spot⟩ : Addr).add (i * 5 + 4)) = some (.bool (q i).own) :=
      ⟨fun i => if h : i < n then Classical.choose (each i h) else ⟨0, 0, 0, 0, false⟩, fun i hi => by simp only [hi, dif_pos]; exact Classical.choose_spec (each i hi)⟩
    refine ⟨some ⟨b, off, spot⟩, n, cap, q, rfl, fun h0 => ?_⟩
    have c0 := (hq 0 h0).1
    have hs : spot = none := by simpa [Addr.add] using World.cell?_spot c0
    subst hs
    refine ⟨b, off, rfl, World.block_lt_of_cell? _ _ (by simpa [Addr.add] using c0), fun i hi => ?_⟩
    have hadd : ∀ j, (⟨b, off, none⟩ : Addr).add j = ⟨b, off + j, none⟩ := fun j => by unfold Addr.add; split <;> simp_all
    have hh := hq i hi
    rw [hadd, hadd, hadd, hadd, hadd] at hh
    exact hh
end Go.Proofs.Ytpjgcpnjfopolaa
