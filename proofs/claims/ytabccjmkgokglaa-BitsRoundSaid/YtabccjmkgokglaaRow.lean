/-
  HOW A ROW OF THIS SEAT IS CLOSED: a map that comes in, opened; a law that returns true and leaves all old memory as it was meets its row.
-/
import Derived.Test.YtabccjmkgokglaaRef
import Derived.ProofKit
import Derived.OpenShut
import Derived.ShutString
import Derived.ChangeOld
namespace Go.Proofs.Ytabccjmkgokglaa
open Go.ChangeShapes Go.WideShapes Go.ChangeAt Go.RowKit
theorem own : ownKnob Try.prog.godebug = none := by kernel_rfl
theorem laidOut : laidOutB Try.prog = true := by kernel_rfl
theorem cells23 : Try.prog.cellsOf 23 = 16 := by kernel_rfl
theorem cells5 : Try.prog.cellsOf 5 = 1 := by kernel_rfl
theorem open_map {H : Type} {enc : TypeId × Value → H} {W : World} {base b0 : Nat} {sp : Nat → Bool} {held : Bool} {v : Value} {d : DataW H} {p : List MemPlace}
    (hv : Value.okWide Try.prog W .any base 23 v) (h : DataW.Trod enc Try.prog W b0 sp held 23 v d p) : ∃ m, Ok m ∧ v = mval m := by
  simp only [Value.okWide, Try.underlying23] at hv
  obtain ⟨cs, rfl, hsz, _⟩ := hv
  rw [cells23] at hsz
  obtain ⟨fuel, hf⟩ := h
  obtain ⟨xs, k, _, _, _, hxl, hget⟩ := DataW.trod_array Try.underlying23 hf
  rw [cells5] at hget
  have hi : ∀ i, i < 16 → ∃ n : Nat, n < 256 ∧ cs.toList[i]? = some (.int .u8 (n : Int)) := by
    intro i hi
    have h1 := hget i hi
    have hx : xs[i]? = some (xs[i]'(by omega)) := List.getElem?_eq_getElem (by omega)
    rw [hx] at h1
    obtain ⟨n, hc, _, hwf⟩ := DataW.trod_int Try.underlying5 h1
    have hb := bounds_u8 hwf
    have hci : cs.toList[i]? = some (cs.toList[i]'(by simpa using (by omega : i < cs.size))) := List.getElem?_eq_getElem _
    have e : ((Value.agg cs).cells.toList.drop (i * 1)).take 1 = [cs.toList[i]'(by simpa using (by omega : i < cs.size))] := by
      rw [Nat.mul_one]
      show (cs.toList.drop i).take 1 = _
      rw [List.drop_eq_getElem_cons (by simpa using (by omega : i < cs.size))]
      rfl
    rw [e] at hc
    injection hc with hc _
    refine ⟨n.toNat, by omega, ?_⟩
    rw [hci, hc, Int.toNat_of_nonneg hb.1]
  refine ⟨cs.toList.map fun v => (intOf v).toNat, ⟨by simpa using hsz, ?_⟩, ?_⟩
  · intro x hx
    obtain ⟨v, hv, rfl⟩ := List.mem_map.1 hx
    obtain ⟨i, hl, hg⟩ := List.getElem_of_mem hv
    obtain ⟨n, hn, hc⟩ := hi i (by have : i < cs.size := by simpa using hl
                                   omega)
    have e : v = .int .u8 (n : Int) := by
      rw [List.getElem?_eq_getElem hl] at hc
      injection hc with hc
      rw [← hg, hc]
    rw [e]
    simpa [intOf] using hn
  · congr 1
    apply Array.ext'
    apply List.ext_getElem?
    intro i
    by_cases hl : i < 16
    · obtain ⟨n, hn, hc⟩ := hi i hl
      simp only [mcells, List.map_map, List.getElem?_map, hc, Option.map_some, Function.comp, intOf, Int.toNat_natCast]
    · have e1 : cs.toList.length ≤ i := by simp; omega
      rw [List.getElem?_eq_none e1, List.getElem?_eq_none (by simpa [mcells] using e1)]
end Go.Proofs.Ytabccjmkgokglaa
