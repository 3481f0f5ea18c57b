/-
  THE REFERENCE's Over.
-/
import Derived.Test.YtpjgcpnjfopolaaRNew
namespace Go.Proofs.Ytpjgcpnjfopolaa
open Go.RowKit Go.Deep
theorem clients_get (n : Nat) (h : n < 8) : clients[n]? = some ((n : Int) + 1) := by
  have : n = 0 ∨ n = 1 ∨ n = 2 ∨ n = 3 ∨ n = 4 ∨ n = 5 ∨ n = 6 ∨ n = 7 := by omega
  rcases this with rfl | rfl | rfl | rfl | rfl | rfl | rfl | rfl <;> rfl
/-- The first n clients of whom f says yes. -/
def cln (f : Int → Bool) (n : Nat) : List Int := (clients.take n).filter f
theorem cln_succ (f : Int → Bool) (n : Nat) (h : n < 8) : cln f (n + 1) = cln f n ++ if f ((n : Int) + 1) then [(n : Int) + 1] else [] := by
  unfold cln
  rw [List.take_add_one, clients_get n h, List.filter_append]
  cases hf : f ((n : Int) + 1) <;> simp [hf]
theorem cln_len (f : Int → Bool) (n : Nat) (h : n ≤ 8) : (cln f n).length ≤ 8 := by
  unfold cln
  exact Nat.le_trans (List.length_filter_le _ _) (by simp; omega)
theorem cln_all (f : Int → Bool) : cln f 8 = clients.filter f := rfl
theorem inodes_get (n : Nat) (h : n < 32) : inodes[n]? = some ((n : Int) + 1) := by simp [inodes, h]
theorem inodes_len : inodes.length = 32 := by simp [inodes]
def anyN (f : Int → Bool) (n : Nat) : Bool := (inodes.take n).any f
theorem anyN_succ (f : Int → Bool) (n : Nat) (h : n < 32) : anyN f (n + 1) = (anyN f n || f ((n : Int) + 1)) := by
  unfold anyN
  rw [List.take_add_one, inodes_get n h, List.any_append]
  simp
theorem anyN_all (f : Int → Bool) : anyN f 32 = inodes.any f := by
  unfold anyN
  rw [List.take_of_length_le (by rw [inodes_len]; omega)]
theorem clj_succ (f : Int → Bool) (j : Nat) (h1 : 1 ≤ j) (h : j ≤ 8) : cln f (j + 1 - 1) = cln f (j - 1) ++ if f (j : Int) then [(j : Int)] else [] := by
  have := cln_succ f (j - 1) (by omega)
  rw [show j - 1 + 1 = j + 1 - 1 by omega, show ((j - 1 : Nat) : Int) + 1 = (j : Int) by omega] at this
  exact this
theorem anj_succ (f : Int → Bool) (k : Nat) (h1 : 1 ≤ k) (h : k ≤ 32) : anyN f (k + 1 - 1) = (anyN f (k - 1) || f (k : Int)) := by
  have := anyN_succ f (k - 1) (by omega)
  rw [show k - 1 + 1 = k + 1 - 1 by omega, show ((k - 1 : Nat) : Int) + 1 = (k : Int) by omega] at this
  exact this
theorem ovG_cell {g : Int → Int → Option (Bool × Int)} {now k i : Int} {own : Bool} {til : Int} (h : ∀ p, g i k = some p → own = p.1 ∧ til = p.2) : ovG g now k i = ((g i k).isSome && decide (til ≤ now)) := by
  unfold ovG
  cases hg : g i k with
  | none => rfl
  | some p => rw [(h p hg).2]; rfl
set_option maxRecDepth 100000 in
set_option maxHeartbeats 4000000 in
theorem rover_any {w : World} {b g x y : Nat} {s : Tab} (h : TR w b g x y s) (now : Int) : Calls Try.prog 17 #[.pointer (some ⟨b, 0, none⟩), .int .i64 now] w fun e w' =>
    ∃ v, e = .returned v ∧ w'.ownsRow w.heap.size 3 1 v (ovr s.g now).length ((ovr s.g now).map (Value.int .i64)) ∧ Below w.heap.size w w' := by
  have H := Lib.hid h
  clear h
  go_enter Try.func17, Try.ntmps17
  go_wp2_with fail
  go_loopw [5, 6] (fun v z wr => ∃ j : Nat, 1 ≤ j ∧ j ≤ 9 ∧ z = .int .i64 j ∧ wr.ownsRow w.heap.size 3 1 v (cln (ovB s.g now) (j - 1)).length ((cln (ovB s.g now) (j - 1)).map (Value.int .i64)) ∧ Below w.heap.size w wr) (fun _ z _ => 9 - (intOf z).toNat)
  case atStart => exact ⟨1, Nat.le_refl _, by omega, rfl, World.ownsRow_nil _ _ _ _, Below.refl _ _⟩
  case round =>
    obtain ⟨j, hj1, hj, rfl, hown, hbel⟩ := hrel
    have HO := Lib.hid hown
    have HB := Lib.hid hbel
    have HT := Lib.hid (H.out.below hbel)
    have hwz : w.heap.size ≤ wr.heap.size := hbel.size
    clear hown hbel
    by_cases hlt : j < 9
    · have hlt' : (j : Int) ≤ 8 := by omega
      have HCL := Lib.hid (And.intro (clj_succ (ovB s.g now) j hj1 (by omega)) (cln_len (ovB s.g now) (j - 1) (by omega)))
      go_wp2_with fail
      obtain ⟨wo, hwo⟩ : ∃ wo, wo = wr := ⟨wr, rfl⟩
      subst hwo
      go_loopw [7, 8] (fun v z wr => ∃ k : Nat, 1 ≤ k ∧ k ≤ 33 ∧ z = .int .i64 k ∧ v = .bool (anyN (ovG s.g now j) (k - 1)) ∧ wo = wr) (fun _ z _ => 33 - (intOf z).toNat)
      case atStart => exact ⟨1, Nat.le_refl _, by omega, rfl, rfl, rfl⟩
      case round =>
        obtain ⟨k, hk1, hk, rfl, rfl, rfl⟩ := hrel
        by_cases hkl : k < 33
        · have hkl' : (k : Int) ≤ 32 := by omega
          obtain ⟨arr, ha, hsz, hg⟩ := HT.out.gr
          obtain ⟨own, til, g0, g1, g2, g3⟩ := hg k j (by omega) (by omega)
          have hs := anj_succ (ovG s.g now j) k hk1 (by omega)
          rw [ovG_cell g3] at hs
          have HS := Lib.hid hs
          have d0 := blk_cell ha g0
          have d2 := blk_cell ha g2
          have c0 := blk_cell (j := 0) HT.out.blk rfl
          clear ha hsz hg g0 g1 g2 g3 hs
          have b0 : (0 : Int) ≤ 9 * (k : Int) + (j : Int) := by omega
          have b1 : 9 * (k : Int) + (j : Int) < 297 := by omega
          generalize (s.g (k : Int) (j : Int)).isSome = si at *
          generalize anyN (ovG s.g now (j : Int)) (k - 1) = bb at *
          cases bb
          · cases si
            · go_wp2_with fail
              exact ⟨⟨k + 1, by omega, by omega, by go_num, by rw [HS.out]; rfl, trivial⟩, by simp [intOf]; omega⟩
            · by_cases ht : til ≤ now
              · go_wp2_with fail
                exact ⟨⟨k + 1, by omega, by omega, by go_num, by rw [HS.out]; simp [ht], trivial⟩, by simp [intOf]; omega⟩
              · go_wp2_with fail
                exact ⟨⟨k + 1, by omega, by omega, by go_num, by rw [HS.out]; simp [ht], trivial⟩, by simp [intOf]; omega⟩
          · go_wp2_with fail
            exact ⟨⟨k + 1, by omega, by omega, by go_num, by rw [HS.out]; rfl, trivial⟩, by simp [intOf]; omega⟩
        · obtain rfl : k = 33 := by omega
          have hkl' : ¬ ((33 : Nat) : Int) ≤ 32 := by omega
          have hov : anyN (ovG s.g now (j : Int)) (33 - 1) = ovB s.g now j := anyN_all _
          rw [hov]
          clear hov
          generalize hbb : ovB s.g now (j : Int) = bb at *
          cases bb
          · go_wp2_with fail
            refine ⟨⟨j + 1, by omega, by omega, by go_num, ?_, HB.out⟩, by simp [intOf]; omega⟩
            rw [HCL.out.1]
            simpa using HO.out
          · go_wp2_with (at_builtin; refine wpl_appg rfl _ _ rfl rfl HO.out (by omega) rfl rfl (by have := HCL.out.2; omega) ?_; intro v3 w3 ho3 hg3; have HO3 := Lib.hid (And.intro ho3 hg3); clear ho3 hg3)
            refine ⟨⟨j + 1, by omega, by omega, by go_num, ?_, HB.out.grown HO3.out.2 HB.out.size fun k hk => (HO.out.lt k hk).1⟩, by simp [intOf]; omega⟩
            rw [HCL.out.1]
            simpa using HO3.out.1
    · obtain rfl : j = 9 := by omega
      have hlt' : ¬ ((9 : Nat) : Int) ≤ 8 := by omega
      go_wp2_with fail
      go_ret
      exact ⟨_, rfl, HO.out, HB.out⟩
end Go.Proofs.Ytpjgcpnjfopolaa
