/-
  Used: a block has an entry.
-/
import Derived.Test.YthhcgdmpbihdnaaBlock
namespace Go.Proofs.Ythhcgdmpbihdnaa
open Go.RowKit Go.Deep
/-- One of the entries a .. a + n - 1 is there. -/
def anyE (f : Nat → Ent) (a : Nat) : Nat → Bool
  | 0 => false
  | n + 1 => anyE f a n || !isFree f (a + n)
theorem anyE_hit (f : Nat → Ent) (a : Nat) : ∀ n j, j < n → isFree f (a + j) = false → anyE f a n = true
  | 0, j, h, _ => by omega
  | n + 1, j, h, e => by
    unfold anyE
    by_cases hj : j = n
    · subst hj; simp [e]
    · rw [anyE_hit f a n j (by omega) e]; rfl
set_option maxRecDepth 100000 in
set_option maxHeartbeats 1000000 in
theorem used40 (s : ByteArray) (m : Int) (w : World) : Calls Try.prog 40 #[.agg #[.string s, .int .i64 m]] w fun e w' => e = .returned (.bool !(s.toList.isEmpty && m == 0)) ∧ Below w.heap.size w w' := by
  have HB0 : Hid (∀ o, Below w.heap.size w (w.alloc o)) := Lib.hid fun o => (Below.refl _ w).alloc (Nat.le_refl _) o
  go_enter Try.func40, Try.ntmps40
  go_wp2
  all_goals go_ret
  all_goals exact ⟨by simp_all, HB0.out _⟩
set_option maxRecDepth 100000 in
set_option maxHeartbeats 1000000 in
theorem index48 {w : World} {b o cap : Nat} {f : Nat → Ent} {a : Nat} (hb : b < w.heap.size) (h0 : ∀ j, j < 4 → w.cell? ⟨b, o + j * 2, none⟩ = some (.string (f (a + j)).nm))
    (h1 : ∀ j, j < 4 → w.cell? ⟨b, o + j * 2 + 1, none⟩ = some (.int .i64 (f (a + j)).ino)) :
    Calls Try.prog 48 #[.slice (some ⟨b, o, none⟩) 4 cap, .func (.func 40) #[] #[]] w fun e w' => ∃ z : Int, e = .returned (.int .i64 z) ∧ decide (0 ≤ z) = anyE f a 4 ∧ Below w.heap.size w w' := by
  have H0 := Lib.hid h0
  have H1 := Lib.hid h1
  clear h0 h1
  go_enter Try.func48, Try.ntmps48
  go_wp2
  go_loopw [5, 8] (fun _ i wr => ∃ j : Nat, j ≤ 4 ∧ i = .int .i64 j ∧ anyE f a j = false ∧ Below w.heap.size w wr) (fun _ i _ => 4 - (intOf i).toNat)
  case atStart => exact ⟨0, Nat.zero_le _, rfl, rfl, Below.refl _ _⟩
  case round =>
    obtain ⟨j, hj, rfl, hn, hbel⟩ := hrel
    have HB := Lib.hid hbel
    have HN := Lib.hid hn
    clear hbel hn
    by_cases hlt : j < 4
    · have c0 := (HB.out.cell (p := ⟨b, o + j * 2, none⟩) hb).trans (H0.out j hlt)
      have c1 := (HB.out.cell (p := ⟨b, o + j * 2 + 1, none⟩) hb).trans (H1.out j hlt)
      have hd : ((j : Nat) : Int) < 4 := by omega
      have hP : isFree f (a + j) = ((f (a + j)).nm.toList.isEmpty && (f (a + j)).ino == 0) := rfl
      generalize (f (a + j)).nm = s at *
      generalize (f (a + j)).ino = m at *
      have HC := Lib.hid fun W => used40 s m W
      have HP := Lib.hid hP
      clear hP
      cases hfr : (s.toList.isEmpty && m == 0)
      · have HT := Lib.hid (anyE_hit f a 4 j hlt (HP.out.trans hfr))
        rw [hfr] at HC
        clear hfr
        go_wp2_with (go_at_call 40; refine (HC.out _).mono ?_; rintro e w2 ⟨rfl, hb2⟩; have HB2 := Lib.hid (below_then HB.out hb2); clear hb2)
        go_ret
        exact ⟨_, rfl, by rw [HT.out]; simp, HB2.out⟩
      · have HT : Hid (anyE f a (j + 1) = false) := Lib.hid (by show (anyE f a j || !isFree f (a + j)) = false; rw [HN.out, HP.out, hfr]; rfl)
        rw [hfr] at HC
        clear hfr
        go_wp2_with (go_at_call 40; refine (HC.out _).mono ?_; rintro e w2 ⟨rfl, hb2⟩; have HB2 := Lib.hid (below_then HB.out hb2); clear hb2)
        exact ⟨⟨j + 1, by omega, by go_num, HT.out, HB2.out⟩, by simp [intOf]; omega⟩
    · obtain rfl : j = 4 := by omega
      go_wp2
      go_ret
      exact ⟨_, rfl, by rw [HN.out]; rfl, HB.out⟩
end Go.Proofs.Ythhcgdmpbihdnaa
