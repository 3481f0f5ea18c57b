/-
  The reference's Take.
-/
import Derived.Test.YtmicejjlfojncaaRTo
namespace Go.Proofs.Ytmicejjlfojncaa
open Go.RowKit Go.Deep
set_option maxHeartbeats 1000000 in
theorem rtake_out {K : Nat → Prop} {w : World} {c : Nat} {l : List (Int × List Nat)} (h : RBag w K c l) (k : Int) (hk : ¬ (0 ≤ k ∧ k < l.length)) (stay : Bool) :
    Calls Try.prog 19 #[.pointer (some ⟨c, 0, none⟩), .int .i64 k, .bool stay] w fun e w' => e = .returned (.tuple #[.int .i64 0, .string { data := #[] }, .bool false]) ∧ w = w' := by
  obtain ⟨v, ps, h0, rfl⟩ := h
  have hll : (cont ps).length = ps.length := by simp [cont]
  rw [hll] at hk
  obtain ⟨A, cap, rfl, h1, h2, h3⟩ := h0.core.shape
  have c0 : w.cell? ⟨c, 0, none⟩ = some (.slice A ps.length cap) := blk_cell h0.core.blk rfl
  clear h0 h3
  generalize ps.length = n at *
  have hor : k < 0 ∨ (0 ≤ k ∧ (n : Int) ≤ k) := by omega
  clear hk
  rcases hor with k1 | ⟨k1, k2⟩
  all_goals
    go_enter Try.func19, Try.ntmps19
    go_wp2
    go_ret3
    exact ⟨rfl, rfl⟩
set_option maxHeartbeats 1000000 in
theorem rtake_in {K : Nat → Prop} {w : World} {c : Nat} {v : Value} {ps : List Pk} (h0 : RBag0 w K c v ps) (hl : ps.length ≤ 200) (i : Nat) (p : Pk) (hp : ps[i]? = some p) (stay : Bool) :
    Calls Try.prog 19 #[.pointer (some ⟨c, 0, none⟩), .int .i64 i, .bool stay] w fun e w' => e = .returned (.tuple #[.int .i64 p.to, .string (str p.s), .bool true]) ∧
      ∃ K', RBag w' K' c (if stay then cont ps else (cont ps).eraseIdx i) ∧ Fr K w w' ∧ ∀ x, K' x → K x ∨ w.heap.size ≤ x := by
  have hi := (List.getElem?_eq_some_iff.1 hp).1
  have hpv := h0.data p (List.mem_of_getElem? hp)
  obtain ⟨f0, f1⟩ := flat_get ps i p hp
  rw [hpv] at f1
  obtain ⟨A, cap, rfl, h1, h2, h3⟩ := h0.core.shape
  obtain ⟨g, rfl, hgc, hgl, hcell⟩ := h3 (by omega)
  have c0 : w.cell? ⟨c, 0, none⟩ = some (.slice (some ⟨g, 0, none⟩) ps.length cap) := blk_cell h0.core.blk rfl
  have d0 := (hcell (i * 2) (by omega)).trans f0
  have d1 := (hcell (i * 2 + 1) (by omega)).trans f1
  have hil : (i : Int) < (ps.length : Int) := by omega
  have hid : decide (((i : Nat) : Int) < 0) = false := decide_eq_false (by omega)
  have HP : Hid (∀ o, RBag0 (w.alloc o) K c (.slice (some ⟨g, 0, none⟩) ps.length cap) ps ∧ Fr K w (w.alloc o)) := Lib.hid fun o =>
    ⟨h0.fr (S := fun _ => False) (Fr.of_below ((Below.refl _ _).alloc (Nat.le_refl _) o)) (fun _ _ h => h), Fr.of_below ((Below.refl _ _).alloc (Nat.le_refl _) o)⟩
  have HK := Lib.hid h0.lt
  have k1 : (w.alloc (.cells #[.int .i64 p.to, .string (str p.s)] 57)).heap[w.heap.size]? = some (.cells #[.int .i64 p.to, .string (str p.s)] 57 (0, 0)) := heap_alloc_new _ _
  have hsz : w.heap.size ≤ (w.alloc (.cells #[.int .i64 p.to, .string (str p.s)] 57)).heap.size := by simp
  clear h0 h3 hcell f0 f1 hp hpv
  generalize p.to = to at *
  generalize str p.s = s at *
  cases stay
  · have HDR := Lib.hid (rdrop_in (HP.out (.cells #[.int .i64 to, .string s] 57)).1 hl i hi)
    go_enter Try.func19, Try.ntmps19
    go_wp2_with fail
    refine (HDR.out).mono ?_
    rintro e w2 ⟨rfl, K', hb2, hf2, hk2⟩
    have k2 := hf2.blk (fun hk => by have := HK.out _ hk; omega) k1
    have e0 : w2.cell? ⟨w.heap.size, 0, none⟩ = some (.int .i64 to) := blk_cell k2 rfl
    have e1 : w2.cell? ⟨w.heap.size, 1, none⟩ = some (.string s) := blk_cell k2 rfl
    have HB := Lib.hid (And.intro hb2 (And.intro hf2 hk2))
    clear hb2 hf2 hk2
    go_wp2
    go_quiet (fail)
    go_wp2
    go_ret3
    exact ⟨rfl, K', HB.out.1.below (below_drewN (Below.refl _ _) _), ((HP.out _).2.trans HB.out.2.1).trans (Fr.of_below (below_drewN (Below.refl _ _) _)), fun x hx => (HB.out.2.2 x hx).imp id (fun h => Nat.le_trans hsz h)⟩
  · have e0 : (w.alloc (.cells #[.int .i64 to, .string s] 57)).cell? ⟨w.heap.size, 0, none⟩ = some (.int .i64 to) := blk_cell k1 rfl
    have e1 : (w.alloc (.cells #[.int .i64 to, .string s] 57)).cell? ⟨w.heap.size, 1, none⟩ = some (.string s) := blk_cell k1 rfl
    go_enter Try.func19, Try.ntmps19
    go_wp2
    go_quiet (fail)
    go_wp2
    go_ret3
    exact ⟨rfl, K, RBag.below ⟨_, _, (HP.out _).1, rfl⟩ (below_drewN (Below.refl _ _) _), ((HP.out _).2).trans (Fr.of_below (below_drewN (Below.refl _ _) _)), fun x hx => .inl hx⟩
end Go.Proofs.Ytmicejjlfojncaa
