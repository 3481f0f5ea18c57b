/-
  lives: the document's example.
-/
import Derived.Test.YtpjgcpnjfopolaaDoes
namespace Go.Proofs.Ytpjgcpnjfopolaa
open Go.RowKit Go.Deep
def l1 : Tab := (ask s0 0 1 2 true).2.2
def l2 : Tab := (ask l1 0 2 2 false).2.2
def l3 : Tab := l2.give 1 2
def l4 : Tab := (ask l3 1 3 2 true).2.2
theorem a1 : (ask s0 0 1 2 true).2.1 = 0 := by kernel_rfl
theorem a2 : (ask l1 0 2 2 false).2.1 = 32 := by kernel_rfl
theorem a2l : (ask l1 0 2 2 false).1 = [1] := by kernel_rfl
theorem a3 : (l2.g 2 1).isSome = true := by kernel_rfl
theorem a4 : (ask l3 1 3 2 true).2.1 = 32 := by kernel_rfl
theorem a5 : (ask l4 1 2 2 false).2.1 = 0 := by kernel_rfl
/-- The program's table alone, since a world w0. -/
structure One (w0 w : World) (b m : Nat) (s : Tab) : Prop where
  p : TP w b m s
  low : ∀ k, PK b m k → w0.heap.size ≤ k
  bel : Below w0.heap.size w0 w
theorem One.turn {w0 w w' : World} {b m : Nat} {s s2 : Tab} (h : One w0 w b m s) (hp : TP w' b m s2) (hf : Fr (PK b m) w w') : One w0 w' b m s2 := ⟨hp, h.low, h.bel.trans (hf.below h.bel.size h.low)⟩
theorem One.below {w0 w w' : World} {b m : Nat} {s : Tab} (h : One w0 w b m s) (k : Below w.heap.size w w') : One w0 w' b m s := ⟨h.p.below k, h.low, below_then h.bel k⟩
set_option maxRecDepth 100000 in
set_option maxHeartbeats 2000000 in
theorem lives_any (w : World) : Calls Try.prog 11 #[] w fun e w' => e = .returned (.bool true) ∧ Below w.heap.size w w' := by
  go_enter Try.func11, Try.ntmps11
  go_wp2_with fail
  refine (new_any w).mono ?_
  rintro e w1 ⟨b, m, rfl, ht1, hlb, hlm, hb1⟩
  have H1 := Lib.hid (show One w w1 b m s0 from ⟨ht1, fun k hk => by rcases hk with rfl | rfl <;> assumption, hb1⟩)
  have HA1 := Lib.hid (ask_any ht1 0 1 2 true)
  clear ht1 hb1 hlb hlm
  go_wp2_with fail
  refine (HA1.out).mono ?_
  rintro e w2 ⟨v1, rfl, _, ht2, hf2⟩
  have H2 := Lib.hid (show One w w2 b m l1 from H1.out.turn ht2 hf2)
  have HA2 := Lib.hid (ask_any H2.out.p 0 2 2 false)
  rw [a1]
  clear ht2 hf2
  go_wp2_with fail
  refine (HA2.out).mono ?_
  rintro e w3 ⟨v2, rfl, ho3, ht3, hf3⟩
  rw [a2l] at ho3
  have HO3 := Lib.hid ho3
  have H3 := Lib.hid (show One w w3 b m l2 from H2.out.turn ht3 hf3)
  have HNK := Lib.hid (show ∀ k, v2.ownBlock = some k → ¬ PK b m k from fun k hk hp => by
    have := (ho3.lt k hk).1
    have := H2.out.p.ltk hp
    omega)
  obtain ⟨g2, cap2, rfl, _, hg2, _, _⟩ := own_at ho3 (by decide)
  have HG := Lib.hid (give_any H3.out.p 1 2)
  rw [a2]
  clear ht3 hf3 ho3
  go_wp2_with fail
  refine (HG.out).mono ?_
  rintro e w4 ⟨rfl, ht4, hf4⟩
  have H4 := Lib.hid (show One w w4 b m l3 from H3.out.turn ht4 hf4)
  have HO4 := Lib.hid (own_fr HO3.out hf4 HNK.out)
  have HA4 := Lib.hid (ask_any H4.out.p 1 3 2 true)
  rw [a3]
  clear ht4 hf4
  go_wp2_with fail
  refine (HA4.out).mono ?_
  rintro e w5 ⟨v4, rfl, _, ht5, hf5⟩
  have H5 := Lib.hid (show One w w5 b m l4 from H4.out.turn ht5 hf5)
  have HO5 := Lib.hid (own_fr HO4.out hf5 HNK.out)
  have HA5 := Lib.hid (ask_any H5.out.p 1 2 2 false)
  rw [a4]
  clear ht5 hf5
  go_wp2_with fail
  refine (HA5.out).mono ?_
  rintro e w6 ⟨v5, rfl, _, ht6, hf6⟩
  have H6 := Lib.hid (H5.out.turn ht6 hf6)
  have ho6 := own_fr HO5.out hf6 HNK.out
  have d0 : w6.cell? ⟨g2, 0, none⟩ = some (.int .i64 1) := ho6.cellAt 0 (by decide)
  rw [a5]
  clear ht6 hf6 ho6
  go_wp2_with fail
  go_ret
  exact ⟨rfl, H6.out.bel⟩
end Go.Proofs.Ytpjgcpnjfopolaa
