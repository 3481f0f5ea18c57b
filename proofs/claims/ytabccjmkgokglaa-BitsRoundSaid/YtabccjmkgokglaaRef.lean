/-
  WALKS: the reference's Bytes, and 'lives', the document's example.
-/
import Derived.Test.YtabccjmkgokglaaSame
namespace Go.Proofs.Ytabccjmkgokglaa
open Go.RowKit
theorem bit_at (m : List Nat) (i k : Nat) (hk : k < 8) : bit m (8 * i + k) = decide (m.getD i 0 / 2 ^ k % 2 = 1) := by
  unfold bit
  rw [show (8 * i + k) / 8 = i from by omega, show (8 * i + k) % 8 = k from by omega]
theorem dbl_step (x k : Nat) : x / 2 ^ k = 2 * (x / 2 ^ (k + 1)) + x / 2 ^ k % 2 := by
  rw [Nat.pow_succ, ← Nat.div_div_eq_div_mul]
  omega
theorem int_eq {k : IntKind} {a b : Int} (h : a = b) : Value.int k a = Value.int k b := by rw [h]
theorem byte_conv (x : Nat) (hx : x < 256) : IntKind.u8.wrap (x : Int) = (x : Int) := by rw [IntKind.wrap_u8']; omega
set_option maxHeartbeats 1000000 in
theorem refBytes_any (m : List Nat) (hm : Ok m) (g cap : Nat) (w : World) (hc : ∀ j, j < 128 → w.cell? ⟨g, j, none⟩ = some (.bool (bit m j))) (hg : g < w.heap.size) :
    Calls Try.prog 22 #[.slice (some ⟨g, 0, none⟩) 128 cap] w fun e w' => ∃ v, e = .returned v ∧ w'.ownsRow w.heap.size 5 1 v 16 (bb m 16) ∧ Below w.heap.size w w' := by
  go_enter Try.func22, Try.ntmps22
  go_wp2
  go_loopw [3, 4] (fun v i wr => ∃ k : Nat, k ≤ 16 ∧ i = .int .i64 k ∧ wr.ownsRow w.heap.size 5 1 v k (bb m k) ∧ Below w.heap.size w wr) (fun _ i _ => 16 - (intOf i).toNat)
  case atStart => exact ⟨0, Nat.zero_le _, rfl, World.ownsRow_nil _ _ _ _, Below.refl _ _⟩
  case round =>
    obtain ⟨k, hk, rfl, hown, hbel⟩ := hrel
    have hB := hbel.size
    by_cases hlt : k < 16
    · have hd : decide ((k : Int) < 16) = true := by simp; omega
      have hx256 := hm.lt k
      have HBB := Lib.hid (bb_succ m k)
      have hcc : ∀ j, j < 8 → wr.cell? ⟨g, 8 * k + j, none⟩ = some (.bool (decide (m.getD k 0 / 2 ^ j % 2 = 1))) := fun j hj => by
        rw [hbel.cell (p := ⟨g, 8 * k + j, none⟩) hg, hc _ (by omega), bit_at m k j hj]
      have HC := Lib.hid hcc
      clear hcc
      generalize m.getD k 0 = x at *
      go_wp2
      go_loop [5, 6] (fun y j => ∃ q : Nat, q ≤ 8 ∧ j = .int .i64 ((q : Int) - 1) ∧ y = .int .i64 (x / 2 ^ q : Nat)) (fun _ j => (intOf j + 1).toNat)
      case atStart => exact ⟨8, by omega, rfl, by rw [show x / 2 ^ 8 = 0 from by omega]; rfl⟩
      case round =>
        obtain ⟨q, hq, rfl, rfl⟩ := hrel
        rcases Nat.eq_zero_or_pos q with h0 | h0
        · subst h0
          have hd0 : decide ((0 : Int) ≤ ((0 : Nat) : Int) - 1) = false := by decide
          have hw := byte_conv x hx256
          have e0 : x / 2 ^ 0 = x := by simp
          rw [e0]
          go_wp2_with (at_builtin; refine wpl_app 30 5 (.int .u8 0) 1 Try.underlying30 info5 rfl (by decide) rfl _ _ rfl rfl hown hbel hB rfl rfl (by omega) ?_; intro v' w' hown' hbel' hB')
          exact ⟨⟨k + 1, by omega, by go_num, by rw [HBB.out]; exact hown', hbel'⟩, by simp [intOf]; omega⟩
        · obtain ⟨r, rfl⟩ : ∃ r, q = r + 1 := ⟨q - 1, by omega⟩
          have hcell := HC.out r (by omega)
          have hds := dbl_step x r
          have hle : x / 2 ^ (r + 1) ≤ x := Nat.div_le_self _ _
          have hi : ((r + 1 : Nat) : Int) - 1 = (r : Int) := by omega
          rw [hi]
          have hoff : ((8 : Int) * k + r).toNat = 8 * k + r := by omega
          have hge : decide ((0 : Int) ≤ (r : Int)) = true := by simp
          generalize x / 2 ^ (r + 1) = y at *
          generalize hZ : x / 2 ^ r = z at *
          have HZ := Lib.hid hZ
          clear hZ
          have HD := Lib.hid hds
          clear hds hi
          go_wp2
          · have h1 : z % 2 = 1 := by assumption
            exact ⟨⟨r, by omega, rfl, by rw [HZ.out]; exact int_eq (by have := HD.out; omega)⟩, by simp [intOf]⟩
          · have h1 : ¬ z % 2 = 1 := by assumption
            exact ⟨⟨r, by omega, rfl, by rw [HZ.out]; exact int_eq (by have := HD.out; omega)⟩, by simp [intOf]⟩
    · have hk16 : k = 16 := by omega
      subst hk16
      go_wp2
      go_ret
      exact ⟨_, rfl, hown, hbel⟩
theorem wpl_store23_new {ops : Array Oper} {rest : List Oper} {o : Oper} {a : Act} {w : World} {Q : Exit → Act → World → Prop} {m : List Nat} {old : Array Value}
    (hw : Region.wanted o (yielded ops a.tmps) = true) (x y : Operand) (ho : o.op = .store 23 x y) (hx : a.eval x = .pointer (some ⟨w.heap.size, 0, none⟩)) (hy : a.eval y = .agg (mcells m))
    (hold : old.size = 16) (hm : m.length = 16) (h : wpList Try.prog ops Q rest (a.put o.dst undef) (w.alloc (.cells (mcells m) 23))) : wpList Try.prog ops Q (o :: rest) a (w.alloc (.cells old 23)) :=
  wpl_store23 hw x y ho hx hy (heap_alloc_new w _) hold hm (by rw [World.setRow_alloc_new]; exact h)
def m9 : List Nat := takeL zeros 9
def k1 : List Nat := takeL zeros 1
def k2 : List Nat := takeL k1 2
theorem ok_zeros : Ok zeros := by unfold Ok zeros; decide
theorem ok_m9 : Ok m9 := by unfold Ok m9; decide +kernel
theorem ok_k1 : Ok k1 := by unfold Ok k1; decide +kernel
theorem ok_k2 : Ok k2 := by unfold Ok k2 k1; decide +kernel
theorem take_m9 (w : World) : Calls Try.prog 18 #[mval zeros, .int .i64 9] w fun e w' => e = .returned (mval m9) ∧ Below w.heap.size w w' := take_yes zeros ok_zeros 9 w (by decide) (by decide)
theorem take_k1 (w : World) : Calls Try.prog 18 #[mval zeros, .int .i64 1] w fun e w' => e = .returned (mval k1) ∧ Below w.heap.size w w' := take_yes zeros ok_zeros 1 w (by decide) (by decide)
theorem take_k2 (w : World) : Calls Try.prog 18 #[mval k1, .int .i64 2] w fun e w' => e = .returned (mval k2) ∧ Below w.heap.size w w' := take_yes k1 ok_k1 2 w (by decide) (by decide)
theorem first_k2 (w : World) : Calls Try.prog 14 #[mval k2, .int .i64 1] w fun e w' => e = .returned (.int .i64 3) ∧ Below w.heap.size w w' :=
  (first_any k2 ok_k2 1 w (by decide)).mono fun e w' ⟨n, hn, he, hb⟩ => by
    have h3 : IsFirst k2 1 3 := .inl ⟨by decide, by decide, by decide, by decide +kernel, fun j h1 h2 h3 => by
      have : j = 1 ∨ j = 2 := by omega
      rcases this with rfl | rfl <;> decide +kernel⟩
    rw [hn.same h3] at he
    exact ⟨he, hb⟩
theorem count_k2 (w : World) : Calls Try.prog 21 #[mval k2] w fun e w' => e = .returned (.int .i64 2) ∧ Below w.heap.size w w' :=
  (count_any k2 ok_k2 w).mono fun e w' ⟨he, hb⟩ => ⟨by rw [he, show popTo k2 16 = 2 from by decide +kernel]; rfl, hb⟩
theorem used_k2_2 (w : World) : Calls Try.prog 12 #[mval k2, .int .i64 2] w fun e w' => e = .returned (.bool true) ∧ Below w.heap.size w w' :=
  (used_yes k2 ok_k2 2 w (by decide) (by decide)).mono fun e w' ⟨he, hb⟩ => ⟨by rw [he, show bit k2 ((2:Int) - 1).toNat = true from by decide +kernel], hb⟩
theorem used_k2_3 (w : World) : Calls Try.prog 12 #[mval k2, .int .i64 3] w fun e w' => e = .returned (.bool false) ∧ Below w.heap.size w w' :=
  (used_yes k2 ok_k2 3 w (by decide) (by decide)).mono fun e w' ⟨he, hb⟩ => ⟨by rw [he, show bit k2 ((3:Int) - 1).toNat = false from by decide +kernel], hb⟩
set_option maxHeartbeats 2000000 in
theorem lives_any (w : World) : Calls Try.prog 13 #[] w fun e w' => e = .returned (.bool true) ∧ Below w.heap.size w w' := by
  go_enter Try.func13, Try.ntmps13
  go_wp2_with (first
    | (go_at_call 18; refine (take_m9 _).mono ?_; rintro e w1 ⟨rfl, hb1⟩)
    | (refine wpl_store23_new (m := m9) rfl _ _ rfl rfl rfl rfl ok_m9.1 ?_)
    | (refine wpl_load23 (m := m9) rfl _ rfl rfl (heap_alloc_new _ _) ok_m9.1 ?_))
  refine (bytes_any m9 ok_m9 _).mono ?_
  rintro e w2 ⟨g, cap, rfl, hown, hb2⟩
  obtain ⟨_, _, hv, hg1, hg2, hcap, hcell⟩ := own_at hown (by omega)
  obtain ⟨rfl, rfl⟩ : g = _ ∧ cap = _ := by simpa using hv
  have c1 : w2.cell? ⟨g, 1, none⟩ = some (.int .u8 1) := (hcell 1 (by omega)).trans (by rw [bb_get m9 16 1 (by omega), show m9.getD 1 0 = 1 from by decide +kernel]; rfl)
  have hbel2 : Below w.heap.size w w2 := below_then hb1 (below_new hb2)
  clear hown hcell hv hb2
  go_wp2_with fail
  refine (take_k1 _).mono ?_
  rintro e w3 ⟨rfl, hb3⟩
  go_wp2_with fail
  refine (take_k2 _).mono ?_
  rintro e w4 ⟨rfl, hb4⟩
  have c4 : w4.cell? ⟨g, 1, none⟩ = some (.int .u8 1) := (hb4.cell (p := ⟨g, 1, none⟩) (Nat.lt_of_lt_of_le hg2 hb3.size)).trans ((hb3.cell (p := ⟨g, 1, none⟩) hg2).trans c1)
  have hg4 : g < w4.heap.size := Nat.lt_of_lt_of_le hg2 (Nat.le_trans hb3.size hb4.size)
  have hbel4 := below_then hbel2 (below_then hb3 hb4)
  have c5 : ∀ o : Obj, (w4.alloc o).cell? ⟨g, 1, none⟩ = some (.int .u8 1) := fun o => by rw [World.cell?_alloc_past _ _ _ hg4]; exact c4
  clear c1 hg2 hb3 hb4 hbel2 c4
  go_wp2_with (first
    | (refine wpl_store23_new (m := k2) rfl _ _ rfl rfl rfl rfl ok_k2.1 ?_)
    | (refine wpl_load23 (m := k2) rfl _ rfl rfl (heap_alloc_new _ _) ok_k2.1 ?_))
  refine (first_k2 _).mono ?_
  rintro e w5 ⟨rfl, hb5⟩
  have b5 := blk_new hb5
  have l5 := (Array.getElem?_eq_some_iff.1 b5).1
  have hbel5 := below_then hbel4 (below_new hb5)
  clear c5 hb5 hg4 hbel4
  go_wp2_with (refine wpl_load23 (m := k2) rfl _ rfl rfl b5 ok_k2.1 ?_)
  refine (count_k2 _).mono ?_
  rintro e w6 ⟨rfl, hb6⟩
  have b6 := blk_below hb6 l5 b5
  have l6 := (Array.getElem?_eq_some_iff.1 b6).1
  have hbel6 := below_then hbel5 hb6
  clear hb6 l5 b5 hbel5
  go_wp2_with (refine wpl_load23 (m := k2) rfl _ rfl rfl b6 ok_k2.1 ?_)
  refine (used_k2_2 _).mono ?_
  rintro e w7 ⟨rfl, hb7⟩
  have b7 := blk_below hb7 l6 b6
  have hbel7 := below_then hbel6 hb7
  clear hb7 l6 b6 hbel6
  go_wp2_with (refine wpl_load23 (m := k2) rfl _ rfl rfl b7 ok_k2.1 ?_)
  refine (used_k2_3 _).mono ?_
  rintro e w8 ⟨rfl, hb8⟩
  have hbel8 := below_then hbel7 hb8
  go_wp2_with fail
  go_ret
  exact ⟨rfl, hbel8⟩
end Go.Proofs.Ytabccjmkgokglaa
