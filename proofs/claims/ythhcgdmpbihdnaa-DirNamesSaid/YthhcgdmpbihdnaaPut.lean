/-
  num.Put of one byte; is there a block.
-/
import Derived.Test.YthhcgdmpbihdnaaBytes
namespace Go.Proofs.Ythhcgdmpbihdnaa
open Go.RowKit Go.Deep
theorem width1 (w : World) : Calls Try.prog 49 #[.int .i64 1] w fun e w' => e = .returned (.bool true) ∧ w = w' := by
  go_enter Try.func49, Try.ntmps49
  go_wp2
  go_ret
  exact ⟨rfl, rfl⟩
theorem fits1 (n : Nat) (hn : n < 256) (w : World) : Calls Try.prog 45 #[.int .i64 n, .int .i64 1] w fun e w' => e = .returned (.bool true) ∧ w = w' := by
  have hd : (n : Int) / 256 = 0 := by omega
  go_enter Try.func45, Try.ntmps45
  go_wp2_with (go_at_call 49; refine (width1 _).mono ?_; rintro e w1 ⟨rfl, rfl⟩)
  go_ret
  exact ⟨rfl, rfl⟩
theorem dirIs_any (k : Int) (w : World) : Calls Try.prog 35 #[.int .i64 k] w fun e w' => e = .returned (.bool (decide (0 ≤ k) && decide (k < 4))) ∧ w = w' := by
  have hor : k < 0 ∨ (0 ≤ k ∧ k < 4) ∨ (0 ≤ k ∧ 4 ≤ k) := by omega
  rcases hor with h | ⟨h, h2⟩ | ⟨h, h2⟩
  · have HR : Hid ((decide (0 ≤ k) && decide (k < 4)) = false) := Lib.hid (by simp; omega)
    go_enter Try.func35, Try.ntmps35
    go_wp2
    go_ret
    exact ⟨by rw [HR.out]; rfl, rfl⟩
  · have HR : Hid ((decide (0 ≤ k) && decide (k < 4)) = true) := Lib.hid (by simp; omega)
    have hd : decide (k < 4) = true := decide_eq_true h2
    go_enter Try.func35, Try.ntmps35
    go_wp2
    go_ret
    exact ⟨by rw [HR.out]; rfl, rfl⟩
  · have HR : Hid ((decide (0 ≤ k) && decide (k < 4)) = false) := Lib.hid (by simp; omega)
    have hd : decide (k < 4) = false := decide_eq_false (by omega)
    go_enter Try.func35, Try.ntmps35
    go_wp2
    go_ret
    exact ⟨by rw [HR.out]; rfl, rfl⟩
/-- 'b = append(b, x)' of a byte. -/
theorem wpl_appx {ops : Array Oper} {rest : List Oper} {o : Oper} {a : Act} {Q : Exit → Act → World → Prop} {w : World} {B : Nat} (hgd : Region.wanted o (yielded ops a.tmps) = true)
    (s x : Operand) (ho : o.op = .call { callee := .builtin .append, args := #[s, x], argTypes := #[39, 39] }) {v : Value} {n : Nat} {xs : List Value} {m : Nat} {cs : List Value} (hcs : cs.length = m) (h1 : ∀ u ∈ cs, u.oneCell' = true)
    (hs : a.eval s = v) (hown : w.ownsRow B 5 1 v n xs) (hx : a.eval x = .slice (some ⟨w.heap.size, 0, none⟩) m m) (hn : n + m < 1000000) (hB : B ≤ w.heap.size)
    (h : ∀ v' w', w'.ownsRow B 5 1 v' (n + m) (xs ++ cs) → w.grownBy w' v.ownBlock → wpList Try.prog ops Q rest (a.put o.dst v') w') : wpList Try.prog ops Q (o :: rest) a (w.alloc (.cells cs.toArray 5)) := by
  refine wpl_on hgd fun K hK => ?_
  obtain ⟨i0, hi, hz0, hz, hb⟩ := info_parts info5
  obtain ⟨v', w', hr, h1, h2, _⟩ := run_append_own (P := Try.prog) (w.alloc (.cells cs.toArray 5)) B 39 o.type 5 i0 _ 1 1 Try.underlying39 hi hz0 hz hb rfl (by decide) v n xs (hown.alloc _) ⟨w.heap.size, 0, none⟩ m m cs (by omega) (fun j y hj => by
    rw [add_lit', Nat.zero_add]
    exact blk_cell (heap_alloc_new _ _) (by simpa using hj)) h1 (by unfold maxLen; omega) (by omega) (by simp; omega)
  unfold Oper.wp execOp
  simp only [ho, resolve, invoke, builtin, Sem.run_bind, Sem.run_pure, Result.andThen_ok, List.map_toArray, List.map_cons, List.map_nil, hs, hx, hr]
  exact hK _ _ (h v' w' h1 (only_trans (World.grownBy_alloc w _ _) h2))
set_option maxHeartbeats 1000000 in
theorem put_any {w : World} {v : Value} {l : List Nat} (h : Byt w v l) (n : Nat) (hn : n < 256) (hl : l.length < 1000) :
    Calls Try.prog 36 #[v, .int .i64 n, .int .i64 1] w fun e w' => ∃ v', e = .returned v' ∧ w'.ownsRow w.heap.size 5 1 v' (l.length + 1) (bl (l ++ [n])) ∧ Below w.heap.size w w' := by
  have HC := Lib.hid (clone_any w h (by omega))
  have HF := Lib.hid (fits1 n hn)
  have hst : bl (l ++ [n]) = bl l ++ [.int .u8 (n : Nat)] := by simp [bl]
  have HST := Lib.hid hst
  have hw1 : IntKind.u8.wrap (n : Int) = n := by rw [IntKind.wrap_u8']; omega
  clear h hst
  go_enter Try.func36, Try.ntmps36
  go_wp2_with (first
    | (go_at_call 44; refine (HC.out).mono ?_; rintro e w1 ⟨v', rfl, _, _, hb1, hown1⟩)
    | (go_at_call 45; refine (HF.out _).mono ?_; rintro e w2 ⟨rfl, rfl⟩))
  have HB1 := Lib.hid hb1
  have HO1 := Lib.hid hown1
  clear hb1 hown1
  go_loopw [0, 7, 16] (fun y _ i wr => (i = .int .i64 0 ∧ y = v' ∧ wr = w1) ∨ (i = .int .i64 1 ∧ wr.ownsRow w.heap.size 5 1 y (l.length + 1) (bl (l ++ [n])) ∧ Below w.heap.size w wr)) (fun _ _ i _ => 1 - (intOf i).toNat)
  case atStart => exact .inl ⟨rfl, rfl, rfl⟩
  case round =>
    have hsz1 := HB1.out.size
    rcases hrel with ⟨rfl, rfl, rfl⟩ | ⟨rfl, ho, hb⟩
    · go_wp2_with (at_builtin; refine wpl_appx (m := 1) (cs := [.int .u8 (n : Int)]) rfl _ _ rfl rfl (by intro u hu; simp at hu; subst hu; rfl) rfl HO1.out rfl (by omega) hsz1 ?_; intro v2 w2 hown2 hgr2; have HO2 := Lib.hid hown2; have HG2 := Lib.hid hgr2; clear hown2 hgr2)
      exact ⟨.inr ⟨rfl, by rw [HST.out]; exact HO2.out, HB1.out.grown HG2.out hsz1 (fun b hb => (HO1.out.lt b hb).1)⟩, by simp [intOf]⟩
    · have HO := Lib.hid ho
      have HB := Lib.hid hb
      clear ho hb
      go_wp2
      go_ret
      exact ⟨_, rfl, HO.out, HB.out⟩
end Go.Proofs.Ythhcgdmpbihdnaa
