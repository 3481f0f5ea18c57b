/-
  WALKS: Bytes, Read, the references' Same, SameInts and Bytes.
-/
import Derived.Test.YtabccjmkgokglaaAll
namespace Go.Proofs.Ytabccjmkgokglaa
open Go.RowKit
theorem one_bb (m : List Nat) (n : Nat) : ∀ u ∈ bb m n, u.oneCell' = true := by
  intro u hu
  simp only [bb, List.mem_map] at hu
  obtain ⟨i, _, rfl⟩ := hu
  rfl
set_option maxHeartbeats 1000000 in
theorem bytes_any (m : List Nat) (hm : Ok m) (w : World) :
    Calls Try.prog 17 #[mval m] w fun e w' => ∃ g cap, e = .returned (.slice (some ⟨g, 0, none⟩) 16 cap) ∧ w'.ownsRow w.heap.size 5 1 (.slice (some ⟨g, 0, none⟩) 16 cap) 16 (bb m 16) ∧ Below w.heap.size w w' := by
  have hl := hm.1
  obtain ⟨i0, hi, hz0, hz, hb⟩ := info_parts info5
  have hcell : ∀ j u, (bb m 16)[j]? = some u → (w.alloc (.cells (mcells m) 23)).cell? ((⟨w.heap.size, 0, none⟩ : Addr).add j) = some u := by
    intro j u hu
    have hadd : (⟨w.heap.size, 0, none⟩ : Addr).add j = ⟨w.heap.size, j, none⟩ := by unfold Addr.add; split <;> simp_all
    have hj : j < 16 := by
      have := (List.getElem?_eq_some_iff.1 hu).1
      rwa [bb_len] at this
    rw [bb_get m 16 j hj] at hu
    rw [hadd, ← hu]
    exact blk_cell (heap_alloc_new _ _) (mcells_get m j (by omega))
  have HC := Lib.hid hcell
  clear hcell
  go_enter Try.func17, Try.ntmps17
  go_wp2_with (at_builtin; refine wpList_append_own _ rfl _ _ 30 rfl (w.heap.size + 1) 5 i0 _ 1 1 Try.underlying30 hi hz0 hz hb rfl (by decide) (.slice none 0 0) 0 [] rfl (World.ownsRow_nil _ _ _ _) ⟨w.heap.size, 0, none⟩ 16 16 (bb m 16) rfl (by rw [bb_len]) HC.out (one_bb m 16) (by unfold maxLen; omega) (by omega) (by simp) ?_; intro v' w' hown hgrow _)
  go_ret
  rw [Nat.zero_add, List.nil_append] at hown
  obtain ⟨g, cap, rfl, _⟩ := own_at hown (by omega)
  exact ⟨g, cap, rfl, own_mono hown (by omega), below_box ((Below.refl _ _).grown hgrow (by simp) (by simp [Value.ownBlock]))⟩
/-- 16 cells from any address on are loaded as a map. -/
theorem run_load23_at (w : World) (b off : Nat) (m : List Nat) (hm : m.length = 16) (hc : ∀ j, j < 16 → w.cell? ⟨b, off + j, none⟩ = some (.int .u8 (m.getD j 0 : Nat))) :
    (loadVar 23 ⟨b, off, none⟩).run Try.prog w = .ok (.agg (mcells m)) w := by
  have hl : (loadCells ⟨b, off, none⟩ (mcells m).toList.length).run Try.prog w = .ok (mcells m).toList.toArray w :=
    run_loadCells_list (P := Try.prog) w ⟨b, off, none⟩ (mcells m).toList (fun j v hv => by
      have hj : j < 16 := by
        have := (List.getElem?_eq_some_iff.1 hv).1
        simpa [mcells, hm] using this
      have hadd : (⟨b, off, none⟩ : Addr).add j = ⟨b, off + j, none⟩ := by unfold Addr.add; split <;> simp_all
      rw [hadd, hc j hj, ← mcells_get m j (by omega)]
      simpa using hv)
  have ha : (isAgg 23).run Try.prog w = .ok true w := by kernel_rfl
  have e : (mcells m).toList.length = 16 := by simp [mcells, hm]
  rw [e] at hl
  simp only [Array.toArray_toList] at hl
  unfold loadVar
  simp [Sem.run_bind, ha, hl]
theorem wpl_load23_at {ops : Array Oper} {rest : List Oper} {o : Oper} {a : Act} {w : World} {Q : Exit → Act → World → Prop} {m : List Nat} {b off : Nat}
    (hw : Region.wanted o (yielded ops a.tmps) = true) (x : Operand) (ho : o.op = .load 23 x) (hx : a.eval x = .pointer (some ⟨b, off, none⟩))
    (hc : ∀ j, j < 16 → w.cell? ⟨b, off + j, none⟩ = some (.int .u8 (m.getD j 0 : Nat))) (hm : m.length = 16) (h : wpList Try.prog ops Q rest (a.put o.dst (.agg (mcells m))) w) : wpList Try.prog ops Q (o :: rest) a w :=
  wpl_on hw fun _ hK => by
    unfold Oper.wp execOp
    simp only [ho, hx, Instr.loadAt, Instr.sureAddr, Sem.run_bind, Sem.run_pure, Result.andThen_ok, run_load23_at w b off m hm hc]
    exact hK _ _ h
theorem results_cell_tmp {P : Program} {fn : Func} {p t' : Tmp} {ty : TypeId} (h : fn.results = #[.cell p ty, .tmp t']) (tmps : Array Value) (w : World) (g : Nat) (t : TypeId) (cs : Array Value) (fr : Nat × Nat) (d : TypeDesc)
    (hp : tmps.getD p undef = .pointer (some ⟨g, 0, none⟩)) (hg : w.heap[g]? = some (.cells cs t fr))
    (hu : P.underlying ty = some d) (hd : (match d with | .struct _ | .array _ _ => true | _ => false) = true) (hi : (P.info? ty).map (·.size) = some cs.size) :
    (results fn tmps).run P w = .ok (.tuple #[.agg cs, tmps.getD t' undef]) w := by
  have hp' : tmps[p]?.getD undef = .pointer (some ⟨g, 0, none⟩) := by simpa using hp
  simp [results, h, hp', asAddr, run_loadVar_row w g t ty cs fr d hg hu hd hi]
set_option maxHeartbeats 1000000 in
theorem read_short (A : Option Addr) (n cap : Nat) (hn : n < 16) (w : World) :
    Calls Try.prog 15 #[.slice A n cap] w fun e w' => e = .returned (.tuple #[mval zeros, .int .i64 3]) ∧ Below w.heap.size w w' := by
  go_enter Try.func15, Try.ntmps15
  go_wp2_with (first
    | (refine wpl_store23 (m := zeros) rfl _ _ rfl rfl rfl (heap_alloc_new _ _) rfl rfl ?_))
  refine bodyPost_ret (v := .tuple #[.agg (mcells zeros), .int .i64 3]) (results_cell_tmp (p := 2) (t' := 3) rfl _ _ w.heap.size 23 (mcells zeros) (0,0) _ rfl (setRow_heap _ _ _ _ _ _ (heap_alloc_new _ _)) Try.underlying23 rfl (info23 rfl)) rfl ⟨rfl, ?_⟩
  exact below_setRow' ((Below.refl _ _).alloc (Nat.le_refl _) _) (Nat.le_refl _) _
set_option maxHeartbeats 1000000 in
theorem read_map (m : List Nat) (hm : m.length = 16) (b off n cap : Nat) (hn : 16 ≤ n) (hcap : n ≤ cap) (hb : n ≤ 9223372036854775807) (w : World) (hw : b < w.heap.size) (hc : ∀ j, j < 16 → w.cell? ⟨b, off + j, none⟩ = some (.int .u8 (m.getD j 0 : Nat))) :
    Calls Try.prog 15 #[.slice (some ⟨b, off, none⟩) n cap] w fun e w' => e = .returned (.tuple #[mval m, .int .i64 0]) ∧ Below w.heap.size w w' := by
  have hcell : ∀ o : Obj, ∀ j, j < 16 → (w.alloc o).cell? ⟨b, off + j, none⟩ = some (.int .u8 (m.getD j 0 : Nat)) := fun o j hj => by
    rw [World.cell?_alloc_past _ _ _ hw]; exact hc j hj
  have HC := Lib.hid hcell
  clear hcell hc
  have har : ∀ w, (Instr.arrayAt 23 (.slice (some ⟨b, off, none⟩) 16 cap)).run Try.prog w = .ok (.pointer (some ⟨b, off, none⟩)) w := fun w => run_arrayAt (w := w) 23 5 16 _ 16 cap Try.underlying23 (Nat.le_refl _)
  go_enter Try.func15, Try.ntmps15
  go_wp2_with (first
    | (refine wpl_load23_at (m := m) rfl _ rfl rfl (HC.out _) hm ?_)
    | (refine wpl_store23 (m := m) rfl _ _ rfl rfl rfl (heap_alloc_new _ _) rfl hm ?_))
  refine bodyPost_ret (v := .tuple #[.agg (mcells m), .int .i64 0]) (results_cell_tmp (p := 2) (t' := 3) rfl _ _ w.heap.size 23 (mcells m) (0,0) _ rfl (setRow_heap _ _ _ _ _ _ (heap_alloc_new _ _)) Try.underlying23 rfl (info23 hm)) rfl ⟨rfl, ?_⟩
  exact below_setRow' ((Below.refl _ _).alloc (Nat.le_refl _) _) (Nat.le_refl _) _
set_option maxHeartbeats 1000000 in
theorem same_yes (n b1 o1 c1 b2 o2 c2 : Nat) (f : Nat → Int) (hn : n ≤ 1000000) (w : World) (h1 : b1 < w.heap.size) (h2 : b2 < w.heap.size)
    (hc1 : ∀ j, j < n → w.cell? ⟨b1, o1 + j, none⟩ = some (.int .u8 (f j))) (hc2 : ∀ j, j < n → w.cell? ⟨b2, o2 + j, none⟩ = some (.int .u8 (f j))) :
    Calls Try.prog 16 #[.slice (some ⟨b1, o1, none⟩) n c1, .slice (some ⟨b2, o2, none⟩) n c2] w fun e w' => e = .returned (.bool true) ∧ Below w.heap.size w w' := by
  have H1 := Lib.hid hc1
  have H2 := Lib.hid hc2
  clear hc1 hc2
  go_enter Try.func16, Try.ntmps16
  go_wp2
  go_loopw [5] (fun i wr => ∃ k : Nat, k ≤ n ∧ i = .int .i64 k ∧ Below w.heap.size w wr) (fun i _ => n - (intOf i).toNat)
  case atStart => exact ⟨0, Nat.zero_le _, rfl, Below.refl _ _⟩
  case round =>
    obtain ⟨k, hk, rfl, hbel⟩ := hrel
    by_cases hlt : k < n
    · have hd : decide ((k : Int) < (n : Int)) = true := by simp; omega
      have d1 := (hbel.cell (p := ⟨b1, o1 + k, none⟩) h1).trans (H1.out k hlt)
      have d2 := (hbel.cell (p := ⟨b2, o2 + k, none⟩) h2).trans (H2.out k hlt)
      generalize f k = x at *
      go_wp2
      go_quiet (fail)
      go_wp2
      exact ⟨⟨k + 1, by omega, by go_num, below_drewN hbel _⟩, by simp [intOf]; omega⟩
    · have hk16 : k = n := by omega
      subst hk16
      go_wp2
      go_ret
      exact ⟨rfl, hbel⟩
set_option maxHeartbeats 1000000 in
theorem sameInts_at (n : Nat) (A1 A2 : Option Addr) (c1 c2 : Nat) (f : Nat → Int) (hn : n ≤ 1000000) (w : World)
    (hc : 0 < n → ∃ b1 b2, A1 = some ⟨b1, 0, none⟩ ∧ A2 = some ⟨b2, 0, none⟩ ∧ b1 < w.heap.size ∧ b2 < w.heap.size ∧ (∀ j, j < n → w.cell? ⟨b1, j, none⟩ = some (.int .i64 (f j))) ∧ (∀ j, j < n → w.cell? ⟨b2, j, none⟩ = some (.int .i64 (f j)))) :
    Calls Try.prog 23 #[.slice A1 n c1, .slice A2 n c2] w fun e w' => e = .returned (.bool true) ∧ Below w.heap.size w w' := by
  by_cases h0 : 0 < n
  · obtain ⟨b1, b2, rfl, rfl, h1, h2, hc1, hc2⟩ := hc h0
    have H1 := Lib.hid hc1
    have H2 := Lib.hid hc2
    clear hc1 hc2 hc
    go_enter Try.func23, Try.ntmps23
    go_wp2
    go_loopw [5] (fun i wr => ∃ k : Nat, k ≤ n ∧ i = .int .i64 k ∧ Below w.heap.size w wr) (fun i _ => n - (intOf i).toNat)
    case atStart => exact ⟨0, Nat.zero_le _, rfl, Below.refl _ _⟩
    case round =>
      obtain ⟨k, hk, rfl, hbel⟩ := hrel
      by_cases hlt : k < n
      · have hd : decide ((k : Int) < (n : Int)) = true := by simp; omega
        have d1 := (hbel.cell (p := ⟨b1, k, none⟩) h1).trans (H1.out k hlt)
        have d2 := (hbel.cell (p := ⟨b2, k, none⟩) h2).trans (H2.out k hlt)
        generalize f k = x at *
        go_wp2
        go_quiet (fail)
        go_wp2
        exact ⟨⟨k + 1, by omega, by go_num, below_drewN hbel _⟩, by simp [intOf]; omega⟩
      · have hk16 : k = n := by omega
        subst hk16
        go_wp2
        go_ret
        exact ⟨rfl, hbel⟩
  · obtain rfl : n = 0 := by omega
    clear hc
    go_enter Try.func23, Try.ntmps23
    go_wp2
    go_loop [5] (fun i => i = .int .i64 0) (fun _ => 0)
    case atStart => rfl
    case round =>
      subst hrel
      go_wp2
      go_ret
      exact ⟨rfl, Below.refl _ _⟩
theorem own_shape {w : World} {B : Nat} {e : TypeId} {v : Value} {n : Nat} {xs : List Value} (h : w.ownsRow B e 1 v n xs) :
    ∃ A c, v = .slice A n c ∧ (0 < n → ∃ g, A = some ⟨g, 0, none⟩ ∧ B ≤ g ∧ g < w.heap.size ∧ ∀ j, j < n → w.cell? ⟨g, j, none⟩ = xs[j]?) := by
  by_cases h0 : 0 < n
  · obtain ⟨g, cap, rfl, k1, k2, k3, k4⟩ := own_at h h0
    exact ⟨_, _, rfl, fun _ => ⟨g, rfl, k1, k2, k4⟩⟩
  · obtain rfl : n = 0 := by omega
    rcases h.2 with ⟨rfl, _⟩ | ⟨g, cap, cur, rfl, _⟩
    · exact ⟨_, _, rfl, fun h => by omega⟩
    · exact ⟨_, _, rfl, fun h => by omega⟩
theorem sameInts_yes (l : List Nat) (hl : l.length ≤ 1000000) (B1 B2 : Nat) (v1 v2 : Value) (w : World) (h1 : w.ownsRow B1 3 1 v1 l.length (ints l)) (h2 : w.ownsRow B2 3 1 v2 l.length (ints l)) :
    Calls Try.prog 23 #[v1, v2] w fun e w' => e = .returned (.bool true) ∧ Below w.heap.size w w' := by
  obtain ⟨A1, c1, rfl, k1⟩ := own_shape h1
  obtain ⟨A2, c2, rfl, k2⟩ := own_shape h2
  refine sameInts_at l.length A1 A2 c1 c2 (fun j => (l.getD j 0 : Nat)) hl w fun h => ?_
  obtain ⟨g1, rfl, _, e1, f1⟩ := k1 h
  obtain ⟨g2, rfl, _, e2, f2⟩ := k2 h
  have hx : ∀ j, j < l.length → (ints l)[j]? = some (.int .i64 (l.getD j 0 : Nat)) := fun j hj => by simp [ints, hj]
  exact ⟨g1, g2, rfl, rfl, e1, e2, fun j hj => (f1 j hj).trans (hx j hj), fun j hj => (f2 j hj).trans (hx j hj)⟩
end Go.Proofs.Ytabccjmkgokglaa
