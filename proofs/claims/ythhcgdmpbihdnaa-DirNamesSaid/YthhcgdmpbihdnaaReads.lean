/-
  DirReads: for any entries, any block and any bytes the law returns true: bytes are read as just the document's entries, or refused. No condition.
-/
import Derived.Test.YthhcgdmpbihdnaaRead
namespace Go.Proofs.Ythhcgdmpbihdnaa
open Go.ChangeShapes Go.WideShapes Go.ChangeAt Go.RowKit Go.Deep
theorem part24 (f : Nat → Ent) (i : Nat) (hi : i < 16) (w : World) : (part 24 (tabv f) (i * 2)).run Try.prog w = .ok (.agg #[.string (f i).nm, .int .i64 (f i).ino]) w := by
  have hia : (isAgg 24).run Try.prog w = .ok true w := by kernel_rfl

  have hx : (tabv f).extract (i * 2) (i * 2 + 2) = #[.string (f i).nm, .int .i64 (f i).ino] := by
    have h0 := tabv_nm f i hi
    have h1 := tabv_ino f i hi
    have hsz := tabv_size f
    generalize tabv f = t at *
    apply Array.ext_getElem?
    intro j
    rw [Array.getElem?_extract]
    by_cases hj : j < 2
    · rw [if_pos (by omega)]
      have : j = 0 ∨ j = 1 := by omega
      rcases this with rfl | rfl
      · exact h0
      · exact h1
    · rw [if_neg (by omega), Array.getElem?_eq_none (by simp; omega)]
  simp [part, Sem.run_bind, hia, hx]
theorem eql26 (f : Nat → Ent) (w : World) : (binOp .eql 26 (.agg (tabv f)) (.agg (tabv f))).run Try.prog w = .ok (.bool true) w := by
  rw [run_eql_struct, run_equalIn_array w 9999 26 24 16 2 (tabv f) (tabv f) _ _ (fun _ => true) Try.underlying26 (by kernel_rfl) (fun i hi => part24 f i hi w) (fun i hi => part24 f i hi w) (fun i _ => by go_simp)]
  rfl
section
variable {ops : Array Oper} {rest : List Oper} {a : Act} {w : World} {Q : Exit → Act → World → Prop}
theorem ld26w {d : Option Tmp} {t : TypeId} {ps : String} {af : Array Edge} {gd : Option (Nat × Bool)} {x : Operand} {f : Nat → Ent} {g : Nat} {fr : Nat × Nat} (hw : Region.wanted { dst := d, op := .load 26 x, type := t, pos := ps, after := af, guard := gd } (yielded ops a.tmps) = true) (hx : a.eval x = .pointer (some ⟨g, 0, none⟩))
    (hg : w.heap[g]? = some (.cells (tabv f) 26 fr)) (h : wpList Try.prog ops Q rest (a.put d (.agg (tabv f))) w) : wpList Try.prog ops Q ({ dst := d, op := .load 26 x, type := t, pos := ps, after := af, guard := gd } :: rest) a w :=
  wpl_load26 hw x rfl hx hg h
theorem eq26w {d : Option Tmp} {t t' : TypeId} {ps : String} {af : Array Edge} {gd : Option (Nat × Bool)} {x y : Operand} {f : Nat → Ent} (hw : Region.wanted { dst := d, op := .binOp .eql 26 x y t', type := t, pos := ps, after := af, guard := gd } (yielded ops a.tmps) = true) (hx : a.eval x = .agg (tabv f)) (hy : a.eval y = .agg (tabv f))
    (h : wpList Try.prog ops Q rest (a.put d (.bool true)) w) : wpList Try.prog ops Q ({ dst := d, op := .binOp .eql 26 x y t', type := t, pos := ps, after := af, guard := gd } :: rest) a w := by
  refine wpl_on hw fun K hK => ?_
  have hgd : (eqGuard .eql 26 x y (.agg (tabv f)) (.agg (tabv f))).run Try.prog w = .ok () w := run_eqGuard_agg w .eql 26 x y _ _ (by kernel_rfl)
  unfold Oper.wp execOp
  simp only [hx, hy, Sem.run_bind, hgd, Result.andThen_ok, eql26, Sem.run_pure]
  exact hK _ _ h
end
/-! ### THE LAW -/
theorem getD_take (l : List Nat) (n q : Nat) (h : q < n) : (l.take n).getD q 0 = l.getD q 0 := by
  simp only [List.getD_eq_getElem?_getD, List.getElem?_take, if_pos h]
theorem zr_take (l : List Nat) (n i q : Nat) : ∀ z, 16 * i + q + z ≤ n → zr (l.take n) i q z = zr l i q z
  | 0, _ => rfl
  | z + 1, h => by rw [zr, zr, zr_take l n i q z (by omega), getD_take _ _ _ (by omega)]
theorem rd_take (l : List Nat) (n i : Nat) (hi : 16 * i + 16 ≤ n) (hn : nl l i ≤ 12) : rd (l.take n) i = rd l i := by
  have h1 : nl (l.take n) i = nl l i := getD_take _ _ _ (by omega)
  unfold rd
  rw [h1, getD_take _ _ _ (by omega)]
  congr 2
  apply List.ext_getElem?
  intro q
  rw [List.getElem?_take, List.getElem?_take]
  by_cases hq : q < nl l i
  · rw [if_pos hq, if_pos hq, List.getElem?_drop, List.getElem?_drop, List.getElem?_take, if_pos (by omega)]
  · rw [if_neg hq, if_neg hq]
theorem okR_take (l : List Nat) (n i : Nat) (hi : 16 * i + 16 ≤ n) : okR (l.take n) i = okR l i := by
  have h1 : nl (l.take n) i = nl l i := getD_take _ _ _ (by omega)
  unfold okR
  rw [h1]
  by_cases hn : nl l i ≤ 12
  · rw [rd_take l n i hi hn, zr_take _ _ _ _ _ (by omega)]
  · rw [decide_eq_false hn, Bool.false_and, Bool.false_and]
theorem okToj_take (l : List Nat) (n : Nat) (hn : 64 ≤ n) : ∀ j, j ≤ 4 → okTo' (l.take n) j = okTo' l j
  | 0, _ => rfl
  | j + 1, hj => by rw [okTo', okTo', okToj_take l n hn j (by omega), okR_take l n j (by omega)]
theorem okTo_take (l : List Nat) (n : Nat) (hn : 64 ≤ n) : okTo' (l.take n) 4 = okTo' l 4 := okToj_take l n hn 4 (Nat.le_refl _)
def RwG (w : World) (g cap : Nat) (f : Nat → Ent) (n : Nat) : Prop :=
  ∃ cur, w.heap[g]? = some (.cells cur 24 (0, 0)) ∧ n ≤ cap ∧ cap ≤ maxLen ∧ cur.size = cap * 2 ∧ cur.toList.take (n * 2) = ecs f n
theorem RwG.rw {w : World} {g cap : Nat} {f : Nat → Ent} {n : Nat} (h : RwG w g cap f n) : Rw w (.slice (some ⟨g, 0, none⟩) n cap) f n := by
  obtain ⟨cur, h⟩ := h
  exact ⟨g, cap, cur, rfl, h⟩
theorem Rw.g {w : World} {v : Value} {f : Nat → Ent} {n : Nat} (h : Rw w v f n) : ∃ g cap, v = .slice (some ⟨g, 0, none⟩) n cap ∧ RwG w g cap f n := by
  obtain ⟨g, cap, cur, h0, h⟩ := h
  exact ⟨g, cap, h0, cur, h⟩
theorem RwG.lt {w : World} {g cap : Nat} {f : Nat → Ent} {n : Nat} (h : RwG w g cap f n) : g < w.heap.size := by
  obtain ⟨cur, h, _⟩ := h
  exact blk_lt h
theorem RwG.below {w w' : World} {g cap : Nat} {f : Nat → Ent} {n : Nat} (h : RwG w g cap f n) (k : Below w.heap.size w w') : RwG w' g cap f n := by
  obtain ⟨cur, h, r⟩ := h
  exact ⟨cur, blk_below k (blk_lt h) h, r⟩
theorem RwG.other {w : World} {g cap b i : Nat} {f : Nat → Ent} {n : Nat} (h : RwG w g cap f n) (hb : g ≠ b) (u : Value) : RwG (w.setCell ⟨b, i, none⟩ u) g cap f n := by
  obtain ⟨cur, h, r⟩ := h
  exact ⟨cur, blk_set_other h hb, r⟩
theorem RwG.set {w : World} {g cap : Nat} {f : Nat → Ent} {n k : Nat} (h : RwG w g cap f n) (hk : k < n) (s : ByteArray) (m : Int) : RwG ((w.setCell ⟨g, k * 2, none⟩ (.string s)).setCell ⟨g, k * 2 + 1, none⟩ (.int .i64 m)) g cap (upd f k ⟨s, m⟩) n := by
  obtain ⟨g', cap', e, _, _, h1, _⟩ := rw_set hk h.rw s m
  injection e with e1 e2 e3
  injection e1 with e1
  injection e1 with e1
  subst e1 e3
  obtain ⟨g2, cap2, e, h2⟩ := h1.g
  injection e with e1 e2 e3
  injection e1 with e1
  injection e1 with e1
  subst e1 e3
  exact h2
theorem RwG.cells {w : World} {g cap : Nat} {f : Nat → Ent} {n k : Nat} (h : RwG w g cap f n) (hk : k < n) : w.cell? ⟨g, k * 2, none⟩ = some (.string (f k).nm) ∧ w.cell? ⟨g, k * 2 + 1, none⟩ = some (.int .i64 (f k).ino) ∧
    w.frozen? ⟨g, k * 2, none⟩ = false ∧ w.frozen? ⟨g, k * 2 + 1, none⟩ = false := by
  have e1 : k * 2 < n * 2 := by omega
  have e2 : k * 2 + 1 < n * 2 := by omega
  obtain ⟨cur, h, _, _, _, h4⟩ := h
  have hget := rw_get h4
  exact ⟨blk_cell h ((hget (k * 2) e1).trans (ecs_nm f n k hk)), blk_cell h ((hget (k * 2 + 1) e2).trans (ecs_ino f n k hk)), frozen_of_row _ _ _ _ _ h, frozen_of_row _ _ _ _ _ h⟩
theorem own_rwg {w : World} {B : Nat} {v : Value} {f : Nat → Ent} {n : Nat} (h : w.ownsRow B 24 2 v n (ecs f n)) (hn : 0 < n) : ∃ g cap, v = .slice (some ⟨g, 0, none⟩) n cap ∧ B ≤ g ∧ RwG w g cap f n := by
  rcases h.2 with ⟨_, h0⟩ | ⟨g, cap, cur, rfl, hb, hg, hc, h5, h6, h7⟩
  · omega
  · exact ⟨g, cap, rfl, hb, cur, hg, hc, h5, h6, h7⟩
/-- The bytes as the law takes them: at most a hundred. -/
theorem cut100 {w : World} {A : Option Addr} {cap n : Nat} {l : List Nat} (h : Byt w (.slice A n cap) l) (hn : l.length = n) (hb : ∀ x ∈ l, x < 256) :
    ∃ n' l', Byt w (.slice A n' cap) l' ∧ l'.length = n' ∧ n' ≤ 100 ∧ (∀ x ∈ l', x < 256) ∧ ((100 < n ∧ n' = 100) ∨ (n ≤ 100 ∧ n' = n)) ∧ (l' = l ∨ l' = l.take 100) := by
  by_cases hc : 100 < n
  · exact ⟨100, l.take 100, h.cut' hn (by omega), by simp; omega, Nat.le_refl _, fun x hx => hb x (List.mem_of_mem_take hx), .inl ⟨hc, rfl⟩, .inr rfl⟩
  · exact ⟨n, l, h, hn, by omega, hb, .inr ⟨by omega, rfl⟩, .inl rfl⟩
set_option maxRecDepth 100000 in
set_option maxHeartbeats 1000000 in
theorem readsArg {w : World} {v : Value} {f : Nat → Ent} {n0 : Nat} (h : Inp w v f n0) (k : Int) (hk : ¬ (0 ≤ k ∧ k < 4)) {vb : Value} {l : List Nat} (hy : Byt w vb l) (hlt : ∀ x ∈ l, x < 256) :
    Calls Try.prog 6 #[v, .int .i64 k, vb] w fun e w' => e = .returned (.bool true) ∧ Below w.heap.size w w' := by
  have hk2 : k < 0 ∨ (0 ≤ k ∧ 3 < k) := by omega
  have HFS := Lib.hid (made_size h)
  have HT := Lib.hid (table_any h)
  generalize made f n0 = F at *
  clear h
  obtain ⟨A, cap, rfl, hc1, hc2, _, _⟩ := id hy
  unfold maxLen at hc2
  generalize hn : l.length = n at *
  obtain ⟨n', l', hy', hn', h100, hlt', hor, hl'⟩ := cut100 hy hn hlt
  have HY := Lib.hid hy'
  have HN := Lib.hid hn'
  have HLT := Lib.hid hlt'
  have hcap' : n' ≤ cap := by omega
  clear hy hy' hn hn' hlt hlt' hl'
  have HRD := Lib.hid fun W (h : Byt W (.slice A n' cap) l') => read_arg F k hk h
  clear hk
  rcases hk2 with hk2 | ⟨hk2, hk3⟩
  all_goals
   rcases hor with ⟨hor, rfl⟩ | ⟨hor, rfl⟩
   all_goals
    go_enter Try.func6, Try.ntmps6
    go_wp2_with fail
    refine (HT.out).mono ?_
    rintro e w1 ⟨v', rfl, hown, hb1⟩
    obtain ⟨g, rcap, rfl, hgw, hrg⟩ := own_rwg hown (by decide)
    have t7 := heap_alloc_new w1 (.cells (tabv F) 26)
    have HRG := Lib.hid (hrg.below ((Below.refl _ _).alloc (Nat.le_refl _) (.cells (tabv F) 26)))
    have HB1 := Lib.hid (show Below w.heap.size w (w1.alloc (.cells (tabv F) 26)) from hb1.alloc (by have := hb1.size; omega) _)
    have HY1 := Lib.hid ((HY.out.below hb1).below ((Below.refl _ _).alloc (Nat.le_refl _) (.cells (tabv F) 26)))
    have hl7 := blk_lt t7
    clear hb1 hown hrg HT
    go_wp2_with (first
      | ((with_reducible refine st26n (f := F) ?_ ?_ ?_ ?_); exact rfl; exact rfl; exact rfl)
      | ((with_reducible refine ld26 ?_ t7 ?_); exact rfl; generalize w1.alloc (.cells (tabv F) 26) = w2 at *))
    refine (HRD.out _ HY1.out).mono ?_
    rintro e w3 ⟨rfl, hb3⟩
    have HRG3 := Lib.hid (HRG.out.below hb3)
    have t7' := blk_below hb3 hl7 t7
    have HB3 := Lib.hid (below_then HB1.out hb3)
    have HY3 := Lib.hid (HY1.out.below hb3)
    have t9 := heap_alloc_new w3 (.cells (tabv F) 26)
    have t7a := blk_alloc (x := .cells (tabv F) 26) t7'
    have HRG4 := Lib.hid (HRG3.out.below ((Below.refl _ _).alloc (Nat.le_refl _) (.cells (tabv F) 26)))
    have HB4 := Lib.hid (show Below w.heap.size w (w3.alloc (.cells (tabv F) 26)) from HB3.out.alloc (by have := HB3.out.size; omega) _)
    have HY4 := Lib.hid (HY3.out.below ((Below.refl _ _).alloc (Nat.le_refl _) (.cells (tabv F) 26)))
    have hs3 : w.heap.size ≤ w3.heap.size := HB3.out.size
    have hne : g ≠ w3.heap.size := by have := HRG3.out.lt; omega
    clear hb3 t7 hl7 HRG HRG3 HB1 HB3 HY1 HY3 t7'
    go_wp2_with (first
      | ((with_reducible refine st26n (f := F) ?_ ?_ ?_ ?_); exact rfl; exact rfl; exact rfl; generalize w3.alloc (.cells (tabv F) 26) = w4 at *)
      | ((with_reducible refine ld26w (x := .tmp 9) ?_ ?_ t9 ?_); exact rfl; exact rfl)
      | ((with_reducible refine ld26w (x := .tmp 7) ?_ ?_ t7a ?_); exact rfl; exact rfl)
      | ((with_reducible refine eq26w (f := F) ?_ ?_ ?_ ?_); exact rfl; exact rfl; exact rfl)
      | (go_at_call 16; refine (lives_any _).mono ?_; rintro e w9 ⟨rfl, hb9⟩; have HB9 := Lib.hid (below_then HB4.out hb9); clear hb9))
    go_ret
    exact ⟨rfl, HB9.out⟩
set_option maxRecDepth 100000 in
set_option maxHeartbeats 1000000 in
theorem readsShort {w : World} {v : Value} {f : Nat → Ent} {n0 : Nat} (h : Inp w v f n0) (k : Nat) (hk : k < 4) {vb : Value} {l : List Nat} (hy : Byt w vb l) (hlt : ∀ x ∈ l, x < 256) (hs : l.length < 64) :
    Calls Try.prog 6 #[v, .int .i64 (k : Nat), vb] w fun e w' => e = .returned (.bool true) ∧ Below w.heap.size w w' := by
  have HFS := Lib.hid (made_size h)
  have HT := Lib.hid (table_any h)
  generalize made f n0 = F at *
  clear h
  obtain ⟨A, cap, rfl, hc1, hc2, _, _⟩ := id hy
  unfold maxLen at hc2
  generalize hn : l.length = n at *
  obtain ⟨n', l', hy', hn', h100, hlt', hor, hl'⟩ := cut100 hy hn hlt
  have HY := Lib.hid hy'
  have HN := Lib.hid hn'
  have HLT := Lib.hid hlt'
  have hcap' : n' ≤ cap := by omega
  have hl : l'.length < 64 ∨ 64 ≤ l'.length := by omega
  have HRD := Lib.hid fun W (h : Byt W (.slice A n' cap) l') => read_short F k hk h (by omega)
  have HRR := Lib.hid fun W (h : Byt W (.slice A n' cap) l') => rread_short h (by omega)
  clear hy hy' hn hn' hlt hlt' hl
  have hk3 : ¬ (3 < (k : Int)) := by omega
  have hkd : decide (3 < (k : Int)) = false := decide_eq_false hk3
  have hk0 : ¬ ((k : Int) < 0) := by omega
  rcases hor with ⟨hor, rfl⟩ | ⟨hor, rfl⟩
  · exfalso; omega
  all_goals
    go_enter Try.func6, Try.ntmps6
    go_wp2_with fail
    refine (HT.out).mono ?_
    rintro e w1 ⟨v', rfl, hown, hb1⟩
    obtain ⟨g, rcap, rfl, hgw, hrg⟩ := own_rwg hown (by decide)
    have t7 := heap_alloc_new w1 (.cells (tabv F) 26)
    have HRG := Lib.hid (hrg.below ((Below.refl _ _).alloc (Nat.le_refl _) (.cells (tabv F) 26)))
    have HB1 := Lib.hid (show Below w.heap.size w (w1.alloc (.cells (tabv F) 26)) from hb1.alloc (by have := hb1.size; omega) _)
    have HY1 := Lib.hid ((HY.out.below hb1).below ((Below.refl _ _).alloc (Nat.le_refl _) (.cells (tabv F) 26)))
    have hl7 := blk_lt t7
    clear hb1 hown hrg HT
    go_wp2_with (first
      | ((with_reducible refine st26n (f := F) ?_ ?_ ?_ ?_); exact rfl; exact rfl; exact rfl)
      | ((with_reducible refine ld26 ?_ t7 ?_); exact rfl; generalize w1.alloc (.cells (tabv F) 26) = w2 at *))
    refine (HRD.out _ HY1.out).mono ?_
    rintro e w3 ⟨rfl, hb3⟩
    have HRG3 := Lib.hid (HRG.out.below hb3)
    have t7' := blk_below hb3 hl7 t7
    have HB3 := Lib.hid (below_then HB1.out hb3)
    have HY3 := Lib.hid (HY1.out.below hb3)
    have t9 := heap_alloc_new w3 (.cells (tabv F) 26)
    have t7a := blk_alloc (x := .cells (tabv F) 26) t7'
    have HRG4 := Lib.hid (HRG3.out.below ((Below.refl _ _).alloc (Nat.le_refl _) (.cells (tabv F) 26)))
    have HB4 := Lib.hid (show Below w.heap.size w (w3.alloc (.cells (tabv F) 26)) from HB3.out.alloc (by have := HB3.out.size; omega) _)
    have HY4 := Lib.hid (HY3.out.below ((Below.refl _ _).alloc (Nat.le_refl _) (.cells (tabv F) 26)))
    have hs3 : w.heap.size ≤ w3.heap.size := HB3.out.size
    have hne : g ≠ w3.heap.size := by have := HRG3.out.lt; omega
    clear hb3 t7 hl7 HRG HRG3 HB1 HB3 HY1 HY3 t7'
    go_wp2_with ((with_reducible refine st26n (f := F) ?_ ?_ ?_ ?_); exact rfl; exact rfl; exact rfl; generalize w3.alloc (.cells (tabv F) 26) = w4 at *)
    refine (HRR.out _ HY4.out).mono ?_
    rintro e w5 ⟨rfl, hb5⟩
    have t9' := blk_below hb5 (blk_lt t9) t9
    have t7b := blk_below hb5 (blk_lt t7a) t7a
    have HB5 := Lib.hid (below_then HB4.out hb5)
    clear hb5 t9 t7a
    go_wp2_with (first
      | ((with_reducible refine ld26w (x := .tmp 9) ?_ ?_ t9' ?_); exact rfl; exact rfl)
      | ((with_reducible refine ld26w (x := .tmp 7) ?_ ?_ t7b ?_); exact rfl; exact rfl)
      | ((with_reducible refine eq26w (f := F) ?_ ?_ ?_ ?_); exact rfl; exact rfl; exact rfl)
      | (go_at_call 16; refine (lives_any _).mono ?_; rintro e w9 ⟨rfl, hb9⟩; have HB9 := Lib.hid (below_then HB5.out hb9); clear hb9))
    go_ret
    exact ⟨rfl, HB9.out⟩
set_option maxRecDepth 100000 in
set_option maxHeartbeats 1000000 in
theorem readsNo {w : World} {v : Value} {f : Nat → Ent} {n0 : Nat} (h : Inp w v f n0) (k : Nat) (hk : k < 4) {vb : Value} {l : List Nat} (hy : Byt w vb l) (hlt : ∀ x ∈ l, x < 256) (hs : 64 ≤ l.length) (hno : okTo' l 4 = false) :
    Calls Try.prog 6 #[v, .int .i64 (k : Nat), vb] w fun e w' => e = .returned (.bool true) ∧ Below w.heap.size w w' := by
  have HFS := Lib.hid (made_size h)
  have HT := Lib.hid (table_any h)
  generalize made f n0 = F at *
  clear h
  obtain ⟨A, cap, rfl, hc1, hc2, _, _⟩ := id hy
  unfold maxLen at hc2
  generalize hn : l.length = n at *
  obtain ⟨n', l', hy', hn', h100, hlt', hor, hl'⟩ := cut100 hy hn hlt
  have HY := Lib.hid hy'
  have HN := Lib.hid hn'
  have HLT := Lib.hid hlt'
  have hcap' : n' ≤ cap := by omega
  have hl : l'.length < 64 ∨ 64 ≤ l'.length := by omega
  have hno' : okTo' l' 4 = false := by
    rcases hl' with rfl | rfl
    · exact hno
    · rw [okTo_take l 100 (by omega)]; exact hno
  have HRD := Lib.hid fun W (h : Byt W (.slice A n' cap) l') => (read_in F HFS.out k hk h (by omega) (by omega) hlt').mono (R' := fun e w' => e = .returned (.tuple #[.agg (tabv F), .int .i64 2]) ∧ Below W.heap.size W w') (fun e w' hp => by
    rcases hp with ⟨h1, _⟩ | ⟨_, h2⟩
    · rw [hno'] at h1; cases h1
    · exact h2)
  have HRR := Lib.hid fun W (h : Byt W (.slice A n' cap) l') => (rread_in h (by omega) (by omega) hlt').mono (R' := fun e w' => e = .returned (.tuple #[.slice none 0 0, .int .i64 2]) ∧ Below W.heap.size W w') (fun e w' hp => by
    rcases hp with ⟨h1, _⟩ | ⟨_, h2⟩
    · rw [hno'] at h1; cases h1
    · exact h2)
  clear hl' hno hno'
  clear hy hy' hn hn' hlt hlt' hl
  have hk3 : ¬ (3 < (k : Int)) := by omega
  have hkd : decide (3 < (k : Int)) = false := decide_eq_false hk3
  have hk0 : ¬ ((k : Int) < 0) := by omega
  rcases hor with ⟨hor, rfl⟩ | ⟨hor, rfl⟩
  skip
  all_goals
    go_enter Try.func6, Try.ntmps6
    go_wp2_with fail
    refine (HT.out).mono ?_
    rintro e w1 ⟨v', rfl, hown, hb1⟩
    obtain ⟨g, rcap, rfl, hgw, hrg⟩ := own_rwg hown (by decide)
    have t7 := heap_alloc_new w1 (.cells (tabv F) 26)
    have HRG := Lib.hid (hrg.below ((Below.refl _ _).alloc (Nat.le_refl _) (.cells (tabv F) 26)))
    have HB1 := Lib.hid (show Below w.heap.size w (w1.alloc (.cells (tabv F) 26)) from hb1.alloc (by have := hb1.size; omega) _)
    have HY1 := Lib.hid ((HY.out.below hb1).below ((Below.refl _ _).alloc (Nat.le_refl _) (.cells (tabv F) 26)))
    have hl7 := blk_lt t7
    clear hb1 hown hrg HT
    go_wp2_with (first
      | ((with_reducible refine st26n (f := F) ?_ ?_ ?_ ?_); exact rfl; exact rfl; exact rfl)
      | ((with_reducible refine ld26 ?_ t7 ?_); exact rfl; generalize w1.alloc (.cells (tabv F) 26) = w2 at *))
    refine (HRD.out _ HY1.out).mono ?_
    rintro e w3 ⟨rfl, hb3⟩
    have HRG3 := Lib.hid (HRG.out.below hb3)
    have t7' := blk_below hb3 hl7 t7
    have HB3 := Lib.hid (below_then HB1.out hb3)
    have HY3 := Lib.hid (HY1.out.below hb3)
    have t9 := heap_alloc_new w3 (.cells (tabv F) 26)
    have t7a := blk_alloc (x := .cells (tabv F) 26) t7'
    have HRG4 := Lib.hid (HRG3.out.below ((Below.refl _ _).alloc (Nat.le_refl _) (.cells (tabv F) 26)))
    have HB4 := Lib.hid (show Below w.heap.size w (w3.alloc (.cells (tabv F) 26)) from HB3.out.alloc (by have := HB3.out.size; omega) _)
    have HY4 := Lib.hid (HY3.out.below ((Below.refl _ _).alloc (Nat.le_refl _) (.cells (tabv F) 26)))
    have hs3 : w.heap.size ≤ w3.heap.size := HB3.out.size
    have hne : g ≠ w3.heap.size := by have := HRG3.out.lt; omega
    clear hb3 t7 hl7 HRG HRG3 HB1 HB3 HY1 HY3 t7'
    go_wp2_with ((with_reducible refine st26n (f := F) ?_ ?_ ?_ ?_); exact rfl; exact rfl; exact rfl; generalize w3.alloc (.cells (tabv F) 26) = w4 at *)
    refine (HRR.out _ HY4.out).mono ?_
    rintro e w5 ⟨rfl, hb5⟩
    have t9' := blk_below hb5 (blk_lt t9) t9
    have t7b := blk_below hb5 (blk_lt t7a) t7a
    have HB5 := Lib.hid (below_then HB4.out hb5)
    clear hb5 t9 t7a
    go_wp2_with (first
      | ((with_reducible refine ld26w (x := .tmp 9) ?_ ?_ t9' ?_); exact rfl; exact rfl)
      | ((with_reducible refine ld26w (x := .tmp 7) ?_ ?_ t7b ?_); exact rfl; exact rfl)
      | ((with_reducible refine eq26w (f := F) ?_ ?_ ?_ ?_); exact rfl; exact rfl; exact rfl)
      | (go_at_call 16; refine (lives_any _).mono ?_; rintro e w9 ⟨rfl, hb9⟩; have HB9 := Lib.hid (below_then HB5.out hb9); clear hb9))
    go_ret
    exact ⟨rfl, HB9.out⟩
set_option maxRecDepth 100000 in
set_option maxHeartbeats 1000000 in
theorem readsYes {w : World} {v : Value} {f : Nat → Ent} {n0 : Nat} (h : Inp w v f n0) (k : Nat) (hk : k < 4) {vb : Value} {l : List Nat} (hy : Byt w vb l) (hlt : ∀ x ∈ l, x < 256) (hs : 64 ≤ l.length) (hno : okTo' l 4 = true) :
    Calls Try.prog 6 #[v, .int .i64 (k : Nat), vb] w fun e w' => e = .returned (.bool true) ∧ Below w.heap.size w w' := by
  have HFS := Lib.hid (made_size h)
  have HT := Lib.hid (table_any h)
  generalize made f n0 = F at *
  clear h
  obtain ⟨A, cap, rfl, hc1, hc2, _, _⟩ := id hy
  unfold maxLen at hc2
  generalize hn : l.length = n at *
  obtain ⟨n', l', hy', hn', h100, hlt', hor, hl'⟩ := cut100 hy hn hlt
  have HY := Lib.hid hy'
  have HN := Lib.hid hn'
  have HLT := Lib.hid hlt'
  have hcap' : n' ≤ cap := by omega
  have hno' : okTo' l' 4 = true := by
    rcases hl' with rfl | rfl
    · exact hno
    · rw [okTo_take l 100 (by omega)]; exact hno
  have HRD := Lib.hid fun W (h : Byt W (.slice A n' cap) l') => (read_in F HFS.out k hk h (by omega) (by omega) hlt').mono (R' := fun e w' => e = .returned (.tuple #[.agg (tabv (nx F l' (4 * k) 4)), .int .i64 0]) ∧ Below W.heap.size W w') (fun e w' hp => by
    rcases hp with ⟨_, h2⟩ | ⟨h1, _⟩
    · exact h2
    · rw [hno'] at h1; cases h1)
  have HRR := Lib.hid fun W (h : Byt W (.slice A n' cap) l') => (rread_in h (by omega) (by omega) hlt').mono (R' := fun e w' => ∃ v, e = .returned (.tuple #[v, .int .i64 0]) ∧ w'.ownsRow W.heap.size 24 2 v 4 (ecs (rd l') 4) ∧ Below W.heap.size W w') (fun e w' hp => by
    rcases hp with ⟨_, h2⟩ | ⟨h1, _⟩
    · exact h2
    · rw [hno'] at h1; cases h1)
  have HNXU := Lib.hid fun i => nx_upd F l' (4 * k) i
  have HNX0 := Lib.hid (nx_zero F l' (4 * k))
  clear hy hy' hn hn' hlt hlt' hl' hno hno'
  obtain ⟨G, hG⟩ : ∃ G, G = nx F l' (4 * k) 4 := ⟨_, rfl⟩
  rw [← hG] at HRD
  have HG := Lib.hid hG
  clear hG
  have hk3 : ¬ (3 < (k : Int)) := by omega
  have hkd : decide (3 < (k : Int)) = false := decide_eq_false hk3
  have hk0 : ¬ ((k : Int) < 0) := by omega
  rcases hor with ⟨hor, rfl⟩ | ⟨hor, rfl⟩
  all_goals
    go_enter Try.func6, Try.ntmps6
    go_wp2_with fail
    refine (HT.out).mono ?_
    rintro e w1 ⟨v', rfl, hown, hb1⟩
    obtain ⟨g, rcap, rfl, hgw, hrg⟩ := own_rwg hown (by decide)
    have t7 := heap_alloc_new w1 (.cells (tabv F) 26)
    have HRG := Lib.hid (hrg.below ((Below.refl _ _).alloc (Nat.le_refl _) (.cells (tabv F) 26)))
    have HB1 := Lib.hid (show Below w.heap.size w (w1.alloc (.cells (tabv F) 26)) from hb1.alloc (by have := hb1.size; omega) _)
    have HY1 := Lib.hid ((HY.out.below hb1).below ((Below.refl _ _).alloc (Nat.le_refl _) (.cells (tabv F) 26)))
    have hl7 := blk_lt t7
    clear hb1 hown hrg HT
    go_wp2_with (first
      | ((with_reducible refine st26n (f := F) ?_ ?_ ?_ ?_); exact rfl; exact rfl; exact rfl)
      | ((with_reducible refine ld26 ?_ t7 ?_); exact rfl; generalize w1.alloc (.cells (tabv F) 26) = w2 at *))
    refine (HRD.out _ HY1.out).mono ?_
    rintro e w3 ⟨rfl, hb3⟩
    have HRG3 := Lib.hid (HRG.out.below hb3)
    have t7' := blk_below hb3 hl7 t7
    have HB3 := Lib.hid (below_then HB1.out hb3)
    have HY3 := Lib.hid (HY1.out.below hb3)
    have t9 := heap_alloc_new w3 (.cells (tabv G) 26)
    have t7a := blk_alloc (x := .cells (tabv G) 26) t7'
    have HRG4 := Lib.hid (HRG3.out.below ((Below.refl _ _).alloc (Nat.le_refl _) (.cells (tabv G) 26)))
    have HB4 := Lib.hid (show Below w.heap.size w (w3.alloc (.cells (tabv G) 26)) from HB3.out.alloc (by have := HB3.out.size; omega) _)
    have HY4 := Lib.hid (HY3.out.below ((Below.refl _ _).alloc (Nat.le_refl _) (.cells (tabv G) 26)))
    have hs3 : w.heap.size ≤ w3.heap.size := HB3.out.size
    have hne : g ≠ w3.heap.size := by have := HRG3.out.lt; omega
    clear hb3 t7 hl7 HRG HRG3 HB1 HB3 HY1 HY3 t7'
    go_wp2_with ((with_reducible refine st26n (f := G) ?_ ?_ ?_ ?_); exact rfl; exact rfl; exact rfl; generalize w3.alloc (.cells (tabv G) 26) = w4 at *)
    refine (HRR.out _ HY4.out).mono ?_
    rintro e w5 ⟨v5, rfl, hown5, hb5⟩
    obtain ⟨g5, cap5, rfl, hg5, hrg5⟩ := own_rwg hown5 (by decide)
    have hg4 := HRG4.out.lt
    have hne5 : g ≠ g5 := by omega
    have t9' := blk_below hb5 (blk_lt t9) t9
    have hl9 := blk_lt t9'
    have HB5 := Lib.hid (below_then HB4.out hb5)
    have HRG5 := Lib.hid (HRG4.out.below hb5)
    have HR5 := Lib.hid hrg5
    have T9 := Lib.hid t9'
    have hgs : w.heap.size ≤ g := by omega
    clear hb5 t9 t7a hown5 hrg5 t9'
    go_wp2
    go_loopw [13] (fun y wr => ∃ i : Nat, i ≤ 4 ∧ y = .int .i64 i ∧ RwG wr g rcap (nx F l' (4 * k) i) 16 ∧ RwG wr g5 cap5 (rd l') 4 ∧ wr.heap[w3.heap.size]? = some (.cells (tabv G) 26 (0, 0)) ∧ Below w.heap.size w wr) (fun y _ => 4 - (intOf y).toNat)
    case atStart => exact ⟨0, Nat.zero_le _, rfl, by rw [HNX0.out]; exact HRG5.out, HR5.out, T9.out, HB5.out⟩
    case round =>
      obtain ⟨i, hi, rfl, hr1, hr2, ht, hbel⟩ := hrel
      have HBEL := Lib.hid hbel
      have HR1 := Lib.hid hr1
      have HR2 := Lib.hid hr2
      have HTT := Lib.hid ht
      have hsz := hbel.size
      have hg1 := hr1.lt
      have hg2 := hr2.lt
      clear hbel hr1 hr2 ht
      by_cases hli : i < 4
      · have hd : ((i : Nat) : Int) < 4 := by omega
        obtain ⟨a0, a1, a2, a3⟩ := HR1.out.cells (k := 4 * k + i) (by omega)
        obtain ⟨b0, b1, _, _⟩ := HR2.out.cells (k := i) hli
        have hset := HR1.out.set (k := 4 * k + i) (by omega) (rd l' i).nm (rd l' i).ino
        rw [show upd (nx F l' (4 * k) i) (4 * k + i) ⟨(rd l' i).nm, (rd l' i).ino⟩ = nx F l' (4 * k) (i + 1) from HNXU.out i] at hset
        have hr2' := (HR2.out.other (b := g) (i := (4 * k + i) * 2) (Ne.symm hne5) (.string (rd l' i).nm)).other (b := g) (i := (4 * k + i) * 2 + 1) (Ne.symm hne5) (.int .i64 (rd l' i).ino)
        have ht' := blk_set_other (g := g) (i := (4 * k + i) * 2 + 1) (u := .int .i64 (rd l' i).ino) (blk_set_other (g := g) (i := (4 * k + i) * 2) (u := .string (rd l' i).nm) HTT.out (Ne.symm hne)) (Ne.symm hne)
        have hbe' := (HBEL.out.setCell (p := ⟨g, (4 * k + i) * 2, none⟩) hgs (.string (rd l' i).nm)).setCell (p := ⟨g, (4 * k + i) * 2 + 1, none⟩) hgs (.int .i64 (rd l' i).ino)
        have HEND := Lib.hid (And.intro hset (And.intro hr2' (And.intro ht' hbe')))
        have z1 : 0 ≤ 4 * (k : Int) + (i : Int) := by omega
        have z2 : 4 * (k : Int) + (i : Int) < 16 := by omega
        have z3 : (4 * (k : Int) + (i : Int)).toNat = 4 * k + i := by omega
        clear hset hr2' ht' hbe'
        generalize (rd l' i).nm = s at *
        generalize (rd l' i).ino = m at *
        go_wp2
        exact ⟨⟨i + 1, by omega, by go_num, HEND.out⟩, by simp [intOf]; omega⟩
      · obtain rfl : i = 4 := by omega
        have t9b := HTT.out
        have HRF := Lib.hid (show Rw wr (.slice (some ⟨g, 0, none⟩) 16 rcap) G 16 by rw [HG.out]; exact HR1.out.rw)
        go_wp2_with ((with_reducible refine ld26 ?_ t9b ?_); exact rfl)
        refine (entries_any G _).mono ?_
        rintro e w6 ⟨v6, rfl, hown6, hb6⟩
        have hr6 := own_rw hown6 (by decide)
        have HSA := Lib.hid (same_yes hr6 (HRF.out.below hb6))
        have HB6 := Lib.hid (below_then HBEL.out hb6)
        clear hb6 hown6 hr6 t9b
        go_wp2_with fail
        refine (HSA.out).mono ?_
        rintro e w7 ⟨rfl, hb7⟩
        have HB7 := Lib.hid (below_then HB6.out hb7)
        clear hb7 HSA
        go_wp2_with fail
        refine (lives_any _).mono ?_
        rintro e w8 ⟨rfl, hb8⟩
        have HB8 := Lib.hid (below_then HB7.out hb8)
        clear hb8
        go_wp2
        go_ret
        exact ⟨rfl, HB8.out⟩
theorem lawReads {w : World} {v : Value} {f : Nat → Ent} {n0 : Nat} (h : Inp w v f n0) (k : Int) {vb : Value} {l : List Nat} (hy : Byt w vb l) (hlt : ∀ x ∈ l, x < 256) :
    Calls Try.prog 6 #[v, .int .i64 k, vb] w fun e w' => e = .returned (.bool true) ∧ Below w.heap.size w w' := by
  by_cases hk : 0 ≤ k ∧ k < 4
  · obtain ⟨j, rfl⟩ := Int.eq_ofNat_of_zero_le hk.1
    by_cases hs : l.length < 64
    · exact readsShort h j (by omega) hy hlt hs
    · cases ho : okTo' l 4
      · exact readsNo h j (by omega) hy hlt (by omega) ho
      · exact readsYes h j (by omega) hy hlt (by omega) ho
  · exact readsArg h k hk hy hlt
theorem byt_of_row {w : World} {A : Option Addr} {n cap : Nat} {zs : List Int} (h : IsRow .u8 w A n cap zs) : ∃ l, Byt w (.slice A n cap) l ∧ ∀ x ∈ l, x < 256 := by
  by_cases h0 : 0 < n
  · obtain ⟨b, off, rfl, h1, h2, h3, f, hf, hc⟩ := h.bytes h0
    refine ⟨(List.range n).map f, ⟨some ⟨b, off, none⟩, cap, by simp, by simpa using h1, h2, (fun h => by cases h), fun _ => ⟨b, off, rfl, h3, fun j hj => ?_⟩⟩, fun x hx => ?_⟩
    · have hj' : j < n := by simpa using hj
      rw [hc j hj']
      simp [hj']
    · obtain ⟨i, _, rfl⟩ := List.mem_map.1 hx
      exact hf i
  · obtain rfl : n = 0 := by omega
    refine ⟨[], ⟨A, cap, rfl, Nat.zero_le _, ?_, ?_, fun h => absurd h (Nat.lt_irrefl 0)⟩, fun x hx => by cases hx⟩
    · rcases h with ⟨_, _, h, _⟩ | ⟨_, _, _, h, _⟩
      · rw [h]; exact Nat.zero_le _
      · exact h
    · intro hA
      rcases h with ⟨_, _, h, _⟩ | ⟨_, h, _⟩
      · exact h
      · rw [hA] at h; cases h
theorem open_byt {H : Type} {enc : TypeId × Value → H} {W : World} {b0 : Nat} {sp : Nat → Bool} {held : Bool} {v : Value} {d : DataW H} {p : List MemPlace}
    (hv : Value.okWide Try.prog W .any b0 39 v) (h : DataW.Trod enc Try.prog W 0 sp held 39 v d p) : ∃ l, Byt W v l ∧ ∀ x ∈ l, x < 256 := by
  obtain ⟨A0, n0, c0, rfl⟩ := okWide_slice Try.underlying39 hv
  obtain ⟨fuel, hf⟩ := h
  rcases open_ints Try.underlying39 Try.underlying5 (by kernel_rfl) hf with ⟨hcs, _⟩ | ⟨x, l, c, zs, hcs, _, hl, hm, hz, _, hcell, hwz⟩
  · simp [Value.cells] at hcs
    obtain ⟨rfl, rfl, rfl⟩ := hcs
    exact ⟨[], Byt.nil W, fun x hx => by cases hx⟩
  · simp [Value.cells] at hcs
    obtain ⟨rfl, rfl, rfl⟩ := hcs
    have hz' : n0 ≤ zs.length := by rw [hz]; split <;> omega
    have hzm : zs.length ≤ maxLen := by rw [hz]; split <;> omega
    obtain ⟨l, hl', hlt⟩ := byt_of_row (zs := zs) (.inr ⟨x, rfl, hz', hzm, rfl, hcell, hwz⟩)
    obtain ⟨A', cap', e, k1, k2, k3, k4⟩ := hl'
    injection e with e1 e2 e3
    subst e1
    exact ⟨l, ⟨some x, c0, by rw [e2], by omega, hm, (fun h => by cases h), k4⟩, hlt⟩
/-! ### THE ROW -/
set_option maxRecDepth 100000 in
theorem dirReads_lifted (os : Os) (started : os.Started) (H : Type) (enc : TypeId × Value → H) :
    ReturnsInHanded {} Try.checked os 6 .any (Rows.dirReadsSpec.pre6 enc Try.prog Try.f6 Rows.dirReadsRow.domain false) (Rows.dirReadsSpec.post enc Try.prog Try.f6 false true false false) := by
  refine returnsInHanded_of_change (C := Try.checked) own started (by kernel_rfl) Try.func6
    (ChangeSpec.witness6 (enc := enc) (C := Try.checked) false ⟨#[], #[.slice none 0 0, .int .i64 0, .slice none 0 0], []⟩ 8 (by kernel_rfl) (by kernel_rfl) (by kernel_rfl) (by kernel_rfl)) ?_
  intro W base args ds gs before hval0 hW _ _
  have hval : ∀ (j : Nat) t v, Try.f6.params[j]? = some t → args[j]? = some v → Value.okWide Try.prog W .any base t v := hval0
  have hW' := hW
  obtain ⟨p, q, hA0, hV, rfl, _, _⟩ := hW
  have hA : DataW.TrodAll enc Try.prog W 0 (fun _ => true) true Try.f6.params.toList args.toList ds p := hA0
  rw [Try.params6] at hA hval
  obtain ⟨v0, vs0, d0, ds0, p0, q0, hargs, rfl, rfl, h0, r0⟩ := trodAll_cons hA
  obtain ⟨v1, vs1, d1, ds1, p1, q1, rfl, rfl, rfl, h1, r1⟩ := trodAll_cons r0
  obtain ⟨v2, vs2, d2, ds2, p2, q2, rfl, rfl, rfl, h2, r2⟩ := trodAll_cons r1
  obtain ⟨rfl, rfl, rfl⟩ := trodAll_nil r2
  obtain rfl : args = #[v0, v1, v2] := by cases args; simp_all
  obtain ⟨rfl, rfl⟩ := trodVars_none hV
  have k0 := h0
  have lt0 : ∀ x ∈ p0, x.block < W.heap.size := by obtain ⟨m, hm⟩ := k0; exact DataW.trod_lt m _ _ _ hm
  obtain ⟨f0, n0, w0⟩ := open_ents (hval 0 22 v0 rfl rfl) h0
  obtain ⟨a1, rfl, rfl, rfl, w1⟩ := open_int Try.underlying3 (hval 1 3 v1 rfl rfl) h1
  have k2 := h2
  have lt2 : ∀ x ∈ p2, x.block < W.heap.size := by obtain ⟨m, hm⟩ := k2; exact DataW.trod_lt m _ _ _ hm
  obtain ⟨z2, w2⟩ := open_byt (hval 2 39 v2 rfl rfl) h2
  clear hA0 hval0
  refine (lawReads w0 a1 w2.1 w2.2).mono fun e W' ⟨he, bel⟩ => ?_
  subst he
  exact ⟨_, rfl, _, _, _, [], _, [], hW', trodAll_mk1 (shut_bool Try.underlying4 _), (trodAll_cons_mk (Below.trod laidOut (by kernel_rfl) (of_decide_eq_true (by kernel_rfl)) k0 bel lt0) (trodAll_cons_mk (shut_int Try.underlying3 w1) (trodAll_cons_mk (Below.trod laidOut (by kernel_rfl) (of_decide_eq_true (by kernel_rfl)) k2 bel lt2) trodAll_mk0))), rfl, bel.frame _, fun h => by cases h⟩
theorem dirReads_over : Rows.dirReadsRow.holds Try.pinned (OpenSpec.ofChange Rows.dirReadsSpec) :=
  OpenClaim.holds_of_wide 6 Try.f6 rfl rfl rfl rfl rfl rfl rfl ⟨rfl, rfl, rfl, rfl, rfl⟩ rfl rfl rfl rfl rfl (by kernel_rfl) Try.func6 (by kernel_rfl)
    (of_decide_eq_true (by kernel_rfl)) (by unfold Func.isWrapper; first | (rw [if_pos (by decide +kernel)]; kernel_rfl) | (rw [if_neg (by decide +kernel)]; exact ⟨rfl, rfl⟩))
    (fun os started H enc _ => dirReads_lifted os started H enc)
/-- THE STATEMENT. -/
theorem dirReads_holds : Rows.DirReadsSaid := dirReads_over
end Go.Proofs.Ythhcgdmpbihdnaa
