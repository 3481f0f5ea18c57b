/-
  table and short: what the laws make of their arguments.
-/
import Derived.Test.YthhcgdmpbihdnaaRef
import Derived.Maps.AppendAt
namespace Go.Proofs.Ythhcgdmpbihdnaa
open Go.RowKit
/-- A slice of n entries that came in. -/
def Inp (w : World) (v : Value) (f : Nat → Ent) (n : Nat) : Prop :=
  ∃ A cap, v = .slice A n cap ∧ n ≤ cap ∧ cap ≤ maxLen ∧ (∀ i, (f i).nm.size ≤ 9223372036854775807) ∧
   (0 < n → ∃ b off, A = some ⟨b, off, none⟩ ∧ b < w.heap.size ∧ ∀ i, i < n → w.cell? ⟨b, off + i * 2, none⟩ = some (.string (f i).nm) ∧ w.cell? ⟨b, off + i * 2 + 1, none⟩ = some (.int .i64 (f i).ino))
def shrt (s : ByteArray) : ByteArray := if 20 < s.size then s.extract 0 20 else s
theorem shrt_size (s : ByteArray) : (shrt s).size ≤ 20 := by
  unfold shrt
  split
  · simp; omega
  · omega
theorem short_any (s : ByteArray) (hs : s.size ≤ 9223372036854775807) (w : World) : Calls Try.prog 11 #[.string s] w fun e w' => e = .returned (.string (shrt s)) ∧ w = w' := by
  by_cases h : 20 < s.size
  · have HR := Lib.hid (show shrt s = s.extract 0 20 by unfold shrt; rw [if_pos h])
    go_enter Try.func11, Try.ntmps11
    go_wp2
    go_ret
    exact ⟨by rw [HR.out]; rfl, rfl⟩
  · have HR := Lib.hid (show shrt s = s by unfold shrt; rw [if_neg h])
    go_enter Try.func11, Try.ntmps11
    go_wp2
    go_ret
    exact ⟨by rw [HR.out]; rfl, rfl⟩
def cutE (e : Ent) : Ent := ⟨shrt e.nm, e.ino⟩
/-- What table makes of n entries. -/
def made (f : Nat → Ent) (n : Nat) : Nat → Ent := fun i => if i < n then cutE (f i) else ent0
def pre (f : Nat → Ent) (k : Nat) : Nat → Ent := fun i => if i < k then f i else ent0
theorem pre_upd (f : Nat → Ent) (k : Nat) : upd (pre f k) k (f k) = pre f (k + 1) := by
  funext j
  unfold upd pre
  by_cases h : j = k
  · subst h
    simp
  · rw [if_neg h]
    by_cases h2 : j < k
    · rw [if_pos h2, if_pos (by omega)]
    · rw [if_neg h2, if_neg (by omega)]
theorem tabv_pre (f : Nat → Ent) (k : Nat) (h : k < 16) (s : ByteArray) (n : Int) (he : f k = ⟨s, n⟩) :
    ((tabv (pre f k)).setIfInBounds (k * 2) (.string s)).setIfInBounds (k * 2 + 1) (.int .i64 n) = tabv (pre f (k + 1)) := by
  rw [tabv_set _ _ h, ← he, pre_upd]
theorem tabv_pre16 (f : Nat → Ent) : tabv (pre f 16) = tabv f := by
  unfold tabv
  rw [ecs_same (pre f 16) f 16 fun i hi => by unfold pre; rw [if_pos hi]]
theorem info24 : (Try.prog.info? 24).map (fun i => (i.zero, i.size, i.bytes)) = some (some (.agg #[.string noName, .int .i64 0]), 2, 24) := by kernel_rfl
/-- 'append(l, p)' of an entry onto a row of one's own. -/
theorem wpl_app2 {ops : Array Oper} {rest : List Oper} {o : Oper} {a : Act} {Q : Exit → Act → World → Prop} {w : World} {B : Nat} (hgd : Region.wanted o (yielded ops a.tmps) = true)
    (s x : Operand) (ho : o.op = .call { callee := .builtin .append, args := #[s, x], argTypes := #[22, 22] }) {v : Value} {n : Nat} {xs : List Value} {u1 u2 : Value}
    (hs : a.eval s = v) (hown : w.ownsRow B 24 2 v n xs) (hu1 : u1.oneCell' = true) (hu2 : u2.oneCell' = true) {gx : Nat} (hx : a.eval x = .slice (some ⟨gx, 0, none⟩) 1 1) (hgx : w.heap.size = gx) (hn : n < 1000000) (hB : B ≤ w.heap.size)
    (h : ∀ v' w', w'.ownsRow B 24 2 v' (n + 1) (xs ++ [u1, u2]) → w.grownBy w' v.ownBlock → wpList Try.prog ops Q rest (a.put o.dst v') w') : wpList Try.prog ops Q (o :: rest) a (w.alloc (.cells #[u1, u2] 24)) := by
  subst hgx
  refine wpl_on hgd fun K hK => ?_
  obtain ⟨i0, hi, hz0, hz, hb⟩ := info_parts info24
  obtain ⟨v', w', hr, h1, h2, _, h4⟩ := run_append_own_at (P := Try.prog) (w.alloc (.cells #[u1, u2] 24)) B 22 o.type 24 i0 _ 2 24 Try.underlying22 hi hz0 hz hb rfl (by decide) v n xs (hown.alloc _) ⟨w.heap.size, 0, none⟩ 1 1 [u1, u2] rfl (fun j y hj => by
    match j, hj with
    | 0, hj => simp at hj; subst hj; exact blk_cell (heap_alloc_new _ _) rfl
    | 1, hj => simp at hj; subst hj; exact blk_cell (heap_alloc_new _ _) rfl) (fun y hy => by
    simp at hy
    rcases hy with rfl | rfl
    · exact hu1
    · exact hu2) (by unfold maxLen; omega) (by omega) (by simp; omega)
  unfold Oper.wp execOp
  simp only [ho, resolve, invoke, builtin, Sem.run_bind, Sem.run_pure, Result.andThen_ok, List.map_toArray, List.map_cons, List.map_nil, hs, hx, hr]
  exact hK _ _ (h v' w' h1 (only_trans (World.grownBy_alloc w _ _) h2))
theorem zero26 : #[.string { data := #[] }, .int .i64 0, .string { data := #[] }, .int .i64 0, .string { data := #[] }, .int .i64 0, .string { data := #[] }, .int .i64 0, .string { data := #[] }, .int .i64 0, .string { data := #[] }, .int .i64 0, .string { data := #[] }, .int .i64 0, .string { data := #[] }, .int .i64 0, .string { data := #[] }, .int .i64 0, .string { data := #[] }, .int .i64 0, .string { data := #[] }, .int .i64 0, .string { data := #[] }, .int .i64 0, .string { data := #[] }, .int .i64 0, .string { data := #[] }, .int .i64 0, .string { data := #[] }, .int .i64 0, .string { data := #[] }, .int .i64 0] = (tabv fun _ => ent0) := rfl
theorem own_set {w : World} {B : Nat} {e : TypeId} {size : Nat} {v : Value} {n : Nat} {xs : List Value} (h : w.ownsRow B e size v n xs) {b i : Nat} (hb : b < B) (u : Value) : (w.setCell ⟨b, i, none⟩ u).ownsRow B e size v n xs :=
  h.kept (row := some b) (only_setCell ⟨rfl, rfl, rfl, Nat.le_refl _, fun _ _ _ => rfl⟩ _) (.inr fun e => by have := (h.lt b e).1; omega)
theorem own_setRow {w : World} {B : Nat} {e : TypeId} {size : Nat} {v : Value} {n : Nat} {xs : List Value} (h : w.ownsRow B e size v n xs) {b : Nat} (hb : b < B) {old : Array Value} {t : TypeId} {fr : Nat × Nat} (_ : w.heap[b]? = some (.cells old t fr)) (cs : Array Value) : (w.setRow b cs).ownsRow B e size v n xs :=
  h.kept (row := some b) ⟨rfl, rfl, rfl, by simp, fun k _ hn => setRow_other _ _ _ _ (by simpa using hn)⟩ (.inr fun e => by have := (h.lt b e).1; omega)
theorem table_step {B : Nat} {w wr w' : World} {o : Obj} {cs tz : Array Value} {i : Nat} {u1 u2 v : Value} (hbel : Below B w wr) (hB : B + 2 ≤ wr.heap.size)
    (ht : wr.heap[B + 1]? = some (.cells cs 26 (0, 0))) (hz : wr.heap[B]? = some (.cells tz 26 (0, 0))) (hv : ∀ b, v.ownBlock = some b → B + 2 ≤ b)
    (hgr : (((wr.alloc o).setCell ⟨B + 1, i, none⟩ u1).setCell ⟨B + 1, i + 1, none⟩ u2).grownBy w' v.ownBlock) :
    w'.heap[B + 1]? = some (.cells ((cs.setIfInBounds i u1).setIfInBounds (i + 1) u2) 26 (0, 0)) ∧ w'.heap[B]? = some (.cells tz 26 (0, 0)) ∧ Below B w w' ∧ B + 2 ≤ w'.heap.size := by
  have hs1 : (((wr.alloc o).setCell ⟨B + 1, i, none⟩ u1).setCell ⟨B + 1, i + 1, none⟩ u2).heap.size = wr.heap.size + 1 := by simp [World.setCell]
  have b1 := setRow_cell _ _ _ _ u2 (i + 1) (setRow_cell _ _ _ _ u1 i (blk_alloc (x := o) ht))
  have b2 := blk_set_other (b := B) (g := B + 1) (i := i + 1) (u := u2) (blk_set_other (b := B) (g := B + 1) (i := i) (u := u1) (blk_alloc (x := o) hz) (by omega)) (by omega)
  have hsz := hgr.size
  rw [hs1] at hsz
  refine ⟨?_, ?_, ?_, by omega⟩
  · rw [hgr.block (B + 1) (by omega) (fun e => by have := hv _ e.symm; omega), b1]
  · rw [hgr.block B (by omega) (fun e => by have := hv _ e.symm; omega), b2]
  · exact (((hbel.alloc (by omega) o).setCell (p := ⟨B + 1, i, none⟩) (by simp) u1).setCell (p := ⟨B + 1, i + 1, none⟩) (by simp) u2).grown hgr (by omega) fun k hk => by have := hv k hk; omega
set_option maxRecDepth 100000 in
set_option maxHeartbeats 4000000 in
theorem table_any {w : World} {v : Value} {f : Nat → Ent} {n : Nat} (h : Inp w v f n) :
    Calls Try.prog 10 #[v] w fun e w' => ∃ v', e = .returned (.tuple #[.agg (tabv (made f n)), v']) ∧ w'.ownsRow w.heap.size 24 2 v' 16 (ecs (made f n) 16) ∧ Below w.heap.size w w' := by
  obtain ⟨A, cap, rfl, h1, h2, h3, h4⟩ := h
  unfold maxLen at h2
  have HS := Lib.hid h3
  have HI := Lib.hid h4
  clear h3 h4
  go_enter Try.func10, Try.ntmps10
  go_wp2
  rw [zero26]
  have hz : (tabv fun _ => ent0) = tabv (pre (fun i => made f n i) 0) := by unfold tabv; rw [ecs_same (fun _ => ent0) (pre (fun i => made f n i) 0) 16 fun i _ => rfl]
  rw [hz]
  have hb0 : Below w.heap.size w ((w.alloc (.cells (tabv (pre (fun i => made f n i) 0)) 26)).alloc (.cells (tabv (pre (fun i => made f n i) 0)) 26)) := ((Below.refl _ w).alloc (Nat.le_refl _) _).alloc (by simp) _
  have k1 := heap_alloc2_old w (.cells (tabv (pre (fun i => made f n i) 0)) 26) (.cells (tabv (pre (fun i => made f n i) 0)) 26)
  have k2 := heap_alloc2_new w (.cells (tabv (pre (fun i => made f n i) 0)) 26) (.cells (tabv (pre (fun i => made f n i) 0)) 26)
  have hsz : ((w.alloc (.cells (tabv (pre (fun i => made f n i) 0)) 26)).alloc (.cells (tabv (pre (fun i => made f n i) 0)) 26)).heap.size = w.heap.size + 2 := by simp
  clear hz
  generalize hF : made f n = F at *
  have HF := Lib.hid hF
  clear hF
  generalize ((w.alloc (.cells (tabv (pre (fun i => F i) 0)) 26)).alloc (.cells (tabv (pre (fun i => F i) 0)) 26)) = w0 at *
  have HZ := Lib.hid (tabv_size (pre (fun i => F i) 0))
  generalize hz0 : tabv (pre (fun i => F i) 0) = tz at *
  go_loopw [5, 6, 7] (fun y i _ wr => ∃ k : Nat, k ≤ 16 ∧ i = .int .i64 k ∧ wr.ownsRow (w.heap.size + 2) 24 2 y k (ecs F k) ∧ wr.heap[w.heap.size + 1]? = some (.cells (tabv (pre F k)) 26 (0, 0)) ∧ wr.heap[w.heap.size]? = some (.cells tz 26 (0, 0)) ∧ Below w.heap.size w wr ∧ w.heap.size + 2 ≤ wr.heap.size) (fun _ i _ _ => 16 - (intOf i).toNat)
  case atStart => exact ⟨0, Nat.zero_le _, rfl, World.ownsRow_nil _ _ _ _, by rw [k2, ← hz0], k1, hb0, by omega⟩
  case round =>
    obtain ⟨k, hk, rfl, hown, ht, hz, hbel, hsz2⟩ := hrel
    by_cases hlt : k < 16
    · have hFk : F k = if k < n then cutE (f k) else ent0 := by rw [← HF.out]; rfl
      have hst := tabv_pre F k hlt
      have hc0 : ∀ o, (wr.alloc o).cell? ⟨w.heap.size + 1, k * 2, none⟩ = some (.string (pre F k k).nm) := fun o => blk_cell (blk_alloc ht) (tabv_nm _ k hlt)
      have hc1 : ∀ o, (wr.alloc o).cell? ⟨w.heap.size + 1, k * 2 + 1, none⟩ = some (.int .i64 (pre F k k).ino) := fun o => blk_cell (blk_alloc ht) (tabv_ino _ k hlt)
      have hf0 : ∀ o, (wr.alloc o).frozen? ⟨w.heap.size + 1, k * 2, none⟩ = false := fun o => frozen_of_row _ _ _ _ _ (blk_alloc ht)
      have hf1 : ∀ o, (wr.alloc o).frozen? ⟨w.heap.size + 1, k * 2 + 1, none⟩ = false := fun o => frozen_of_row _ _ _ _ _ (blk_alloc ht)
      have hown1 : ∀ o u1 u2, (((wr.alloc o).setCell ⟨w.heap.size + 1, k * 2, none⟩ u1).setCell ⟨w.heap.size + 1, k * 2 + 1, none⟩ u2).ownsRow (w.heap.size + 2) 24 2 u5 k (ecs F k) := fun o u1 u2 => own_set (own_set (hown.alloc o) (by omega) _) (by omega) _
      have hstep : ∀ o u1 u2 w', (((wr.alloc o).setCell ⟨w.heap.size + 1, k * 2, none⟩ u1).setCell ⟨w.heap.size + 1, k * 2 + 1, none⟩ u2).grownBy w' u5.ownBlock → _ := fun o u1 u2 w' hgr => table_step (o := o) hbel hsz2 ht hz (fun b hb => (hown.lt b hb).1) hgr
      have hsw : ∀ o u1 u2, w.heap.size + 2 ≤ (((wr.alloc o).setCell ⟨w.heap.size + 1, k * 2, none⟩ u1).setCell ⟨w.heap.size + 1, k * 2 + 1, none⟩ u2).heap.size := fun o u1 u2 => by simp [World.setCell]; omega
      have HOWN := Lib.hid hown1
      have HSTEP := Lib.hid hstep
      have HST := Lib.hid hst
      have HSW := Lib.hid hsw
      have HSE : Hid (∀ o u1 u2, (((wr.alloc o).setCell ⟨w.heap.size + 1, k * 2, none⟩ u1).setCell ⟨w.heap.size + 1, k * 2 + 1, none⟩ u2).heap.size = wr.heap.size + 1) := Lib.hid fun o u1 u2 => by simp [World.setCell]
      have hend : ∀ (v' : Value) (w' : World) s m, F k = ⟨s, m⟩ → w'.ownsRow (w.heap.size + 2) 24 2 v' (k + 1) (ecs F k ++ [.string s, .int .i64 m]) → w'.heap[w.heap.size + 1]? = some (.cells (((tabv (pre F k)).setIfInBounds (k * 2) (.string s)).setIfInBounds (k * 2 + 1) (.int .i64 m)) 26 (0, 0)) →
          w'.ownsRow (w.heap.size + 2) 24 2 v' (k + 1) (ecs F (k + 1)) ∧ w'.heap[w.heap.size + 1]? = some (.cells (tabv (pre F (k + 1))) 26 (0, 0)) := fun v' w' s m he h1 h2 => by
        rw [HST.out s m he] at h2
        refine ⟨?_, h2⟩
        rw [ecs, he]
        exact h1
      have HEND := Lib.hid hend
      have HFK := Lib.hid hFk
      have HBEL := Lib.hid hbel
      clear hown1 hstep hst hsw hend hown ht hz hbel hFk
      generalize hq1 : (pre F k k).nm = s1 at *
      generalize hq2 : (pre F k k).ino = m1 at *
      clear hq1 hq2
      have hsz3 : (f k).nm.size ≤ 9223372036854775807 := HS.out k
      by_cases hkn : k < n
      · obtain ⟨b, off, rfl, hb, hcell⟩ := HI.out (by omega)
        obtain ⟨hl1, hl2⟩ := hcell k hkn
        have hbw : b < wr.heap.size := by omega
        have hl1' : ∀ o, (wr.alloc o).cell? ⟨b, off + k * 2, none⟩ = some (.string (f k).nm) := fun o => by rw [World.cell?_alloc_past _ _ _ hbw]; exact (HBEL.out.cell (p := ⟨b, off + k * 2, none⟩) hb).trans hl1
        have hl2' : ∀ o, (wr.alloc o).cell? ⟨b, off + k * 2 + 1, none⟩ = some (.int .i64 (f k).ino) := fun o => by rw [World.cell?_alloc_past _ _ _ hbw]; exact (HBEL.out.cell (p := ⟨b, off + k * 2 + 1, none⟩) hb).trans hl2
        have hFe : F k = ⟨shrt (f k).nm, (f k).ino⟩ := by rw [HFK.out, if_pos hkn]; rfl
        clear hl1 hl2 hcell
        generalize (f k).nm = t at *
        generalize (f k).ino = m at *
        by_cases hlong : 20 < t.size
        · have HFe := Lib.hid (show F k = ⟨t.extract 0 20, m⟩ by rw [hFe]; unfold shrt; rw [if_pos hlong])
          clear hFe
          go_wp2_with (at_builtin; refine wpl_app2 rfl _ _ rfl rfl (HOWN.out _ _ _) rfl rfl rfl (HSE.out _ _ _) (by omega) (HSW.out _ _ _) ?_; intro v' w' hown' hgr'; have HS1 := Lib.hid (HSTEP.out _ _ _ _ hgr'); have HO1 := Lib.hid hown'; clear hown' hgr')
          obtain ⟨e1, e2, e3, e4⟩ := HS1.out
          obtain ⟨e5, e6⟩ := HEND.out _ _ _ _ HFe.out HO1.out e1
          exact ⟨⟨k + 1, by omega, by go_num, e5, e6, e2, e3, e4⟩, by simp [intOf]; omega⟩
        · have HFe := Lib.hid (show F k = ⟨t, m⟩ by rw [hFe]; unfold shrt; rw [if_neg hlong])
          clear hFe
          go_wp2_with (at_builtin; refine wpl_app2 rfl _ _ rfl rfl (HOWN.out _ _ _) rfl rfl rfl (HSE.out _ _ _) (by omega) (HSW.out _ _ _) ?_; intro v' w' hown' hgr'; have HS1 := Lib.hid (HSTEP.out _ _ _ _ hgr'); have HO1 := Lib.hid hown'; clear hown' hgr')
          obtain ⟨e1, e2, e3, e4⟩ := HS1.out
          obtain ⟨e5, e6⟩ := HEND.out _ _ _ _ HFe.out HO1.out e1
          exact ⟨⟨k + 1, by omega, by go_num, e5, e6, e2, e3, e4⟩, by simp [intOf]; omega⟩
      · have HFe := Lib.hid (show F k = ⟨{ data := #[] }, 0⟩ by rw [HFK.out, if_neg hkn]; rfl)
        clear hsz3
        go_wp2_with (at_builtin; refine wpl_app2 rfl _ _ rfl rfl (HOWN.out _ _ _) rfl rfl rfl (HSE.out _ _ _) (by omega) (HSW.out _ _ _) ?_; intro v' w' hown' hgr'; have HS1 := Lib.hid (HSTEP.out _ _ _ _ hgr'); have HO1 := Lib.hid hown'; clear hown' hgr')
        obtain ⟨e1, e2, e3, e4⟩ := HS1.out
        obtain ⟨e5, e6⟩ := HEND.out _ _ _ _ HFe.out HO1.out e1
        exact ⟨⟨k + 1, by omega, by go_num, e5, e6, e2, e3, e4⟩, by simp [intOf]; omega⟩
    · obtain rfl : k = 16 := by omega
      rw [tabv_pre16] at ht
      have HOWN := Lib.hid hown
      have HBEL := Lib.hid hbel
      clear hown hbel
      go_wp2_with (first
        | (refine wpl_load26 rfl _ rfl rfl ht ?_)
        | (refine wpl_store26 rfl _ _ rfl rfl rfl hz HZ.out ?_))
      refine bodyPost_ret (v := .tuple #[.agg (tabv F), u5]) (results_cell_tmp (p := 2) (t' := 3) rfl _ _ w.heap.size 26 (tabv F) (0, 0) _ rfl (setRow_heap _ _ _ _ _ _ hz) Try.underlying26 rfl (info26 F)) rfl ⟨u5, by rw [HF.out], ?_, below_setRow' HBEL.out (Nat.le_refl _) _⟩
      rw [HF.out]
      exact own_mono (own_setRow HOWN.out (by omega) hz _) (by omega)
end Go.Proofs.Ythhcgdmpbihdnaa
