/-
  Read of a table.
-/
import Derived.Test.YthhcgdmpbihdnaaEqB
namespace Go.Proofs.Ythhcgdmpbihdnaa
open Go.RowKit Go.Deep
theorem size2 (w : World) (o1 o2 : Obj) : ((w.alloc o1).alloc o2).heap.size = w.heap.size + 1 + 1 := by simp
theorem st26g {ops : Array Oper} {rest : List Oper} {a : Act} {w : World} {Q : Exit → Act → World → Prop} {d : Option Tmp} {t : TypeId} {ps : String} {af : Array Edge} {x y : Operand} {f : Nat → Ent} {old : Array Value} {g : Nat} (hx : a.eval x = .pointer (some ⟨g, 0, none⟩)) (hg : w.heap.size = g) (hy : a.eval y = .agg (tabv f))
    (hold : old.size = 32) (h : wpList Try.prog ops Q rest (a.put d undef) (w.alloc (.cells (tabv f) 26))) : wpList Try.prog ops Q ({ dst := d, op := .store 26 x y, type := t, pos := ps, after := af, guard := none } :: rest) a (w.alloc (.cells old 26)) := by
  subst hg
  exact wpl_store26_new rfl x y rfl hx hy hold h
theorem Byt.cut {w : World} {A : Option Addr} {cap m : Nat} {l : List Nat} (h : Byt w (.slice A l.length cap) l) (hm : m ≤ l.length) : Byt w (.slice A m cap) (l.take m) := by
  obtain ⟨A', cap', e, h1, h2, h3, h4⟩ := h
  injection e with e1 e2 e3
  subst e1 e3
  have hl : (l.take m).length = m := by simp; omega
  refine ⟨A, cap, by rw [hl], by omega, h2, h3, fun h0 => ?_⟩
  obtain ⟨b, off, e, hb, hc⟩ := h4 (by omega)
  refine ⟨b, off, e, hb, fun j hj => ?_⟩
  rw [hl] at hj
  rw [hc j (by omega)]
  simp [hj]
theorem Byt.cut' {w : World} {A : Option Addr} {cap m n : Nat} {l : List Nat} (h : Byt w (.slice A n cap) l) (hn : l.length = n) (hm : m ≤ n) : Byt w (.slice A m cap) (l.take m) := by
  subst hn
  exact h.cut hm
theorem eb_lt {e : Ent} (h : mayE e = true) : ∀ x ∈ eb e, x < 256 := by
  have hb := mayE_bd h
  intro x hx
  simp only [eb, List.mem_append, List.mem_cons, List.not_mem_nil, or_false, List.mem_replicate] at hx
  rcases hx with ((rfl | rfl) | hx) | ⟨_, rfl⟩
  · omega
  · omega
  · simp only [sb, List.mem_map] at hx
    obtain ⟨c, _, rfl⟩ := hx
    exact c.toNat_lt
  · decide
theorem bts_lt (f : Nat → Ent) (a : Nat) : ∀ j, okE f a j = true → ∀ x ∈ bts f a j, x < 256
  | 0, _, x, hx => by cases hx
  | j + 1, h, x, hx => by
    rw [okE, Bool.and_eq_true] at h
    rw [bts, List.mem_append] at hx
    rcases hx with hx | hx
    · exact bts_lt f a j h.1 x hx
    · exact eb_lt h.2 x hx
theorem nx_size {f : Nat → Ent} (hf : ∀ i, (f i).nm.size ≤ 9223372036854775807) (l : List Nat) (a : Nat) (hl : l.length < 1000) (i : Nat) : (nx f l a 4 i).nm.size ≤ 9223372036854775807 := by
  unfold nx
  split
  · show (str _).size ≤ _
    rw [str_size]
    simp
    omega
  · exact hf i
theorem read_arg (f : Nat → Ent) (k : Int) (hk : ¬ (0 ≤ k ∧ k < 4)) {v : Value} {l : List Nat} {w : World} (hv : Byt w v l) :
    Calls Try.prog 25 #[.agg (tabv f), .int .i64 k, v] w fun e w' => e = .returned (.tuple #[.agg (tabv f), .int .i64 1]) ∧ Below w.heap.size w w' := by
  obtain ⟨A, cap, rfl, _⟩ := hv
  generalize l.length = n at *
  have hIS : ∀ W, Calls Try.prog 35 #[.int .i64 k] W fun e w' => e = .returned (.bool false) ∧ W = w' := fun W => by
    have h := dirIs_any k W
    rw [show (decide (0 ≤ k) && decide (k < 4)) = false by simp; omega] at h
    exact h
  have HIS := Lib.hid hIS
  have k1 := fun o => heap_alloc2_old w (.cells (tabv f) 26) o
  have k2 := fun o => heap_alloc2_new w (.cells (tabv f) 26) o
  have HBE : Hid (∀ o cs, Below w.heap.size w (((w.alloc (.cells (tabv f) 26)).alloc o).setRow (w.heap.size + 1) cs)) := Lib.hid fun o cs => below_setRow' (((Below.refl _ w).alloc (Nat.le_refl _) _).alloc (by simp) _) (by omega) _
  have K1 := Lib.hid k1
  have K2 := Lib.hid k2
  clear hIS hk k1 k2
  go_enter Try.func25, Try.ntmps25
  go_wp2_with (first
    | (go_at_call 35; refine (HIS.out _).mono ?_; rintro e w' ⟨rfl, rfl⟩)
    | ((with_reducible refine ld26 (f := f) ?_ (K1.out _) ?_); exact rfl)
    | ((with_reducible refine st26 (f := f) ?_ ?_ (K2.out _) ?_ ?_); exact rfl; exact rfl; exact rfl))
  exact bodyPost_ret (v := .tuple #[.agg (tabv f), .int .i64 1]) (results_cell_tmp (p := 6) (t' := 7) rfl _ _ (w.heap.size + 1) 26 (tabv f) (0, 0) _ rfl (setRow_heap _ _ _ _ _ _ (K2.out _)) Try.underlying26 rfl (info26 f)) rfl ⟨rfl, HBE.out _ _⟩
theorem read_short (f : Nat → Ent) (k : Nat) (hk : k < 4) {v : Value} {l : List Nat} {w : World} (hv : Byt w v l) (hl : l.length < 64) :
    Calls Try.prog 25 #[.agg (tabv f), .int .i64 k, v] w fun e w' => e = .returned (.tuple #[.agg (tabv f), .int .i64 3]) ∧ Below w.heap.size w w' := by
  obtain ⟨A, cap, rfl, _⟩ := hv
  generalize l.length = n at *
  have hIS : ∀ W, Calls Try.prog 35 #[.int .i64 k] W fun e w' => e = .returned (.bool true) ∧ W = w' := fun W => by
    have h := dirIs_any k W
    rw [show (decide (0 ≤ (k : Int)) && decide ((k : Int) < 4)) = true by simp; omega] at h
    exact h
  have HIS := Lib.hid hIS
  have k1 := fun o => heap_alloc2_old w (.cells (tabv f) 26) o
  have k2 := fun o => heap_alloc2_new w (.cells (tabv f) 26) o
  have HBE : Hid (∀ o cs, Below w.heap.size w (((w.alloc (.cells (tabv f) 26)).alloc o).setRow (w.heap.size + 1) cs)) := Lib.hid fun o cs => below_setRow' (((Below.refl _ w).alloc (Nat.le_refl _) _).alloc (by simp) _) (by omega) _
  have K1 := Lib.hid k1
  have K2 := Lib.hid k2
  clear hIS hk k1 k2
  go_enter Try.func25, Try.ntmps25
  go_wp2_with (first
    | (go_at_call 35; refine (HIS.out _).mono ?_; rintro e w' ⟨rfl, rfl⟩)
    | ((with_reducible refine ld26 (f := f) ?_ (K1.out _) ?_); exact rfl)
    | ((with_reducible refine st26 (f := f) ?_ ?_ (K2.out _) ?_ ?_); exact rfl; exact rfl; exact rfl))
  exact bodyPost_ret (v := .tuple #[.agg (tabv f), .int .i64 3]) (results_cell_tmp (p := 6) (t' := 7) rfl _ _ (w.heap.size + 1) 26 (tabv f) (0, 0) _ rfl (setRow_heap _ _ _ _ _ _ (K2.out _)) Try.underlying26 rfl (info26 f)) rfl ⟨rfl, HBE.out _ _⟩
def ReadPost (f : Nat → Ent) (l : List Nat) (k : Nat) (w : World) (e : Ending) (w' : World) : Prop :=
  (okTo' l 4 = true ∧ e = .returned (.tuple #[.agg (tabv (nx f l (4 * k) 4)), .int .i64 0]) ∧ Below w.heap.size w w') ∨
  (okTo' l 4 = false ∧ e = .returned (.tuple #[.agg (tabv f), .int .i64 2]) ∧ Below w.heap.size w w')
set_option maxRecDepth 100000 in
set_option maxHeartbeats 1000000 in
theorem read_in (f : Nat → Ent) (hf : ∀ i, (f i).nm.size ≤ 9223372036854775807) (k : Nat) (hk : k < 4) {v : Value} {l : List Nat} {w : World} (hv : Byt w v l) (hl : 64 ≤ l.length) (hl2 : l.length < 1000) (hb : ∀ x ∈ l, x < 256) :
    Calls Try.prog 25 #[.agg (tabv f), .int .i64 k, v] w (ReadPost f l k w) := by
  have HV := Lib.hid hv
  have HLT := Lib.hid hb
  have HIFF := Lib.hid (read_iff f (l := l) (4 * k) hl hb)
  have HNX := Lib.hid (nx_size hf l (4 * k) hl2)
  have hBL : Hid (∀ q, l.getD q 0 < 256) := Lib.hid fun q => by
    rw [List.getD_eq_getElem?_getD]
    cases h : l[q]? with
    | none => simp
    | some x => exact hb x (List.mem_of_getElem? h)
  obtain ⟨A, cap, rfl, hc1, hc2, hc3, hc4⟩ := hv
  obtain ⟨b, off, rfl, hbw, hcell⟩ := hc4 (by omega)
  have HCELL := Lib.hid hcell
  unfold maxLen at hc2
  clear hcell hc4 hc3 hb hf
  generalize hn : l.length = n at *
  have HN := Lib.hid hn
  clear hn
  have hIS : ∀ W, Calls Try.prog 35 #[.int .i64 k] W fun e w' => e = .returned (.bool true) ∧ W = w' := fun W => by
    have h := dirIs_any k W
    rw [show (decide (0 ≤ (k : Int)) && decide ((k : Int) < 4)) = true by simp; omega] at h
    exact h
  have HIS := Lib.hid hIS
  have hn64 : ¬ ((n : Int) < 64) := by omega
  have K1 : Hid (∀ o, ((w.alloc (.cells (tabv f) 26)).alloc o).heap[w.heap.size]? = some (.cells (tabv f) 26 (0, 0))) := Lib.hid fun o => heap_alloc2_old w (.cells (tabv f) 26) o
  clear hIS
  go_enter Try.func25, Try.ntmps25
  go_wp2_with (first
    | (go_at_call 35; refine (HIS.out _).mono ?_; rintro e w' ⟨rfl, rfl⟩)
    | ((with_reducible refine ld26 (f := f) ?_ (K1.out _) ?_); exact rfl)
    | ((with_reducible apply st26g (f := f) (g := w.heap.size + 1 + 1)); exact rfl; exact size2 _ _ _; exact rfl; exact rfl))
  rw [zero26]
  have k1 := heap3_0 w (.cells (tabv f) 26) (.cells (tabv fun _ => ent0) 26) (.cells (tabv f) 26)
  have k2 := heap3_1 w (.cells (tabv f) 26) (.cells (tabv fun _ => ent0) 26) (.cells (tabv f) 26)
  have k3 := heap3_2 w (.cells (tabv f) 26) (.cells (tabv fun _ => ent0) 26) (.cells (tabv f) 26)
  have hb0 : Below w.heap.size w (((w.alloc (.cells (tabv f) 26)).alloc (.cells (tabv fun _ => ent0) 26)).alloc (.cells (tabv f) 26)) := (((Below.refl _ w).alloc (Nat.le_refl _) _).alloc (by simp) _).alloc (by simp; omega) _
  generalize (((w.alloc (.cells (tabv f) 26)).alloc (.cells (tabv fun _ => ent0) 26)).alloc (.cells (tabv f) 26)) = w0 at *
  have HZS := Lib.hid (tabv_size fun _ => ent0)
  generalize tabv (fun _ => ent0) = tz at *
  go_loopw [9, 10, 11, 25] (fun _ _ _ y wr => ∃ i : Nat, i ≤ 4 ∧ y = .int .i64 i ∧ wr.heap[w.heap.size]? = some (.cells (tabv f) 26 (0, 0)) ∧ wr.heap[w.heap.size + 1]? = some (.cells tz 26 (0, 0)) ∧
      wr.heap[w.heap.size + 1 + 1]? = some (.cells (tabv (nx f l (4 * k) i)) 26 (0, 0)) ∧ shortTo l i ∧ Below w.heap.size w wr) (fun _ _ _ y _ => 4 - (intOf y).toNat)
  case atStart => exact ⟨0, Nat.zero_le _, rfl, k1, k2, by rw [nx_zero]; exact k3, fun i h => absurd h (Nat.not_lt_zero _), hb0⟩
  case round =>
    clear k1 k2 k3 hb0
    obtain ⟨i, hi, rfl, b1, b2, b3, hsh, hbel⟩ := hrel
    have HBEL := Lib.hid hbel
    have HSH := Lib.hid hsh
    have hsz := hbel.size
    clear hbel hsh
    by_cases hlt : i < 4
    · have hd : ((i : Nat) : Int) < 4 := by omega
      have c1 : wr.cell? ⟨b, off + 16 * i + 1, none⟩ = some (.int .u8 (nl l i : Nat)) := by
        rw [show off + 16 * i + 1 = off + (16 * i + 1) by omega]
        exact (HBEL.out.cell (p := ⟨b, off + (16 * i + 1), none⟩) hbw).trans (HCELL.out (16 * i + 1) (by omega))
      have hN' : nl l i < 256 := hBL.out (16 * i + 1)
      have HLONG := Lib.hid (long_no (l := l) (i := i) hlt)
      have hi1 : (16 * (i : Int)).toNat = 16 * i := by omega
      have hi2 : (16 * ((i : Int) + 1)).toNat = 16 * i + 16 := by omega
      have hcn : ¬ cap = 16 * i := by omega
      have hs16 : 16 * i + 16 - 16 * i = 16 := by omega
      have v1 : 0 ≤ 16 * (i : Int) := by omega
      have v2 : 16 * (i : Int) ≤ 16 * ((i : Int) + 1) := by omega
      have v3 : 16 * ((i : Int) + 1) ≤ cap := by omega
      have HSH2 : Hid (nl l i ≤ 12 → shortTo l (i + 1)) := Lib.hid fun h q hq => by
        by_cases e : q = i
        · rw [e]; exact h
        · exact HSH.out q (by omega)
      have HRD0 : Hid (rd l i = ⟨str ((l.drop (16 * i + 2)).take (nl l i)), (l.getD (16 * i) 0 : Nat)⟩) := Lib.hid rfl
      have hx0 : l.getD (16 * i) 0 < 256 := hBL.out (16 * i)
      have c0 : wr.cell? ⟨b, off + 16 * i, none⟩ = some (.int .u8 (l.getD (16 * i) 0 : Nat)) := (HBEL.out.cell (p := ⟨b, off + 16 * i, none⟩) hbw).trans (HCELL.out (16 * i) (by omega))
      generalize hm : nl l i = m at *
      have HM := Lib.hid hm
      clear hm
      by_cases hm12 : 12 < m
      · have HF := Lib.hid (HLONG.out (by omega))
        have HBX : Hid (∀ cs, Below w.heap.size w (wr.setRow (w.heap.size + 1) cs)) := Lib.hid fun cs => below_setRow' HBEL.out (by omega) _
        go_wp2_with (first
          | ((with_reducible refine ld26 (f := f) ?_ b1 ?_); exact rfl)
          | ((with_reducible refine st26 (f := f) ?_ ?_ b2 ?_ ?_); exact rfl; exact rfl; exact HZS.out))
        exact bodyPost_ret (v := .tuple #[.agg (tabv f), .int .i64 2]) (results_cell_tmp (p := 6) (t' := 7) rfl _ _ (w.heap.size + 1) 26 (tabv f) (0, 0) _ rfl (setRow_heap _ _ _ _ _ _ b2) Try.underlying26 rfl (info26 f)) rfl (.inr ⟨HF.out, rfl, HBX.out _⟩)
      · go_wp2
        have hbyt : Byt wr (.slice (some ⟨b, off + 16 * i + 2, none⟩) m (cap - 16 * i - 2)) ((l.drop (16 * i + 2)).take m) := by
          have hlen : ((l.drop (16 * i + 2)).take m).length = m := by simp; have := HN.out; omega
          refine ⟨_, _, by rw [hlen], by omega, by unfold maxLen; omega, (fun h => by cases h), fun _ => ⟨b, _, rfl, Nat.lt_of_lt_of_le hbw hsz, fun q hq => ?_⟩⟩
          rw [hlen] at hq
          rw [getD_drop_take _ _ _ _ hq, show off + 16 * i + 2 + q = off + (16 * i + 2 + q) by omega]
          exact (HBEL.out.cell (p := ⟨b, off + (16 * i + 2 + q), none⟩) hbw).trans (HCELL.out (16 * i + 2 + q) (by omega))
        have s0 : (convert 39 9 (.slice (some ⟨b, off + 16 * i + 2, none⟩) m (cap - 16 * i - 2))).run Try.prog wr.drew = .ok (.string (str ((l.drop (16 * i + 2)).take m))) wr.drew := run_str (hbyt.below ((Below.refl _ _).drew))
        have hst := tabv_set (nx f l (4 * k) i) (4 * k + i) (by omega) (str ((l.drop (16 * i + 2)).take m)) (l.getD (16 * i) 0 : Nat)
        rw [← HRD0.out, nx_upd] at hst
        have c0' : wr.drew.cell? ⟨b, off + 16 * i, none⟩ = some (.int .u8 (l.getD (16 * i) 0 : Nat)) := c0
        have d1 : wr.drew.heap[w.heap.size]? = some (.cells (tabv f) 26 (0, 0)) := b1
        have d2 : wr.drew.heap[w.heap.size + 1]? = some (.cells tz 26 (0, 0)) := b2
        have d3 : wr.drew.heap[w.heap.size + 1 + 1]? = some (.cells (tabv (nx f l (4 * k) i)) 26 (0, 0)) := b3
        have t0 := blk_cell d3 (tabv_nm _ (4 * k + i) (by omega))
        have t1 := blk_cell d3 (tabv_ino _ (4 * k + i) (by omega))
        have tf0 := frozen_of_row _ _ ((4 * k + i) * 2) _ _ d3
        have tf1 := frozen_of_row _ _ ((4 * k + i) * 2 + 1) _ _ d3
        have HBD := Lib.hid (show Below w.heap.size w wr.drew from HBEL.out.drew)
        generalize str ((l.drop (16 * i + 2)).take m) = nmv at *
        generalize l.getD (16 * i) 0 = x0 at *
        generalize (nx f l (4 * k) i (4 * k + i)).nm = nm0 at *
        generalize (nx f l (4 * k) i (4 * k + i)).ino = in0 at *
        have HST := Lib.hid hst
        have HD := Lib.hid (And.intro d1 (And.intro d2 d3))
        have HCN : Hid (2 + m - 2 = m) := Lib.hid (by omega)
        have u3 : 0 ≤ 2 + (m : Int) := by omega
        have u4 : (2 : Int) ≤ 2 + (m : Int) := by omega
        have u5 : 2 + (m : Int) ≤ ((cap - 16 * i : Nat) : Int) := by omega
        have u6 : (2 + (m : Int)).toNat = 2 + m := by omega
        have u7 : ¬ cap - 16 * i = 2 := by omega
        have u8 := HCN.out
        have z1 : 0 ≤ 4 * (k : Int) + (i : Int) := by omega
        have z2 : 4 * (k : Int) + (i : Int) < 16 := by omega
        have z3 : (4 * (k : Int) + (i : Int)).toNat = 4 * k + i := by omega
        clear hbyt c0 hst b1 b2 b3 d1 d2 d3
        have hw1 : IntKind.i64.wrap (4 * (k : Int)) = 4 * (k : Int) := by rw [IntKind.wrap_i64]; omega
        have hw2 : IntKind.i64.wrap (4 * (k : Int) + (i : Int)) = 4 * (k : Int) + (i : Int) := by rw [IntKind.wrap_i64]; omega
        have hw3 : IntKind.i64.wrap (x0 : Int) = x0 := by rw [IntKind.wrap_i64]; omega
        have hw4 : IntKind.i64.wrap (2 + (m : Int)) = 2 + (m : Int) := by rw [IntKind.wrap_i64]; omega
        refine wp_region_any (by kernel_rfl) ?_
        change wpAny _ _ _ _ _ _ _ (World.drew wr)
        generalize wr.drew = wd at *
        refine wpAny_take (i := 0) (v := .int .i64 (k : Nat)) rfl (by kernel_rfl) (by kernel_rfl) (by kernel_rfl) (fun _ _ _ h => h) (Or.inl ⟨by rfl, fun w => by go_simp⟩) ?_
        refine wpAny_take (i := 1) (v := .int .i64 (4 * (k : Int))) rfl (by kernel_rfl) (by kernel_rfl) (by kernel_rfl) (fun _ _ _ h => h) (Or.inl ⟨by rfl, fun w => by go_simp⟩) ?_
        refine wpAny_take (i := 2) (v := .int .i64 (i : Nat)) rfl (by kernel_rfl) (by kernel_rfl) (by kernel_rfl) (fun _ _ _ h => h) (Or.inl ⟨by rfl, fun w => by go_simp⟩) ?_
        refine wpAny_take (i := 3) (v := .int .i64 (4 * (k : Int) + (i : Nat))) rfl (by kernel_rfl) (by kernel_rfl) (by kernel_rfl) (fun _ _ _ h => h) (Or.inl ⟨by rfl, fun w => by go_simp⟩) ?_
        refine wpAny_take (i := 4) (v := .slice (some ⟨b, off + 16 * i, none⟩) 16 (cap - 16 * i)) rfl (by kernel_rfl) (by kernel_rfl) (by kernel_rfl) (fun _ _ _ h => h) (Or.inl ⟨by rfl, fun w => by go_simp⟩) ?_
        refine wpAny_take (i := 5) (v := .int .i64 (m : Nat)) rfl (by kernel_rfl) (by kernel_rfl) (by kernel_rfl) (fun _ _ _ h => h) (Or.inl ⟨by rfl, fun w => by go_simp⟩) ?_
        refine wpAny_take (i := 6) (v := .int .i64 (2 + (m : Int))) rfl (by kernel_rfl) (by kernel_rfl) (by kernel_rfl) (fun _ _ _ h => h) (Or.inl ⟨by rfl, fun w => by go_simp⟩) ?_
        refine wpAny_take (i := 7) (v := .slice (some ⟨b, off + 16 * i + 2, none⟩) m (cap - 16 * i - 2)) rfl (by kernel_rfl) (by kernel_rfl) (by kernel_rfl) (fun _ _ _ h => h) (Or.inl ⟨by rfl, fun w => by go_simp⟩) ?_
        refine wpAny_take (i := 9) (v := .slice (some ⟨b, off + 16 * i, none⟩) 16 (cap - 16 * i)) rfl (by kernel_rfl) (by kernel_rfl) (by kernel_rfl) (fun _ _ _ h => h) (Or.inl ⟨by rfl, fun w => by go_simp⟩) ?_
        refine wpAny_take (i := 10) (v := .pointer (some ⟨b, off + 16 * i, none⟩)) rfl (by kernel_rfl) (by kernel_rfl) (by kernel_rfl) (fun _ _ _ h => h) (Or.inl ⟨by rfl, fun w => by go_simp⟩) ?_
        refine wpAny_ready (rs := [8, 11]) (by kernel_rfl) (by simp) ?_
        refine (AllReady.cons rfl (fun K hK => ?_) (AllReady.cons rfl (fun K hK => ?_) AllReady.nil))
        go_simp
        refine hK _ _ ?_
        clear hK K
        refine wpAny_one 11 _ (by kernel_rfl) rfl rfl (fun K hK => ?_)
        go_simp
        refine hK _ _ ?_
        clear hK K
        refine wpAny_take (i := 12) (v := .int .i64 (x0 : Nat)) rfl (by kernel_rfl) (by kernel_rfl) (by kernel_rfl) (fun _ _ _ h => h) (Or.inl ⟨by rfl, fun w => by go_simp⟩) ?_
        refine wpAny_take (i := 13) (v := .agg #[.string nmv, .int .i64 (x0 : Nat)]) rfl (by kernel_rfl) (by kernel_rfl) (by kernel_rfl) (fun _ _ _ h => h) (Or.inl ⟨by rfl, fun w => by go_simp⟩) ?_
        refine wpAny_take (i := 14) (v := .pointer (some ⟨w.heap.size + 1 + 1, (4 * k + i) * 2, none⟩)) rfl (by kernel_rfl) (by kernel_rfl) (by kernel_rfl) (fun _ _ _ h => h) (Or.inl ⟨by rfl, fun w => by go_simp⟩) ?_
        rotate_left
        go_simp
        refine hK _ _ ?_
        clear hK K
        refine wpAny_take (i := 12) (v := .int .i64 (x0 : Nat)) rfl (by kernel_rfl) (by kernel_rfl) (by kernel_rfl) (fun _ _ _ h => h) (Or.inl ⟨by rfl, fun w => by go_simp⟩) ?_
        refine wpAny_one 8 _ (by kernel_rfl) rfl rfl (fun K hK => ?_)
        go_simp
        refine hK _ _ ?_
        clear hK K
        refine wpAny_take (i := 13) (v := .agg #[.string nmv, .int .i64 (x0 : Nat)]) rfl (by kernel_rfl) (by kernel_rfl) (by kernel_rfl) (fun _ _ _ h => h) (Or.inl ⟨by rfl, fun w => by go_simp⟩) ?_
        refine wpAny_take (i := 14) (v := .pointer (some ⟨w.heap.size + 1 + 1, (4 * k + i) * 2, none⟩)) rfl (by kernel_rfl) (by kernel_rfl) (by kernel_rfl) (fun _ _ _ h => h) (Or.inl ⟨by rfl, fun w => by go_simp⟩) ?_
        rotate_left
        clear hw1 hw2 hw3 hw4
        all_goals
          refine wpAny_one 15 _ (by kernel_rfl) rfl rfl (fun K hK => ?_)
          go_simp
          refine hK _ _ ?_
          clear hK K
          refine wpAny_done (by kernel_rfl) ?_ _
          go_wp2
          refine ⟨⟨i + 1, by omega, by go_num, blk_set_other (blk_set_other HD.out.1 (by omega)) (by omega), blk_set_other (blk_set_other HD.out.2.1 (by omega)) (by omega), ?_, HSH2.out (by omega), (HBD.out.setCell (p := ⟨w.heap.size + 1 + 1, (4 * k + i) * 2, none⟩) (by simp; omega) _).setCell (p := ⟨w.heap.size + 1 + 1, (4 * k + i) * 2 + 1, none⟩) (by simp; omega) _⟩, by simp [intOf]; omega⟩
          rw [← HST.out]
          exact setRow_cell _ _ _ _ _ _ (setRow_cell _ _ _ _ _ _ HD.out.2.2)
    · obtain rfl : i = 4 := by omega
      have HB4 := Lib.hid b3
      have HBK := Lib.hid (block_in (nx f l (4 * k) 4) HNX.out k hk wr)
      have hiff := HIFF.out HSH.out
      have HIF := Lib.hid hiff
      have hlb3 := blk_lt b3
      have hlb2 := blk_lt b2
      have hlb1 := blk_lt b1
      clear hiff
      go_wp2_with ((with_reducible refine ld26 ?_ b3 ?_); exact rfl)
      refine (HBK.out).mono ?_
      rintro e w2 (⟨hok, v2, rfl, hown, hb2⟩ | ⟨hok, rfl, hb2⟩)
      · have e1 := blk_below hb2 hlb1 b1
        have e2 := blk_below hb2 hlb2 b2
        have e3 := blk_below hb2 hlb3 b3
        have HB2 := Lib.hid (below_then HBEL.out hb2)
        have hlen : (bts (nx f l (4 * k) 4) (4 * k) 4).length = 64 := bts_len _ _ _ hok
        have hlt64 : (l.take 64).length = 64 := by simp; have := HN.out; omega
        have HY1 := Lib.hid (byt_own (by rw [hlen]; exact hown))
        have HY2 := Lib.hid (((HV.out.below HBEL.out).below hb2).cut' (m := 64) HN.out hl)
        have HBX : Hid (∀ cs, Below w.heap.size w (w2.setRow (w.heap.size + 1) cs)) := Lib.hid fun cs => below_setRow' HB2.out (by omega) _
        have HEQ := Lib.hid fun W (h1 : Byt W v2 (bts (nx f l (4 * k) 4) (4 * k) 4)) (h2 : Byt W (.slice (some ⟨b, off, none⟩) 64 cap) (l.take 64)) => eqB_any h1 h2 (by rw [hlen]; decide) (by rw [hlt64]; decide) (bts_lt _ _ 4 hok) (fun x hx => HLT.out x (List.mem_of_mem_take hx))
        obtain ⟨q2, cp2, rfl, _, _, _, _⟩ := own_at hown (by decide)
        have h64c : (64 : Int) ≤ cap := by omega
        have RES : Hid (∀ g : Nat → Ent, ((w2.setRow (w.heap.size + 1) (tabv g)).heap[w.heap.size + 1]? = some (.cells (tabv g) 26 (0, 0)))) := Lib.hid fun g => setRow_heap _ _ _ _ _ _ e2
        clear hlen hlt64 hb2 b1 b2 b3 hown
        cases hde : decide (bts (nx f l (4 * k) 4) (4 * k) 4 = l.take 64)
        · have HF := Lib.hid (show okTo' l 4 = false by
            cases h : okTo' l 4
            · rfl
            · exact absurd (HIF.out.1 h).2 (of_decide_eq_false hde))
          rw [hde] at HEQ
          have HE2 := Lib.hid (HEQ.out _ HY1.out HY2.out)
          clear hde
          go_wp2_with fail
          refine (HE2.out).mono ?_
          rintro e w3 ⟨rfl, hb3⟩
          have f1 := blk_below hb3 (blk_lt e1) e1
          have f2 := blk_below hb3 (blk_lt e2) e2
          have HBX3 : Hid (∀ cs, Below w.heap.size w (w3.setRow (w.heap.size + 1) cs)) := Lib.hid fun cs => below_setRow' (below_then HB2.out hb3) (by omega) _
          clear hb3 e1 e2 e3
          go_wp2_with (first
            | ((with_reducible refine ld26 (f := f) ?_ f1 ?_); exact rfl)
            | ((with_reducible refine st26 (f := f) ?_ ?_ f2 ?_ ?_); exact rfl; exact rfl; exact HZS.out))
          exact bodyPost_ret (v := .tuple #[.agg (tabv f), .int .i64 2]) (results_cell_tmp (p := 6) (t' := 7) rfl _ _ (w.heap.size + 1) 26 (tabv f) (0, 0) _ rfl (setRow_heap _ _ _ _ _ _ f2) Try.underlying26 rfl (info26 f)) rfl (.inr ⟨HF.out, rfl, HBX3.out _⟩)
        · have HF := Lib.hid (HIF.out.2 ⟨hok, of_decide_eq_true hde⟩)
          rw [hde] at HEQ
          have HE2 := Lib.hid (HEQ.out _ HY1.out HY2.out)
          clear hde
          go_wp2_with fail
          refine (HE2.out).mono ?_
          rintro e w3 ⟨rfl, hb3⟩
          have f2 := blk_below hb3 (blk_lt e2) e2
          have f3 := blk_below hb3 (blk_lt e3) e3
          have HBX3 : Hid (∀ cs, Below w.heap.size w (w3.setRow (w.heap.size + 1) cs)) := Lib.hid fun cs => below_setRow' (below_then HB2.out hb3) (by omega) _
          clear hb3 e1 e2 e3
          go_wp2_with (first
            | ((with_reducible refine ld26 ?_ f3 ?_); exact rfl)
            | ((with_reducible refine st26 (f := nx f l (4 * k) 4) ?_ ?_ f2 ?_ ?_); exact rfl; exact rfl; exact HZS.out))
          exact bodyPost_ret (v := .tuple #[.agg (tabv (nx f l (4 * k) 4)), .int .i64 0]) (results_cell_tmp (p := 6) (t' := 7) rfl _ _ (w.heap.size + 1) 26 (tabv (nx f l (4 * k) 4)) (0, 0) _ rfl (setRow_heap _ _ _ _ _ _ f2) Try.underlying26 rfl (info26 _)) rfl (.inl ⟨HF.out, rfl, HBX3.out _⟩)
      · have e1 := blk_below hb2 hlb1 b1
        have e2 := blk_below hb2 hlb2 b2
        have HB2 := Lib.hid (below_then HBEL.out hb2)
        have HF := Lib.hid (show okTo' l 4 = false by
          cases h : okTo' l 4
          · rfl
          · have := (HIF.out.1 h).1
            rw [hok] at this
            cases this)
        have HBX3 : Hid (∀ cs, Below w.heap.size w (w2.setRow (w.heap.size + 1) cs)) := Lib.hid fun cs => below_setRow' HB2.out (by omega) _
        clear hb2 b1 b2 b3
        go_wp2_with (first
          | ((with_reducible refine ld26 (f := f) ?_ e1 ?_); exact rfl)
          | ((with_reducible refine st26 (f := f) ?_ ?_ e2 ?_ ?_); exact rfl; exact rfl; exact HZS.out))
        exact bodyPost_ret (v := .tuple #[.agg (tabv f), .int .i64 2]) (results_cell_tmp (p := 6) (t' := 7) rfl _ _ (w.heap.size + 1) 26 (tabv f) (0, 0) _ rfl (setRow_heap _ _ _ _ _ _ e2) Try.underlying26 rfl (info26 f)) rfl (.inr ⟨HF.out, rfl, HBX3.out _⟩)
end Go.Proofs.Ythhcgdmpbihdnaa
