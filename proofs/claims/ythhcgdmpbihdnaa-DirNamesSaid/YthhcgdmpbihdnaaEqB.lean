/-
  slices.Equal of bytes; the reference's Read.
-/
import Derived.Test.YthhcgdmpbihdnaaRd
namespace Go.Proofs.Ythhcgdmpbihdnaa
open Go.RowKit Go.Deep
theorem list_eq_of {l1 l2 : List Nat} (hl : l1.length = l2.length) (h : ∀ q, q < l1.length → l1.getD q 0 = l2.getD q 0) : l1 = l2 := by
  apply List.ext_getElem hl
  intro i h1 h2
  have := h i h1
  rw [List.getD_eq_getElem?_getD, List.getD_eq_getElem?_getD, List.getElem?_eq_getElem h1, List.getElem?_eq_getElem h2] at this
  exact this
set_option maxHeartbeats 1000000 in
theorem eqB_any {w : World} {v v' : Value} {l1 l2 : List Nat} (h1 : Byt w v l1) (h2 : Byt w v' l2) (hl1 : l1.length < 1000) (hl2 : l2.length < 1000) (hlt1 : ∀ x ∈ l1, x < 256) (hlt2 : ∀ x ∈ l2, x < 256) :
    Calls Try.prog 37 #[v, v'] w fun e w' => e = .returned (.bool (decide (l1 = l2))) ∧ Below w.heap.size w w' := by
  obtain ⟨A1, cap1, rfl, _, _, _, ha⟩ := h1
  obtain ⟨A2, cap2, rfl, _, _, _, hb⟩ := h2
  by_cases hlen : l1.length = l2.length
  · have HR1 : Hid (∀ q, q < l1.length → l1.getD q 0 ≠ l2.getD q 0 → decide (l1 = l2) = false) := Lib.hid fun q _ hne => decide_eq_false fun e => hne (by rw [e])
    have HR2 : Hid ((∀ q, q < l1.length → l1.getD q 0 = l2.getD q 0) → decide (l1 = l2) = true) := Lib.hid fun h => decide_eq_true (list_eq_of hlen h)
    rw [← hlen] at hb ⊢
    have HA := Lib.hid ha
    have HB := Lib.hid hb
    clear ha hb
    generalize hn : l1.length = n at *
    have HN := Lib.hid (And.intro hn (And.intro hlen hl2))
    have hB1 : Hid (∀ q, l1.getD q 0 < 256) := Lib.hid fun q => by
      rw [List.getD_eq_getElem?_getD]
      cases h : l1[q]? with
      | none => simp
      | some x => exact hlt1 x (List.mem_of_getElem? h)
    have hB2 : Hid (∀ q, l2.getD q 0 < 256) := Lib.hid fun q => by
      rw [List.getD_eq_getElem?_getD]
      cases h : l2[q]? with
      | none => simp
      | some x => exact hlt2 x (List.mem_of_getElem? h)
    clear hn hlen hl2 hlt1 hlt2
    go_enter Try.func37, Try.ntmps37
    go_wp2
    go_loopw [5, 13] (fun _ i wr => ∃ k : Nat, k ≤ n ∧ i = .int .i64 k ∧ (∀ q, q < k → l1.getD q 0 = l2.getD q 0) ∧ Below w.heap.size w wr) (fun _ i _ => n - (intOf i).toNat)
    case atStart => exact ⟨0, Nat.zero_le _, rfl, fun q h => absurd h (Nat.not_lt_zero _), Below.refl _ _⟩
    case round =>
      obtain ⟨k, hk, rfl, hq, hbel⟩ := hrel
      have HBEL := Lib.hid hbel
      have HQ := Lib.hid hq
      clear hbel hq
      by_cases hlt : k < n
      · obtain ⟨b1, o1, rfl, p1, c1⟩ := HA.out (by omega)
        obtain ⟨b2, o2, rfl, p2, c2⟩ := HB.out (by omega)
        have d1 := (HBEL.out.cell (p := ⟨b1, o1 + k, none⟩) p1).trans (c1 k hlt)
        have d2 := (HBEL.out.cell (p := ⟨b2, o2 + k, none⟩) p2).trans (c2 k hlt)
        have hd : ((k : Nat) : Int) < n := by omega
        have HNE := Lib.hid (HR1.out k hlt)
        have hx := hB1.out k
        have hy := hB2.out k
        have HQ2 : Hid (l1.getD k 0 = l2.getD k 0 → ∀ q, q < k + 1 → l1.getD q 0 = l2.getD q 0) := Lib.hid fun h q hqk => by
          by_cases e : q = k
          · rw [e]; exact h
          · exact HQ.out q (by omega)
        clear c1 c2
        generalize hX : l1.getD k 0 = x at d1 hx
        generalize hY : l2.getD k 0 = y at d2 hy
        have HX := Lib.hid hX
        have HY := Lib.hid hY
        clear hX hY
        by_cases hxy : x = y
        · subst hxy
          go_wp2
          go_quiet (fail)
          go_wp2
          exact ⟨⟨k + 1, by omega, by go_num, HQ2.out (by rw [HX.out, HY.out]), below_drewN HBEL.out _⟩, by simp [intOf]; omega⟩
        · have hne : ((x : Int) != (y : Int)) = true := by simp; omega
          have HF := Lib.hid (HNE.out (by rw [HX.out, HY.out]; exact hxy))
          clear hxy
          go_wp2
          go_quiet (fail)
          go_wp2
          go_ret
          exact ⟨by rw [HF.out]; rfl, below_drewN HBEL.out _⟩
      · obtain rfl : k = n := by omega
        have HT := Lib.hid (HR2.out HQ.out)
        go_wp2
        go_ret
        exact ⟨by rw [HT.out]; rfl, HBEL.out⟩
  · clear ha hb
    have HF : Hid (decide (l1 = l2) = false) := Lib.hid (decide_eq_false fun e => hlen (by rw [e]))
    have hne : ((l1.length : Int) != (l2.length : Int)) = true := by simp; omega
    clear hlen
    generalize l1.length = n1 at *
    generalize l2.length = n2 at *
    go_enter Try.func37, Try.ntmps37
    go_wp2
    go_ret
    exact ⟨by rw [HF.out]; rfl, Below.refl _ _⟩
theorem zr_mono {l : List Nat} {i q z n : Nat} (hz : z ≤ n) (h : zr l i q n = true) : zr l i q z = true := (zr_iff l i q z).2 fun y hy => (zr_iff l i q n).1 h y (by omega)
def RPost (l : List Nat) (w : World) (e : Ending) (w' : World) : Prop :=
  (okTo' l 4 = true ∧ ∃ v, e = .returned (.tuple #[v, .int .i64 0]) ∧ w'.ownsRow w.heap.size 24 2 v 4 (ecs (rd l) 4) ∧ Below w.heap.size w w') ∨
  (okTo' l 4 = false ∧ e = .returned (.tuple #[.slice none 0 0, .int .i64 2]) ∧ Below w.heap.size w w')
theorem rread_short {w : World} {v : Value} {l : List Nat} (h : Byt w v l) (hl : l.length < 64) : Calls Try.prog 26 #[v] w fun e w' => e = .returned (.tuple #[.slice none 0 0, .int .i64 3]) ∧ Below w.heap.size w w' := by
  obtain ⟨A, cap, rfl, _⟩ := h
  generalize l.length = n at *
  go_enter Try.func26, Try.ntmps26
  go_wp2
  go_ret2
  exact ⟨rfl, Below.refl _ _⟩
set_option maxRecDepth 100000 in
set_option maxHeartbeats 1000000 in
theorem rread_in {w : World} {v : Value} {l : List Nat} (h : Byt w v l) (hl : 64 ≤ l.length) (hl2 : l.length < 1000) (hb : ∀ x ∈ l, x < 256) : Calls Try.prog 26 #[v] w (RPost l w) := by
  have hBL : Hid (∀ q, l.getD q 0 < 256) := Lib.hid fun q => by
    rw [List.getD_eq_getElem?_getD]
    cases h : l[q]? with
    | none => simp
    | some x => exact hb x (List.mem_of_getElem? h)
  obtain ⟨A, cap, rfl, hc1, hc2, hc3, hc4⟩ := h
  obtain ⟨b, off, rfl, hbw, hcell⟩ := hc4 (by omega)
  have HCELL := Lib.hid hcell
  unfold maxLen at hc2
  clear hcell hc4 hc3 hb
  generalize hn : l.length = n at *
  have HN := Lib.hid hn
  clear hn
  go_enter Try.func26, Try.ntmps26
  go_wp2
  go_loopw [4, 5, 6, 7, 8, 9] (fun y i _ _ _ _ wr => ∃ j : Nat, j ≤ 4 ∧ i = .int .i64 (16 * (j : Int)) ∧ wr.ownsRow w.heap.size 24 2 y j (ecs (rd l) j) ∧ okTo' l j = true ∧ Below w.heap.size w wr) (fun _ i _ _ _ _ _ => 64 - (intOf i).toNat)
  case atStart => exact ⟨0, Nat.zero_le _, rfl, World.ownsRow_nil _ _ _ _, rfl, Below.refl _ _⟩
  case round =>
    obtain ⟨j, hj, rfl, hown, hok, hbel⟩ := hrel
    have HBEL := Lib.hid hbel
    have HOWN := Lib.hid hown
    have HOK := Lib.hid hok
    have hsz := hbel.size
    clear hbel hown hok
    by_cases hlt : j < 4
    · have hd : 16 * (j : Int) < 64 := by omega
      have c1 : wr.cell? ⟨b, off + (16 * j + 1), none⟩ = some (.int .u8 (nl l j : Nat)) := (HBEL.out.cell (p := ⟨b, off + (16 * j + 1), none⟩) hbw).trans (HCELL.out (16 * j + 1) (by omega))
      have hN := hBL.out (16 * j + 1)
      have hN' : nl l j < 256 := hN
      clear hN
      have HNO := Lib.hid (okTo'_no l j)
      have HLONG := Lib.hid (long_no (l := l) (i := j) hlt)
      have hi1 : (16 * (j : Int) + 1).toNat = 16 * j + 1 := by omega
      generalize hm : nl l j = m at *
      have HM := Lib.hid hm
      clear hm
      by_cases hm12 : 12 < m
      · have HF := Lib.hid (HLONG.out (by omega))
        go_wp2
        go_ret2
        exact .inr ⟨HF.out, rfl, HBEL.out⟩
      -- THE REGION
      · have hi2 : (16 * (j : Int) + 2).toNat = 16 * j + 2 := by omega
        have hi3 : (16 * (j : Int) + 2 + (m : Nat)).toNat = 16 * j + 2 + m := by omega
        have hi4 : (16 * (j : Int)).toNat = 16 * j := by omega
        have hne : ¬ cap = 16 * j + 2 := by omega
        have hsub : 16 * j + 2 + m - (16 * j + 2) = m := by omega
        have hx0 : l.getD (16 * j) 0 < 256 := hBL.out (16 * j)
        have c0 : wr.cell? ⟨b, off + 16 * j, none⟩ = some (.int .u8 (l.getD (16 * j) 0 : Nat)) := (HBEL.out.cell (p := ⟨b, off + 16 * j, none⟩) hbw).trans (HCELL.out (16 * j) (by omega))
        have hbyt : Byt wr (.slice (some ⟨b, off + (16 * j + 2), none⟩) m (cap - (16 * j + 2))) ((l.drop (16 * j + 2)).take m) := by
          have hlen : ((l.drop (16 * j + 2)).take m).length = m := by simp; have := HN.out; omega
          refine ⟨_, _, by rw [hlen], by omega, by unfold maxLen; omega, (fun h => by cases h), fun _ => ⟨b, _, rfl, Nat.lt_of_lt_of_le hbw hsz, fun q hq => ?_⟩⟩
          rw [hlen] at hq
          rw [getD_drop_take _ _ _ _ hq, show off + (16 * j + 2) + q = off + (16 * j + 2 + q) by omega]
          exact (HBEL.out.cell (p := ⟨b, off + (16 * j + 2 + q), none⟩) hbw).trans (HCELL.out (16 * j + 2 + q) (by omega))
        have hrd : rd l j = ⟨str ((l.drop (16 * j + 2)).take m), (l.getD (16 * j) 0 : Nat)⟩ := by unfold rd; rw [HM.out]
        have hstr : ∀ W, Below wr.heap.size wr W → (convert 39 9 (.slice (some ⟨b, off + (16 * j + 2), none⟩) m (cap - (16 * j + 2)))).run Try.prog W = .ok (.string (str ((l.drop (16 * j + 2)).take m))) W := fun W hW => run_str (hbyt.below hW)
        have hnms : (str ((l.drop (16 * j + 2)).take m)).size = m := by rw [str_size]; simp; have := HN.out; omega
        generalize str ((l.drop (16 * j + 2)).take m) = nmv at *
        generalize l.getD (16 * j) 0 = x0 at *
        have HRD := Lib.hid hrd
        have HMAY := Lib.hid fun W => rmay_any ⟨nmv, (x0 : Nat)⟩ (show nmv.size ≤ 9223372036854775807 by omega) W
        have HBYT := Lib.hid hbyt
        have HNS := Lib.hid hnms
        clear hrd hbyt hnms
        have s0 := hstr wr.drew ((Below.refl _ _).drew)
        have s1 := fun o => hstr (wr.drew.alloc o) (((Below.refl wr.heap.size wr).drew).alloc (Nat.le_refl _) o)
        have c0' : wr.drew.cell? ⟨b, off + 16 * j, none⟩ = some (.int .u8 (x0 : Nat)) := c0
        have c0'' : ∀ o, (wr.drew.alloc o).cell? ⟨b, off + 16 * j, none⟩ = some (.int .u8 (x0 : Nat)) := fun o => by rw [World.cell?_alloc_past _ _ _ (show b < wr.drew.heap.size from Nat.lt_of_lt_of_le hbw hsz)]; exact c0
        have HBD := Lib.hid (show Below w.heap.size w wr.drew from HBEL.out.drew)
        have HOD := Lib.hid (show wr.drew.ownsRow w.heap.size 24 2 u4 j (ecs (rd l) j) from own_below HOWN.out ((Below.refl _ _).drew))
        have hszd : w.heap.size ≤ wr.drew.heap.size := hsz
        clear hstr
        have hn64 := HN.out
        have u1 : 0 ≤ 16 * (j : Int) := by omega
        have u2' : 16 * (j : Int) < n := by omega
        have u3' : 0 ≤ 16 * (j : Int) + 2 := by omega
        have u4' : 0 ≤ 16 * (j : Int) + 2 + (m : Nat) := by omega
        have u5' : 16 * (j : Int) + 2 + (m : Nat) ≤ cap := by omega
        have u6' : 16 * (j : Int) + 2 ≤ 16 * (j : Int) + 2 + (m : Nat) := by omega
        have hw1 : IntKind.i64.wrap (16 * (j : Int) + 2) = 16 * (j : Int) + 2 := by rw [IntKind.wrap_i64]; omega
        have hw2 : IntKind.i64.wrap (16 * (j : Int) + 2 + (m : Nat)) = 16 * (j : Int) + 2 + (m : Nat) := by rw [IntKind.wrap_i64]; omega
        have hw3 : IntKind.i64.wrap (x0 : Int) = x0 := by rw [IntKind.wrap_i64]; omega
        go_wp2
        refine wp_region_any (by kernel_rfl) ?_
        change wpAny _ _ _ _ _ _ _ (World.drew wr)
        generalize wr.drew = wd at *
        refine wpAny_take (i := 0) (v := .slice (some ⟨b, off, none⟩) n cap) rfl (by kernel_rfl) (by kernel_rfl) (by kernel_rfl) (fun _ _ _ h => h) (Or.inl ⟨by rfl, fun w => by go_simp⟩) ?_
        refine wpAny_take (i := 1) (v := .int .i64 (16 * (j : Int))) rfl (by kernel_rfl) (by kernel_rfl) (by kernel_rfl) (fun _ _ _ h => h) (Or.inl ⟨by rfl, fun w => by go_simp⟩) ?_
        refine wpAny_take (i := 2) (v := .int .i64 (16 * (j : Int) + 2)) rfl (by kernel_rfl) (by kernel_rfl) (by kernel_rfl) (fun _ _ _ h => h) (Or.inl ⟨by rfl, fun w => by go_simp⟩) ?_
        refine wpAny_take (i := 3) (v := .int .i64 (16 * (j : Int))) rfl (by kernel_rfl) (by kernel_rfl) (by kernel_rfl) (fun _ _ _ h => h) (Or.inl ⟨by rfl, fun w => by go_simp⟩) ?_
        refine wpAny_take (i := 4) (v := .int .i64 (16 * (j : Int) + 2)) rfl (by kernel_rfl) (by kernel_rfl) (by kernel_rfl) (fun _ _ _ h => h) (Or.inl ⟨by rfl, fun w => by go_simp⟩) ?_
        refine wpAny_take (i := 5) (v := .int .i64 (m : Nat)) rfl (by kernel_rfl) (by kernel_rfl) (by kernel_rfl) (fun _ _ _ h => h) (Or.inl ⟨by rfl, fun w => by go_simp⟩) ?_
        refine wpAny_take (i := 6) (v := .int .i64 (16 * (j : Int) + 2 + (m : Nat))) rfl (by kernel_rfl) (by kernel_rfl) (by kernel_rfl) (fun _ _ _ h => h) (Or.inl ⟨by rfl, fun w => by go_simp⟩) ?_
        refine wpAny_take (i := 7) (v := .slice (some ⟨b, off + (16 * j + 2), none⟩) m (cap - (16 * j + 2))) rfl (by kernel_rfl) (by kernel_rfl) (by kernel_rfl) (fun _ _ _ h => h) (Or.inl ⟨by rfl, fun w => by go_simp⟩) ?_
        refine wpAny_take (i := 9) (v := .slice (some ⟨b, off, none⟩) n cap) rfl (by kernel_rfl) (by kernel_rfl) (by kernel_rfl) (fun _ _ _ h => h) (Or.inl ⟨by rfl, fun w => by go_simp⟩) ?_
        refine wpAny_take (i := 10) (v := .int .i64 (16 * (j : Int))) rfl (by kernel_rfl) (by kernel_rfl) (by kernel_rfl) (fun _ _ _ h => h) (Or.inl ⟨by rfl, fun w => by go_simp⟩) ?_
        refine wpAny_take (i := 11) (v := .pointer (some ⟨b, off + 16 * j, none⟩)) rfl (by kernel_rfl) (by kernel_rfl) (by kernel_rfl) (fun _ _ _ h => h) (Or.inl ⟨by rfl, fun w => by go_simp⟩) ?_
        refine wpAny_ready (rs := [8, 12, 15]) (by kernel_rfl) (by simp) ?_
        refine (AllReady.cons rfl (fun K hK => ?_) (AllReady.cons rfl (fun K hK => ?_) (AllReady.cons rfl (fun K hK => ?_) AllReady.nil)))
        go_simp
        refine hK _ _ ?_
        clear hK K
        refine wpAny_ready (rs := [12, 15]) (by kernel_rfl) (by simp) ?_
        refine (AllReady.cons rfl (fun K hK => ?_) (AllReady.cons rfl (fun K hK => ?_) AllReady.nil))
        go_simp
        refine hK _ _ ?_
        clear hK K
        refine wpAny_take (i := 13) (v := .int .i64 (x0 : Nat)) rfl (by kernel_rfl) (by kernel_rfl) (by kernel_rfl) (fun _ _ _ h => h) (Or.inl ⟨by rfl, fun w => by go_simp⟩) ?_
        refine wpAny_take (i := 14) (v := .agg #[.string nmv, .int .i64 (x0 : Nat)]) rfl (by kernel_rfl) (by kernel_rfl) (by kernel_rfl) (fun _ _ _ h => h) (Or.inl ⟨by rfl, fun w => by go_simp⟩) ?_
        refine wpAny_one 15 _ (by kernel_rfl) rfl rfl (fun K hK => ?_)
        go_simp
        refine hK _ _ ?_
        clear hK K
        rotate_left
        go_simp
        refine hK _ _ ?_
        clear hK K
        refine wpAny_one 12 _ (by kernel_rfl) rfl rfl (fun K hK => ?_)
        go_simp
        refine hK _ _ ?_
        clear hK K
        refine wpAny_take (i := 13) (v := .int .i64 (x0 : Nat)) rfl (by kernel_rfl) (by kernel_rfl) (by kernel_rfl) (fun _ _ _ h => h) (Or.inl ⟨by rfl, fun w => by go_simp⟩) ?_
        refine wpAny_take (i := 14) (v := .agg #[.string nmv, .int .i64 (x0 : Nat)]) rfl (by kernel_rfl) (by kernel_rfl) (by kernel_rfl) (fun _ _ _ h => h) (Or.inl ⟨by rfl, fun w => by go_simp⟩) ?_
        rotate_left
        go_simp
        refine hK _ _ ?_
        clear hK K
        refine wpAny_take (i := 13) (v := .int .i64 (x0 : Nat)) rfl (by kernel_rfl) (by kernel_rfl) (by kernel_rfl) (fun _ _ _ h => h) (Or.inl ⟨by rfl, fun w => by go_simp⟩) ?_
        refine wpAny_ready (rs := [8, 15]) (by kernel_rfl) (by simp) ?_
        refine (AllReady.cons rfl (fun K hK => ?_) (AllReady.cons rfl (fun K hK => ?_) AllReady.nil))
        go_simp
        refine hK _ _ ?_
        clear hK K
        refine wpAny_take (i := 14) (v := .agg #[.string nmv, .int .i64 (x0 : Nat)]) rfl (by kernel_rfl) (by kernel_rfl) (by kernel_rfl) (fun _ _ _ h => h) (Or.inl ⟨by rfl, fun w => by go_simp⟩) ?_
        refine wpAny_one 15 _ (by kernel_rfl) rfl rfl (fun K hK => ?_)
        go_simp
        refine hK _ _ ?_
        clear hK K
        rotate_left
        go_simp
        refine hK _ _ ?_
        clear hK K
        refine wpAny_one 8 _ (by kernel_rfl) rfl rfl (fun K hK => ?_)
        go_simp
        refine hK _ _ ?_
        clear hK K
        refine wpAny_take (i := 14) (v := .agg #[.string nmv, .int .i64 (x0 : Nat)]) rfl (by kernel_rfl) (by kernel_rfl) (by kernel_rfl) (fun _ _ _ h => h) (Or.inl ⟨by rfl, fun w => by go_simp⟩) ?_
        rotate_left
        go_simp
        refine hK _ _ ?_
        clear hK K
        refine wpAny_ready (rs := [8, 12]) (by kernel_rfl) (by simp) ?_
        refine (AllReady.cons rfl (fun K hK => ?_) (AllReady.cons rfl (fun K hK => ?_) AllReady.nil))
        go_simp
        refine hK _ _ ?_
        clear hK K
        refine wpAny_one 12 _ (by kernel_rfl) rfl rfl (fun K hK => ?_)
        go_simp
        refine hK _ _ ?_
        clear hK K
        refine wpAny_take (i := 13) (v := .int .i64 (x0 : Nat)) rfl (by kernel_rfl) (by kernel_rfl) (by kernel_rfl) (fun _ _ _ h => h) (Or.inl ⟨by rfl, fun w => by go_simp⟩) ?_
        refine wpAny_take (i := 14) (v := .agg #[.string nmv, .int .i64 (x0 : Nat)]) rfl (by kernel_rfl) (by kernel_rfl) (by kernel_rfl) (fun _ _ _ h => h) (Or.inl ⟨by rfl, fun w => by go_simp⟩) ?_
        rotate_left
        go_simp
        refine hK _ _ ?_
        clear hK K
        refine wpAny_take (i := 13) (v := .int .i64 (x0 : Nat)) rfl (by kernel_rfl) (by kernel_rfl) (by kernel_rfl) (fun _ _ _ h => h) (Or.inl ⟨by rfl, fun w => by go_simp⟩) ?_
        refine wpAny_one 8 _ (by kernel_rfl) rfl rfl (fun K hK => ?_)
        go_simp
        refine hK _ _ ?_
        clear hK K
        refine wpAny_take (i := 14) (v := .agg #[.string nmv, .int .i64 (x0 : Nat)]) rfl (by kernel_rfl) (by kernel_rfl) (by kernel_rfl) (fun _ _ _ h => h) (Or.inl ⟨by rfl, fun w => by go_simp⟩) ?_
        rotate_left
        clear hw1 hw2
        all_goals
          refine wpAny_one 16 _ (by kernel_rfl) rfl rfl (fun K hK => ?_)
          go_simp
          refine hK _ _ ?_
          clear hK K
          refine wpAny_done (by kernel_rfl) ?_ _
          have hsW : ∀ o, wd.heap.size < (wd.alloc o).heap.size := fun o => by simp
          go_wp2_with fail
          refine (HMAY.out _).mono ?_
          rintro e w2 ⟨rfl, hb2⟩
          have x2 := blk_new hb2
          have HB2 := Lib.hid (below_then HBD.out (below_new hb2))
          have HO2 := Lib.hid (own_below (HOD.out.alloc _) hb2)
          have hs2 := hb2.size
          have hsz2 : w.heap.size ≤ w2.heap.size := by have := hsW (.cells #[.string nmv, .int .i64 (x0 : Nat)] 24); omega
          clear hb2 hsW s0 s1 c0' c0'' c0
          cases hmb : mayE ⟨nmv, (x0 : Nat)⟩
          · have HF := Lib.hid (HNO.out (by unfold okR; rw [HM.out, HRD.out, hmb, Bool.false_and, Bool.and_false]) 4 hlt)
            clear hmb
            go_wp2
            go_ret2
            exact .inr ⟨HF.out, rfl, HB2.out⟩
          · have HZ : Hid (∀ z, z ≤ 14 - m → zr l j (2 + m) z = false → okTo' l 4 = false) := Lib.hid fun z hz h => HNO.out (by
              unfold okR
              rw [HM.out]
              cases hzz : zr l j (2 + m) (14 - m)
              · rw [Bool.and_false, Bool.and_false]
              · rw [zr_mono hz hzz] at h
                cases h) 4 hlt
            have HOKJ : Hid (zr l j (2 + m) (14 - m) = true → okTo' l (j + 1) = true) := Lib.hid fun h => by
              rw [okTo', HOK.out, Bool.true_and]
              unfold okR
              rw [HM.out, HRD.out, hmb, h, decide_eq_true (by omega)]
              rfl
            have HEC : Hid (ecs (rd l) (j + 1) = ecs (rd l) j ++ [.string nmv, .int .i64 (x0 : Nat)]) := Lib.hid (by rw [ecs, HRD.out])
            clear hmb
            go_wp2
            go_loop [9] (fun y => ∃ z : Nat, z ≤ 14 - m ∧ y = .int .i64 (16 * (j : Int) + 2 + (m : Nat) + z) ∧ zr l j (2 + m) z = true) (fun y => 16 * j + 16 - (intOf y).toNat)
            case atStart => exact ⟨0, Nat.zero_le _, int_eq (by omega), rfl⟩
            case round =>
              obtain ⟨z, hz, rfl, hzr⟩ := hrel
              have HZR := Lib.hid hzr
              clear hzr
              by_cases hzl : z < 14 - m
              · have d0 : w2.cell? ⟨b, off + (16 * j + 2 + m + z), none⟩ = some (.int .u8 (l.getD (16 * j + (2 + m) + z) 0 : Nat)) := by
                  rw [show 16 * j + (2 + m) + z = 16 * j + 2 + m + z by omega]
                  exact (HB2.out.cell (p := ⟨b, off + (16 * j + 2 + m + z), none⟩) hbw).trans (HCELL.out (16 * j + 2 + m + z) (by omega))
                have hzt : (16 * (j : Int) + 2 + (m : Nat) + (z : Nat)).toNat = 16 * j + 2 + m + z := by omega
                have hx := hBL.out (16 * j + (2 + m) + z)
                have HZ1 : Hid (zr l j (2 + m) (z + 1) = (zr l j (2 + m) z && (l.getD (16 * j + (2 + m) + z) 0 == 0))) := Lib.hid rfl
                generalize l.getD (16 * j + (2 + m) + z) 0 = x at *
                by_cases hx0 : x = 0
                · have HZ2 := Lib.hid (show zr l j (2 + m) (z + 1) = true by rw [HZ1.out, HZR.out, hx0]; rfl)
                  subst hx0
                  go_wp2
                  exact ⟨⟨z + 1, by omega, int_eq (by omega), HZ2.out⟩, by simp [intOf]; omega⟩
                · have HF := Lib.hid (HZ.out (z + 1) (by omega) (by rw [HZ1.out, show (x == 0) = false by simpa using hx0, Bool.and_false]))
                  have hne : ((x : Int) != 0) = true := by simp; omega
                  clear hx0
                  go_wp2
                  go_ret2
                  exact .inr ⟨HF.out, rfl, HB2.out⟩
              · obtain rfl : z = 14 - m := by omega
                have hge : ¬ (16 * (j : Int) + 2 + (m : Nat) + ((14 - m : Nat) : Int) < 16 * (j : Int) + 16) := by omega
                have HT := Lib.hid (HOKJ.out HZR.out)
                have e0 := blk_cell (j := 0) x2 rfl
                have e1 := blk_cell (j := 1) x2 rfl
                go_wp2_with (at_builtin; refine wpl_app2 rfl _ _ rfl rfl HO2.out rfl rfl rfl rfl (by omega) hsz2 ?_; intro v5 w5 hown5 hgr5; have HO5 := Lib.hid hown5; have HB5 := Lib.hid (HB2.out.grown hgr5 hsz2 (fun b hb => (HO2.out.lt b hb).1)); clear hown5 hgr5)
                exact ⟨⟨j + 1, by omega, int_eq (by omega), by rw [HEC.out]; exact HO5.out, HT.out, HB5.out⟩, by simp [intOf]; omega⟩
    · obtain rfl : j = 4 := by omega
      have hge : ¬ (16 * ((4 : Nat) : Int) < 64) := by omega
      go_wp2
      go_ret2
      exact .inl ⟨HOK.out, _, rfl, HOWN.out, HBEL.out⟩
end Go.Proofs.Ythhcgdmpbihdnaa
