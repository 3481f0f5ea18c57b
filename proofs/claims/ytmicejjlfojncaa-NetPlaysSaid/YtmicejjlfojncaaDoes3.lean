/-
  does: Take, in both forms.
-/
import Derived.Test.YtmicejjlfojncaaDoes2
namespace Go.Proofs.Ytmicejjlfojncaa
open Go.RowKit Go.Deep
theorem len_take (l : List (Int × List Nat)) (i : Nat) (stay : Bool) : (if stay = true then l else l.eraseIdx i).length ≤ l.length + 1 := by
  cases stay <;> simp [List.length_eraseIdx] <;> split <;> omega
theorem rtake_in' {K : Nat → Prop} {w : World} {c : Nat} {l : List (Int × List Nat)} (h : RBag w K c l) (hl : l.length ≤ 200) (i : Nat) (hi : i < l.length) (stay : Bool) :
    Calls Try.prog 19 #[.pointer (some ⟨c, 0, none⟩), .int .i64 i, .bool stay] w fun e w' => e = .returned (.tuple #[.int .i64 (l.getD i (0, [])).1, .string (str (l.getD i (0, [])).2), .bool true]) ∧
      ∃ K', RBag w' K' c (if stay then l else l.eraseIdx i) ∧ Fr K w w' ∧ ∀ x, K' x → K x ∨ w.heap.size ≤ x := by
  obtain ⟨v, ps, h0, rfl⟩ := h
  have hcl : (cont ps).length = ps.length := by simp [cont]
  rw [hcl] at hl hi
  have hp : ps[i]? = some ps[i] := List.getElem?_eq_getElem hi
  rw [cont_get ps i _ hp]
  exact rtake_in h0 hl i _ hp stay
set_option maxRecDepth 100000 in
set_option maxHeartbeats 4000000 in
theorem does_in1 {w0 w : World} {K K' : Nat → Prop} {c c' : Nat} {l : List (Int × List Nat)} (hp : Pair w0 w K K' c c' l l) (hl : l.length ≤ 200) (i : Nat) (hi : i < l.length) {y : Value} {s : List Nat} (hy : Byt w0 y s) :
    Calls Try.prog 12 #[.pointer (some ⟨c, 0, none⟩), .pointer (some ⟨c', 0, none⟩), .agg #[.int .i64 1, .int .i64 i, y]] w fun e w' => e = .returned (.bool true) ∧ ∃ K2 K2' l2, Pair w0 w' K2 K2' c c' l2 l2 ∧ l2.length ≤ l.length + 1 := by
  obtain ⟨A, len, cap, m, rfl, hm1, hm2, hlc, hcm, HY, HM, hcase⟩ := cut50 hy
  unfold maxLen at hcm
  have HP := Lib.hid hp
  have HL := Lib.hid hl
  generalize s.take 50 = s2 at *
  clear hp hy hl
  rcases hcase with ⟨hlong, rfl⟩ | ⟨hshort, rfl⟩
  · go_enter Try.func12, Try.ntmps12
    go_wp2_with fail
    have hblk : (w.alloc (.cells #[.int .i64 1, .int .i64 i, .slice A 50 cap] 41)).heap[w.heap.size]? = some (.cells #[.int .i64 1, .int .i64 i, .slice A 50 cap] 41) := heap_alloc_new _ _
    have hb1 : Below w.heap.size w (w.alloc (.cells #[.int .i64 1, .int .i64 i, .slice A 50 cap] 41)) := ((Below.refl _ _).alloc (Nat.le_refl _) _)
    have HP1 := Lib.hid (And.intro (HP.out.below hb1) (HY.out.below (HP.out.below hb1).bel))
    have hk0 := HP.out.nk (Nat.le_refl _)
    have hk0' := HP.out.nk' (Nat.le_refl _)
    have hsz1 : w.heap.size < (w.alloc (.cells #[.int .i64 1, .int .i64 i, .slice A 50 cap] 41)).heap.size := by simp
    clear hb1
    generalize w.heap.size = B at *
    generalize (w.alloc (.cells #[.int .i64 1, .int .i64 i, .slice A 50 cap] 41)) = w1 at *
    have hbox : w1.cell? ⟨B, 1, none⟩ = some (.int .i64 i) ∧ w1.cell? ⟨B, 2, none⟩ = some (.slice A 50 cap) := ⟨blk_cell hblk rfl, blk_cell hblk rfl⟩
    refine (take_in HP1.out.1.b i hi false).mono ?_
    rintro e w2 ⟨v, rfl, hy2, hyb2, hB2, hF2, _⟩
    have hblk2 := hF2.blk hk0 hblk
    have c0 : w2.cell? ⟨B, 0, none⟩ = some (.int .i64 1) := blk_cell hblk2 rfl
    have c1 : w2.cell? ⟨B, 1, none⟩ = some (.int .i64 i) := blk_cell hblk2 rfl
    have HP2 := Lib.hid (HP1.out.1.left hB2 hF2 fun x hx => .inl hx)
    have HY2 := Lib.hid hy2
    have HYB2 := Lib.hid (show ∀ x, K' x → v.ownBlock ≠ some x from fun x hx e => by
      have := HP1.out.1.r.lt hx
      have := (hyb2 x e).1
      omega)
    have HRT := Lib.hid (rtake_in' HP2.out.r HL.out i hi false)
    clear hB2 hF2 hblk hbox hblk2 hyb2
    generalize (l.getD i (0, [])).1 = to at *
    generalize (l.getD i (0, [])).2 = sp at *
    obtain ⟨Av, cv, rfl, _⟩ := hy2
    go_wp2_with fail
    refine (HRT.out).mono ?_
    rintro e w3 ⟨rfl, K3, hB3, hF3, hK3⟩
    have HP3 := Lib.hid (HP2.out.right hB3 hF3 hK3)
    have hy3 : Byt w3 (.slice Av sp.length cv) sp := HY2.out.fr hF3 fun b hb hk => HYB2.out b hk hb
    have r3 : (convert 22 9 (.slice Av sp.length cv)).run Try.prog w3 = .ok (.string (str sp)) w3 := run_str hy3
    have HLE : Hid ((if false = true then l else l.eraseIdx i).length ≤ l.length + 1) := Lib.hid (len_take l i false)
    clear hB3 hF3 hK3 hy3 HRT
    generalize sp.length = ns at *
    generalize str sp = bs at *
    go_wp2_with fail
    go_ret
    exact ⟨rfl, _, _, _, HP3.out, HLE.out⟩
  · go_enter Try.func12, Try.ntmps12
    go_wp2_with fail
    have hblk : (w.alloc (.cells #[.int .i64 1, .int .i64 i, .slice A m cap] 41)).heap[w.heap.size]? = some (.cells #[.int .i64 1, .int .i64 i, .slice A m cap] 41) := heap_alloc_new _ _
    have hb1 : Below w.heap.size w (w.alloc (.cells #[.int .i64 1, .int .i64 i, .slice A m cap] 41)) := ((Below.refl _ _).alloc (Nat.le_refl _) _)
    have HP1 := Lib.hid (And.intro (HP.out.below hb1) (HY.out.below (HP.out.below hb1).bel))
    have hk0 := HP.out.nk (Nat.le_refl _)
    have hk0' := HP.out.nk' (Nat.le_refl _)
    have hsz1 : w.heap.size < (w.alloc (.cells #[.int .i64 1, .int .i64 i, .slice A m cap] 41)).heap.size := by simp
    clear hb1
    generalize w.heap.size = B at *
    generalize (w.alloc (.cells #[.int .i64 1, .int .i64 i, .slice A m cap] 41)) = w1 at *
    have hbox : w1.cell? ⟨B, 1, none⟩ = some (.int .i64 i) ∧ w1.cell? ⟨B, 2, none⟩ = some (.slice A m cap) := ⟨blk_cell hblk rfl, blk_cell hblk rfl⟩
    refine (take_in HP1.out.1.b i hi false).mono ?_
    rintro e w2 ⟨v, rfl, hy2, hyb2, hB2, hF2, _⟩
    have hblk2 := hF2.blk hk0 hblk
    have c0 : w2.cell? ⟨B, 0, none⟩ = some (.int .i64 1) := blk_cell hblk2 rfl
    have c1 : w2.cell? ⟨B, 1, none⟩ = some (.int .i64 i) := blk_cell hblk2 rfl
    have HP2 := Lib.hid (HP1.out.1.left hB2 hF2 fun x hx => .inl hx)
    have HY2 := Lib.hid hy2
    have HYB2 := Lib.hid (show ∀ x, K' x → v.ownBlock ≠ some x from fun x hx e => by
      have := HP1.out.1.r.lt hx
      have := (hyb2 x e).1
      omega)
    have HRT := Lib.hid (rtake_in' HP2.out.r HL.out i hi false)
    clear hB2 hF2 hblk hbox hblk2 hyb2
    generalize (l.getD i (0, [])).1 = to at *
    generalize (l.getD i (0, [])).2 = sp at *
    obtain ⟨Av, cv, rfl, _⟩ := hy2
    go_wp2_with fail
    refine (HRT.out).mono ?_
    rintro e w3 ⟨rfl, K3, hB3, hF3, hK3⟩
    have HP3 := Lib.hid (HP2.out.right hB3 hF3 hK3)
    have hy3 : Byt w3 (.slice Av sp.length cv) sp := HY2.out.fr hF3 fun b hb hk => HYB2.out b hk hb
    have r3 : (convert 22 9 (.slice Av sp.length cv)).run Try.prog w3 = .ok (.string (str sp)) w3 := run_str hy3
    have HLE : Hid ((if false = true then l else l.eraseIdx i).length ≤ l.length + 1) := Lib.hid (len_take l i false)
    clear hB3 hF3 hK3 hy3 HRT
    generalize sp.length = ns at *
    generalize str sp = bs at *
    go_wp2_with fail
    go_ret
    exact ⟨rfl, _, _, _, HP3.out, HLE.out⟩
set_option maxRecDepth 100000 in
set_option maxHeartbeats 4000000 in
theorem does_out1 {w0 w : World} {K K' : Nat → Prop} {c c' : Nat} {l : List (Int × List Nat)} (hp : Pair w0 w K K' c c' l l) (hl : l.length ≤ 200) (n : Int) (hk : Hid (¬ (0 ≤ n ∧ n < l.length))) {y : Value} {s : List Nat} (hy : Byt w0 y s) :
    Calls Try.prog 12 #[.pointer (some ⟨c, 0, none⟩), .pointer (some ⟨c', 0, none⟩), .agg #[.int .i64 1, .int .i64 n, y]] w fun e w' => e = .returned (.bool true) ∧ ∃ K2 K2' l2, Pair w0 w' K2 K2' c c' l2 l2 ∧ l2.length ≤ l.length + 1 := by
  obtain ⟨A, len, cap, m, rfl, hm1, hm2, hlc, hcm, HY, HM, hcase⟩ := cut50 hy
  unfold maxLen at hcm
  have HP := Lib.hid hp
  have HL := Lib.hid hl
  generalize s.take 50 = s2 at *
  clear hp hy hl
  rcases hcase with ⟨hlong, rfl⟩ | ⟨hshort, rfl⟩
  · go_enter Try.func12, Try.ntmps12
    go_wp2_with fail
    have hblk : (w.alloc (.cells #[.int .i64 1, .int .i64 n, .slice A 50 cap] 41)).heap[w.heap.size]? = some (.cells #[.int .i64 1, .int .i64 n, .slice A 50 cap] 41) := heap_alloc_new _ _
    have hb1 : Below w.heap.size w (w.alloc (.cells #[.int .i64 1, .int .i64 n, .slice A 50 cap] 41)) := ((Below.refl _ _).alloc (Nat.le_refl _) _)
    have HP1 := Lib.hid (And.intro (HP.out.below hb1) (HY.out.below (HP.out.below hb1).bel))
    have hk0 := HP.out.nk (Nat.le_refl _)
    have hk0' := HP.out.nk' (Nat.le_refl _)
    have hsz1 : w.heap.size < (w.alloc (.cells #[.int .i64 1, .int .i64 n, .slice A 50 cap] 41)).heap.size := by simp
    clear hb1
    generalize w.heap.size = B at *
    generalize (w.alloc (.cells #[.int .i64 1, .int .i64 n, .slice A 50 cap] 41)) = w1 at *
    have hbox : w1.cell? ⟨B, 1, none⟩ = some (.int .i64 n) ∧ w1.cell? ⟨B, 2, none⟩ = some (.slice A 50 cap) := ⟨blk_cell hblk rfl, blk_cell hblk rfl⟩
    have HTO := Lib.hid (take_out HP1.out.1.b n hk.out false)
    have HRT := Lib.hid (rtake_out HP1.out.1.r n hk.out false)
    have c0 : w1.cell? ⟨B, 0, none⟩ = some (.int .i64 1) := blk_cell hblk rfl
    have c1 := hbox.1
    have r3 : (convert 22 9 (.slice none 0 0)).run Try.prog w1 = .ok (.string (str [])) w1 := run_str (Byt.nil _)
    rw [show str [] = ⟨#[]⟩ from rfl] at r3
    clear hbox hblk
    refine (HTO.out).mono ?_
    rintro e w2 ⟨rfl, rfl⟩
    go_wp2_with fail
    refine (HRT.out).mono ?_
    rintro e w3 ⟨rfl, rfl⟩
    go_wp2_with fail
    go_ret
    exact ⟨rfl, _, _, _, HP1.out.1, Nat.le_succ _⟩
  · go_enter Try.func12, Try.ntmps12
    go_wp2_with fail
    have hblk : (w.alloc (.cells #[.int .i64 1, .int .i64 n, .slice A m cap] 41)).heap[w.heap.size]? = some (.cells #[.int .i64 1, .int .i64 n, .slice A m cap] 41) := heap_alloc_new _ _
    have hb1 : Below w.heap.size w (w.alloc (.cells #[.int .i64 1, .int .i64 n, .slice A m cap] 41)) := ((Below.refl _ _).alloc (Nat.le_refl _) _)
    have HP1 := Lib.hid (And.intro (HP.out.below hb1) (HY.out.below (HP.out.below hb1).bel))
    have hk0 := HP.out.nk (Nat.le_refl _)
    have hk0' := HP.out.nk' (Nat.le_refl _)
    have hsz1 : w.heap.size < (w.alloc (.cells #[.int .i64 1, .int .i64 n, .slice A m cap] 41)).heap.size := by simp
    clear hb1
    generalize w.heap.size = B at *
    generalize (w.alloc (.cells #[.int .i64 1, .int .i64 n, .slice A m cap] 41)) = w1 at *
    have hbox : w1.cell? ⟨B, 1, none⟩ = some (.int .i64 n) ∧ w1.cell? ⟨B, 2, none⟩ = some (.slice A m cap) := ⟨blk_cell hblk rfl, blk_cell hblk rfl⟩
    have HTO := Lib.hid (take_out HP1.out.1.b n hk.out false)
    have HRT := Lib.hid (rtake_out HP1.out.1.r n hk.out false)
    have c0 : w1.cell? ⟨B, 0, none⟩ = some (.int .i64 1) := blk_cell hblk rfl
    have c1 := hbox.1
    have r3 : (convert 22 9 (.slice none 0 0)).run Try.prog w1 = .ok (.string (str [])) w1 := run_str (Byt.nil _)
    rw [show str [] = ⟨#[]⟩ from rfl] at r3
    clear hbox hblk
    refine (HTO.out).mono ?_
    rintro e w2 ⟨rfl, rfl⟩
    go_wp2_with fail
    refine (HRT.out).mono ?_
    rintro e w3 ⟨rfl, rfl⟩
    go_wp2_with fail
    go_ret
    exact ⟨rfl, _, _, _, HP1.out.1, Nat.le_succ _⟩
set_option maxRecDepth 100000 in
set_option maxHeartbeats 4000000 in
theorem does_in2 {w0 w : World} {K K' : Nat → Prop} {c c' : Nat} {l : List (Int × List Nat)} (hp : Pair w0 w K K' c c' l l) (hl : l.length ≤ 200) (i : Nat) (hi : i < l.length) {y : Value} {s : List Nat} (hy : Byt w0 y s) :
    Calls Try.prog 12 #[.pointer (some ⟨c, 0, none⟩), .pointer (some ⟨c', 0, none⟩), .agg #[.int .i64 2, .int .i64 i, y]] w fun e w' => e = .returned (.bool true) ∧ ∃ K2 K2' l2, Pair w0 w' K2 K2' c c' l2 l2 ∧ l2.length ≤ l.length + 1 := by
  obtain ⟨A, len, cap, m, rfl, hm1, hm2, hlc, hcm, HY, HM, hcase⟩ := cut50 hy
  unfold maxLen at hcm
  have HP := Lib.hid hp
  have HL := Lib.hid hl
  generalize s.take 50 = s2 at *
  clear hp hy hl
  rcases hcase with ⟨hlong, rfl⟩ | ⟨hshort, rfl⟩
  · go_enter Try.func12, Try.ntmps12
    go_wp2_with fail
    have hblk : (w.alloc (.cells #[.int .i64 2, .int .i64 i, .slice A 50 cap] 41)).heap[w.heap.size]? = some (.cells #[.int .i64 2, .int .i64 i, .slice A 50 cap] 41) := heap_alloc_new _ _
    have hb1 : Below w.heap.size w (w.alloc (.cells #[.int .i64 2, .int .i64 i, .slice A 50 cap] 41)) := ((Below.refl _ _).alloc (Nat.le_refl _) _)
    have HP1 := Lib.hid (And.intro (HP.out.below hb1) (HY.out.below (HP.out.below hb1).bel))
    have hk0 := HP.out.nk (Nat.le_refl _)
    have hk0' := HP.out.nk' (Nat.le_refl _)
    have hsz1 : w.heap.size < (w.alloc (.cells #[.int .i64 2, .int .i64 i, .slice A 50 cap] 41)).heap.size := by simp
    clear hb1
    generalize w.heap.size = B at *
    generalize (w.alloc (.cells #[.int .i64 2, .int .i64 i, .slice A 50 cap] 41)) = w1 at *
    have hbox : w1.cell? ⟨B, 1, none⟩ = some (.int .i64 i) ∧ w1.cell? ⟨B, 2, none⟩ = some (.slice A 50 cap) := ⟨blk_cell hblk rfl, blk_cell hblk rfl⟩
    refine (take_in HP1.out.1.b i hi true).mono ?_
    rintro e w2 ⟨v, rfl, hy2, hyb2, hB2, hF2, _⟩
    have hblk2 := hF2.blk hk0 hblk
    have c0 : w2.cell? ⟨B, 0, none⟩ = some (.int .i64 2) := blk_cell hblk2 rfl
    have c1 : w2.cell? ⟨B, 1, none⟩ = some (.int .i64 i) := blk_cell hblk2 rfl
    have HP2 := Lib.hid (HP1.out.1.left hB2 hF2 fun x hx => .inl hx)
    have HY2 := Lib.hid hy2
    have HYB2 := Lib.hid (show ∀ x, K' x → v.ownBlock ≠ some x from fun x hx e => by
      have := HP1.out.1.r.lt hx
      have := (hyb2 x e).1
      omega)
    have HRT := Lib.hid (rtake_in' HP2.out.r HL.out i hi true)
    clear hB2 hF2 hblk hbox hblk2 hyb2
    generalize (l.getD i (0, [])).1 = to at *
    generalize (l.getD i (0, [])).2 = sp at *
    obtain ⟨Av, cv, rfl, _⟩ := hy2
    go_wp2_with fail
    refine (HRT.out).mono ?_
    rintro e w3 ⟨rfl, K3, hB3, hF3, hK3⟩
    have HP3 := Lib.hid (HP2.out.right hB3 hF3 hK3)
    have hy3 : Byt w3 (.slice Av sp.length cv) sp := HY2.out.fr hF3 fun b hb hk => HYB2.out b hk hb
    have r3 : (convert 22 9 (.slice Av sp.length cv)).run Try.prog w3 = .ok (.string (str sp)) w3 := run_str hy3
    have HLE : Hid ((if true = true then l else l.eraseIdx i).length ≤ l.length + 1) := Lib.hid (len_take l i true)
    clear hB3 hF3 hK3 hy3 HRT
    generalize sp.length = ns at *
    generalize str sp = bs at *
    go_wp2_with fail
    go_ret
    exact ⟨rfl, _, _, _, HP3.out, HLE.out⟩
  · go_enter Try.func12, Try.ntmps12
    go_wp2_with fail
    have hblk : (w.alloc (.cells #[.int .i64 2, .int .i64 i, .slice A m cap] 41)).heap[w.heap.size]? = some (.cells #[.int .i64 2, .int .i64 i, .slice A m cap] 41) := heap_alloc_new _ _
    have hb1 : Below w.heap.size w (w.alloc (.cells #[.int .i64 2, .int .i64 i, .slice A m cap] 41)) := ((Below.refl _ _).alloc (Nat.le_refl _) _)
    have HP1 := Lib.hid (And.intro (HP.out.below hb1) (HY.out.below (HP.out.below hb1).bel))
    have hk0 := HP.out.nk (Nat.le_refl _)
    have hk0' := HP.out.nk' (Nat.le_refl _)
    have hsz1 : w.heap.size < (w.alloc (.cells #[.int .i64 2, .int .i64 i, .slice A m cap] 41)).heap.size := by simp
    clear hb1
    generalize w.heap.size = B at *
    generalize (w.alloc (.cells #[.int .i64 2, .int .i64 i, .slice A m cap] 41)) = w1 at *
    have hbox : w1.cell? ⟨B, 1, none⟩ = some (.int .i64 i) ∧ w1.cell? ⟨B, 2, none⟩ = some (.slice A m cap) := ⟨blk_cell hblk rfl, blk_cell hblk rfl⟩
    refine (take_in HP1.out.1.b i hi true).mono ?_
    rintro e w2 ⟨v, rfl, hy2, hyb2, hB2, hF2, _⟩
    have hblk2 := hF2.blk hk0 hblk
    have c0 : w2.cell? ⟨B, 0, none⟩ = some (.int .i64 2) := blk_cell hblk2 rfl
    have c1 : w2.cell? ⟨B, 1, none⟩ = some (.int .i64 i) := blk_cell hblk2 rfl
    have HP2 := Lib.hid (HP1.out.1.left hB2 hF2 fun x hx => .inl hx)
    have HY2 := Lib.hid hy2
    have HYB2 := Lib.hid (show ∀ x, K' x → v.ownBlock ≠ some x from fun x hx e => by
      have := HP1.out.1.r.lt hx
      have := (hyb2 x e).1
      omega)
    have HRT := Lib.hid (rtake_in' HP2.out.r HL.out i hi true)
    clear hB2 hF2 hblk hbox hblk2 hyb2
    generalize (l.getD i (0, [])).1 = to at *
    generalize (l.getD i (0, [])).2 = sp at *
    obtain ⟨Av, cv, rfl, _⟩ := hy2
    go_wp2_with fail
    refine (HRT.out).mono ?_
    rintro e w3 ⟨rfl, K3, hB3, hF3, hK3⟩
    have HP3 := Lib.hid (HP2.out.right hB3 hF3 hK3)
    have hy3 : Byt w3 (.slice Av sp.length cv) sp := HY2.out.fr hF3 fun b hb hk => HYB2.out b hk hb
    have r3 : (convert 22 9 (.slice Av sp.length cv)).run Try.prog w3 = .ok (.string (str sp)) w3 := run_str hy3
    have HLE : Hid ((if true = true then l else l.eraseIdx i).length ≤ l.length + 1) := Lib.hid (len_take l i true)
    clear hB3 hF3 hK3 hy3 HRT
    generalize sp.length = ns at *
    generalize str sp = bs at *
    go_wp2_with fail
    go_ret
    exact ⟨rfl, _, _, _, HP3.out, HLE.out⟩
set_option maxRecDepth 100000 in
set_option maxHeartbeats 4000000 in
theorem does_out2 {w0 w : World} {K K' : Nat → Prop} {c c' : Nat} {l : List (Int × List Nat)} (hp : Pair w0 w K K' c c' l l) (hl : l.length ≤ 200) (n : Int) (hk : Hid (¬ (0 ≤ n ∧ n < l.length))) {y : Value} {s : List Nat} (hy : Byt w0 y s) :
    Calls Try.prog 12 #[.pointer (some ⟨c, 0, none⟩), .pointer (some ⟨c', 0, none⟩), .agg #[.int .i64 2, .int .i64 n, y]] w fun e w' => e = .returned (.bool true) ∧ ∃ K2 K2' l2, Pair w0 w' K2 K2' c c' l2 l2 ∧ l2.length ≤ l.length + 1 := by
  obtain ⟨A, len, cap, m, rfl, hm1, hm2, hlc, hcm, HY, HM, hcase⟩ := cut50 hy
  unfold maxLen at hcm
  have HP := Lib.hid hp
  have HL := Lib.hid hl
  generalize s.take 50 = s2 at *
  clear hp hy hl
  rcases hcase with ⟨hlong, rfl⟩ | ⟨hshort, rfl⟩
  · go_enter Try.func12, Try.ntmps12
    go_wp2_with fail
    have hblk : (w.alloc (.cells #[.int .i64 2, .int .i64 n, .slice A 50 cap] 41)).heap[w.heap.size]? = some (.cells #[.int .i64 2, .int .i64 n, .slice A 50 cap] 41) := heap_alloc_new _ _
    have hb1 : Below w.heap.size w (w.alloc (.cells #[.int .i64 2, .int .i64 n, .slice A 50 cap] 41)) := ((Below.refl _ _).alloc (Nat.le_refl _) _)
    have HP1 := Lib.hid (And.intro (HP.out.below hb1) (HY.out.below (HP.out.below hb1).bel))
    have hk0 := HP.out.nk (Nat.le_refl _)
    have hk0' := HP.out.nk' (Nat.le_refl _)
    have hsz1 : w.heap.size < (w.alloc (.cells #[.int .i64 2, .int .i64 n, .slice A 50 cap] 41)).heap.size := by simp
    clear hb1
    generalize w.heap.size = B at *
    generalize (w.alloc (.cells #[.int .i64 2, .int .i64 n, .slice A 50 cap] 41)) = w1 at *
    have hbox : w1.cell? ⟨B, 1, none⟩ = some (.int .i64 n) ∧ w1.cell? ⟨B, 2, none⟩ = some (.slice A 50 cap) := ⟨blk_cell hblk rfl, blk_cell hblk rfl⟩
    have HTO := Lib.hid (take_out HP1.out.1.b n hk.out true)
    have HRT := Lib.hid (rtake_out HP1.out.1.r n hk.out true)
    have c0 : w1.cell? ⟨B, 0, none⟩ = some (.int .i64 2) := blk_cell hblk rfl
    have c1 := hbox.1
    have r3 : (convert 22 9 (.slice none 0 0)).run Try.prog w1 = .ok (.string (str [])) w1 := run_str (Byt.nil _)
    rw [show str [] = ⟨#[]⟩ from rfl] at r3
    clear hbox hblk
    refine (HTO.out).mono ?_
    rintro e w2 ⟨rfl, rfl⟩
    go_wp2_with fail
    refine (HRT.out).mono ?_
    rintro e w3 ⟨rfl, rfl⟩
    go_wp2_with fail
    go_ret
    exact ⟨rfl, _, _, _, HP1.out.1, Nat.le_succ _⟩
  · go_enter Try.func12, Try.ntmps12
    go_wp2_with fail
    have hblk : (w.alloc (.cells #[.int .i64 2, .int .i64 n, .slice A m cap] 41)).heap[w.heap.size]? = some (.cells #[.int .i64 2, .int .i64 n, .slice A m cap] 41) := heap_alloc_new _ _
    have hb1 : Below w.heap.size w (w.alloc (.cells #[.int .i64 2, .int .i64 n, .slice A m cap] 41)) := ((Below.refl _ _).alloc (Nat.le_refl _) _)
    have HP1 := Lib.hid (And.intro (HP.out.below hb1) (HY.out.below (HP.out.below hb1).bel))
    have hk0 := HP.out.nk (Nat.le_refl _)
    have hk0' := HP.out.nk' (Nat.le_refl _)
    have hsz1 : w.heap.size < (w.alloc (.cells #[.int .i64 2, .int .i64 n, .slice A m cap] 41)).heap.size := by simp
    clear hb1
    generalize w.heap.size = B at *
    generalize (w.alloc (.cells #[.int .i64 2, .int .i64 n, .slice A m cap] 41)) = w1 at *
    have hbox : w1.cell? ⟨B, 1, none⟩ = some (.int .i64 n) ∧ w1.cell? ⟨B, 2, none⟩ = some (.slice A m cap) := ⟨blk_cell hblk rfl, blk_cell hblk rfl⟩
    have HTO := Lib.hid (take_out HP1.out.1.b n hk.out true)
    have HRT := Lib.hid (rtake_out HP1.out.1.r n hk.out true)
    have c0 : w1.cell? ⟨B, 0, none⟩ = some (.int .i64 2) := blk_cell hblk rfl
    have c1 := hbox.1
    have r3 : (convert 22 9 (.slice none 0 0)).run Try.prog w1 = .ok (.string (str [])) w1 := run_str (Byt.nil _)
    rw [show str [] = ⟨#[]⟩ from rfl] at r3
    clear hbox hblk
    refine (HTO.out).mono ?_
    rintro e w2 ⟨rfl, rfl⟩
    go_wp2_with fail
    refine (HRT.out).mono ?_
    rintro e w3 ⟨rfl, rfl⟩
    go_wp2_with fail
    go_ret
    exact ⟨rfl, _, _, _, HP1.out.1, Nat.le_succ _⟩
end Go.Proofs.Ytmicejjlfojncaa
