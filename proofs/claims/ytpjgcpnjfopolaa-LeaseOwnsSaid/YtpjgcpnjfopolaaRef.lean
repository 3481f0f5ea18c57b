/-
  THE REFERENCE's table.
-/
import Derived.Test.YtpjgcpnjfopolaaOver
import Derived.Laws.MakeOwn
namespace Go.Proofs.Ytpjgcpnjfopolaa
open Go.RowKit Go.Deep
def Grants (arr : Array Value) (g : Int → Int → Option (Bool × Int)) : Prop := arr.size = 891 ∧ ∀ i c : Nat, i ≤ 32 → c ≤ 8 → ∃ own til, arr[(9 * i + c) * 3]? = some (.bool (g i c).isSome) ∧ arr[(9 * i + c) * 3 + 1]? = some (.bool own) ∧ arr[(9 * i + c) * 3 + 2]? = some (.int .i64 til) ∧
  ∀ p, g i c = some p → own = p.1 ∧ til = p.2
structure TR (w : World) (b g x y : Nat) (s : Tab) : Prop where
  ok : s.Ok
  blk : w.heap[b]? = some (.cells #[.slice (some ⟨g, 0, none⟩) 297 297, .slice (some ⟨x, 0, none⟩) 33 33, .slice (some ⟨y, 0, none⟩) 33 33] 34 (0, 0))
  gr : ∃ arr, w.heap[g]? = some (.cells arr 66 (0, 0)) ∧ Grants arr s.g
  wx : ∃ ax, w.heap[x]? = some (.cells ax 3 (0, 0)) ∧ ax.size = 33 ∧ ∀ i : Nat, i ≤ 32 → ax[i]? = some (.int .i64 (s.wc i))
  wy : ∃ ay, w.heap[y]? = some (.cells ay 3 (0, 0)) ∧ ay.size = 33 ∧ ∀ i : Nat, i ≤ 32 → ∃ t, ay[i]? = some (.int .i64 t) ∧ (s.wc i ≠ 0 → t = s.wt i)
  ne : b ≠ g ∧ b ≠ x ∧ b ≠ y ∧ g ≠ x ∧ g ≠ y ∧ x ≠ y
/-- The reference's blocks. -/
def RK (b g x y : Nat) : Nat → Prop := fun k => k = b ∨ k = g ∨ k = x ∨ k = y
theorem TR.lt {w : World} {b g x y : Nat} {s : Tab} (h : TR w b g x y s) : b < w.heap.size ∧ g < w.heap.size ∧ x < w.heap.size ∧ y < w.heap.size := by
  obtain ⟨_, h1, _⟩ := h.gr
  obtain ⟨_, h2, _⟩ := h.wx
  obtain ⟨_, h3, _⟩ := h.wy
  exact ⟨blk_lt h.blk, blk_lt h1, blk_lt h2, blk_lt h3⟩
theorem TR.fr {S : Nat → Prop} {w w' : World} {b g x y : Nat} {s : Tab} (h : TR w b g x y s) (k : Fr S w w') (hs : ∀ j, RK b g x y j → ¬ S j) : TR w' b g x y s := by
  obtain ⟨a1, h1, r1⟩ := h.gr
  obtain ⟨a2, h2, r2⟩ := h.wx
  obtain ⟨a3, h3, r3⟩ := h.wy
  exact ⟨h.ok, k.blk (hs _ (.inl rfl)) h.blk, ⟨a1, k.blk (hs _ (.inr (.inl rfl))) h1, r1⟩, ⟨a2, k.blk (hs _ (.inr (.inr (.inl rfl)))) h2, r2⟩, ⟨a3, k.blk (hs _ (.inr (.inr (.inr rfl)))) h3, r3⟩, h.ne⟩
theorem TR.below {w w' : World} {b g x y : Nat} {s : Tab} (h : TR w b g x y s) (k : Below w.heap.size w w') : TR w' b g x y s := h.fr (S := fun _ => False) (Fr.of_below k) fun _ _ => id
def hasB (s : Tab) (c i : Int) : Bool := (s.g i c).isSome
theorem hasB_out {s : Tab} (h : s.Ok) {c i : Int} (hn : ¬ ((1 ≤ i ∧ i ≤ 32) ∧ 1 ≤ c ∧ c ≤ 8)) : s.g i c = none := by
  cases hg : s.g i c with
  | none => rfl
  | some p => exact absurd (h.g i c p hg) hn
set_option maxRecDepth 100000 in
set_option maxHeartbeats 1000000 in
theorem has_any {w : World} {b g x y : Nat} {s : Tab} (h : TR w b g x y s) (c i : Int) : Calls Try.prog 32 #[.pointer (some ⟨b, 0, none⟩), .int .i64 c, .int .i64 i] w fun e w' => e = .returned (.bool (hasB s c i)) ∧ w = w' := by
  by_cases hin : (1 ≤ i ∧ i ≤ 32) ∧ 1 ≤ c ∧ c ≤ 8
  · obtain ⟨⟨i1, i2⟩, c1, c2⟩ := hin
    obtain ⟨k, rfl⟩ := Int.eq_ofNat_of_zero_le (show 0 ≤ i by omega)
    obtain ⟨j, rfl⟩ := Int.eq_ofNat_of_zero_le (show 0 ≤ c by omega)
    obtain ⟨arr, ha, hs, hg⟩ := h.gr
    obtain ⟨own, til, g0, _⟩ := hg k j (by omega) (by omega)
    have d0 := blk_cell ha g0
    have c0 := blk_cell (j := 0) h.blk rfl
    have hB : hasB s j k = (s.g k j).isSome := rfl
    rw [hB]
    generalize (s.g k j).isSome = bb at *
    clear hB ha hs hg g0 h
    have b0 : (0 : Int) ≤ 9 * (k : Int) + (j : Int) := by omega
    have b1 : 9 * (k : Int) + (j : Int) < 297 := by omega
    go_enter Try.func32, Try.ntmps32
    go_wp2
    go_ret
    exact ⟨rfl, rfl⟩
  · have hB : hasB s c i = false := by unfold hasB; rw [hasB_out h.ok hin]; rfl
    rw [hB]
    clear hB h
    by_cases c1 : 1 ≤ c
    · by_cases c2 : c ≤ 8
      · by_cases i1 : 1 ≤ i
        · have i2 : ¬ i ≤ 32 := by omega
          clear hin
          go_enter Try.func32, Try.ntmps32
          go_wp2
          go_ret
          exact ⟨rfl, rfl⟩
        · clear hin
          go_enter Try.func32, Try.ntmps32
          go_wp2
          go_ret
          exact ⟨rfl, rfl⟩
      · clear hin
        go_enter Try.func32, Try.ntmps32
        go_wp2
        go_ret
        exact ⟨rfl, rfl⟩
    · clear hin
      go_enter Try.func32, Try.ntmps32
      go_wp2
      go_ret
      exact ⟨rfl, rfl⟩
theorem Grants.set {arr : Array Value} {g : Int → Int → Option (Bool × Int)} (h : Grants arr g) (k j : Nat) (hk : k ≤ 32) (hj : j ≤ 8) (p : Option (Bool × Int)) (own : Bool) (til : Int) (hp : ∀ q, p = some q → own = q.1 ∧ til = q.2) :
    Grants (((arr.setIfInBounds ((9 * k + j) * 3) (.bool p.isSome)).setIfInBounds ((9 * k + j) * 3 + 1) (.bool own)).setIfInBounds ((9 * k + j) * 3 + 2) (.int .i64 til)) (upd g k j p) := by
  obtain ⟨h1, h2⟩ := h
  refine ⟨by simpa using h1, fun i c hi hc => ?_⟩
  by_cases e : i = k ∧ c = j
  · obtain ⟨rfl, rfl⟩ := e
    have hu : upd g (i : Int) (c : Int) p i c = p := by unfold upd; rw [if_pos ⟨rfl, rfl⟩]
    rw [hu]
    refine ⟨own, til, ?_, ?_, ?_, hp⟩
    · rw [Array.getElem?_setIfInBounds, Array.getElem?_setIfInBounds, Array.getElem?_setIfInBounds, if_neg (by omega), if_neg (by omega), if_pos rfl, if_pos (by omega)]
    · rw [Array.getElem?_setIfInBounds, Array.getElem?_setIfInBounds, if_neg (by omega), if_pos rfl, if_pos (by simp; omega)]
    · rw [Array.getElem?_setIfInBounds, if_pos rfl, if_pos (by simp; omega)]
  · have hu : upd g (k : Int) (j : Int) p i c = g i c := by unfold upd; rw [if_neg (by omega)]
    rw [hu]
    obtain ⟨o, t, e1, e2, e3, e4⟩ := h2 i c hi hc
    have n1 : ¬ 9 * i + c = 9 * k + j := by omega
    refine ⟨o, t, ?_, ?_, ?_, e4⟩
    · rw [Array.getElem?_setIfInBounds, Array.getElem?_setIfInBounds, Array.getElem?_setIfInBounds, if_neg (by omega), if_neg (by omega), if_neg (by omega)]; exact e1
    · rw [Array.getElem?_setIfInBounds, Array.getElem?_setIfInBounds, Array.getElem?_setIfInBounds, if_neg (by omega), if_neg (by omega), if_neg (by omega)]; exact e2
    · rw [Array.getElem?_setIfInBounds, Array.getElem?_setIfInBounds, Array.getElem?_setIfInBounds, if_neg (by omega), if_neg (by omega), if_neg (by omega)]; exact e3
theorem TR.setG {w : World} {b g x y : Nat} {s : Tab} (h : TR w b g x y s) (k j : Nat) (hk : 1 ≤ k ∧ k ≤ 32) (hj : 1 ≤ j ∧ j ≤ 8) (p : Option (Bool × Int)) (own : Bool) (til : Int) (hp : ∀ q, p = some q → own = q.1 ∧ til = q.2) :
    TR (((w.setCell ⟨g, (9 * k + j) * 3, none⟩ (.bool p.isSome)).setCell ⟨g, (9 * k + j) * 3 + 1, none⟩ (.bool own)).setCell ⟨g, (9 * k + j) * 3 + 2, none⟩ (.int .i64 til)) b g x y (s.setG k j p) := by
  obtain ⟨n1, n2, n3, n4, n5, n6⟩ := h.ne
  obtain ⟨a1, h1, r1⟩ := h.gr
  obtain ⟨a2, h2, r2⟩ := h.wx
  obtain ⟨a3, h3, r3⟩ := h.wy
  have o3 : ∀ {q : Nat} {ob : Obj}, w.heap[q]? = some ob → q ≠ g → (((w.setCell ⟨g, (9 * k + j) * 3, none⟩ (.bool p.isSome)).setCell ⟨g, (9 * k + j) * 3 + 1, none⟩ (.bool own)).setCell ⟨g, (9 * k + j) * 3 + 2, none⟩ (.int .i64 til)).heap[q]? = some ob := fun hq hn => blk_set_other (blk_set_other (blk_set_other hq hn) hn) hn
  exact ⟨h.ok.setG _ _ _ (by omega) (by omega), o3 h.blk n1, ⟨_, setRow_cell _ _ _ _ _ _ (setRow_cell _ _ _ _ _ _ (setRow_cell _ _ _ _ _ _ h1)), r1.set k j hk.2 hj.2 p own til hp⟩,
    ⟨a2, o3 h2 (Ne.symm n4), r2⟩, ⟨a3, o3 h3 (Ne.symm n5), r3⟩, h.ne⟩
theorem TR.congr {w : World} {b g x y : Nat} {s s' : Tab} (h : TR w b g x y s) (hok : s'.Ok) (hg : s'.g = s.g) (hw : ∀ i : Nat, i ≤ 32 → s'.wc i = s.wc i ∧ (s.wc i ≠ 0 → s'.wt i = s.wt i)) : TR w b g x y s' := by
  obtain ⟨a2, h2, k2, r2⟩ := h.wx
  obtain ⟨a3, h3, k3, r3⟩ := h.wy
  refine ⟨hok, h.blk, by rw [hg]; exact h.gr, ⟨a2, h2, k2, fun i hi => by rw [(hw i hi).1]; exact r2 i hi⟩, ⟨a3, h3, k3, fun i hi => ?_⟩, h.ne⟩
  obtain ⟨t, e1, e2⟩ := r3 i hi
  obtain ⟨h7, h8⟩ := hw i hi
  refine ⟨t, e1, fun hn => ?_⟩
  rw [h7] at hn
  rw [h8 hn]
  exact e2 hn
/-- Wait[k] = c; Long[k] = t. -/
theorem TR.setW {w : World} {b g x y : Nat} {s : Tab} (h : TR w b g x y s) (k : Nat) (hk : 1 ≤ k ∧ k ≤ 32) (c t : Int) (h0 : 0 ≤ c) (h1 : c ≤ 8) :
    TR ((w.setCell ⟨x, k, none⟩ (.int .i64 c)).setCell ⟨y, k, none⟩ (.int .i64 t)) b g x y (s.setW k c t) := by
  obtain ⟨n1, n2, n3, n4, n5, n6⟩ := h.ne
  obtain ⟨a1, h1', r1⟩ := h.gr
  obtain ⟨a2, h2, k2, r2⟩ := h.wx
  obtain ⟨a3, h3, k3, r3⟩ := h.wy
  refine ⟨h.ok.setW _ _ _ h0 h1 (by omega), blk_set_other (blk_set_other h.blk n2) n3, ⟨a1, blk_set_other (blk_set_other h1' n4) n5, r1⟩, ⟨_, blk_set_other (setRow_cell _ _ _ _ _ _ h2) n6, by simpa using k2, fun i hi => ?_⟩, ⟨_, setRow_cell _ _ _ _ _ _ (blk_set_other h3 (Ne.symm n6)), by simpa using k3, fun i hi => ?_⟩, h.ne⟩
  · unfold Tab.setW
    simp only
    rw [Array.getElem?_setIfInBounds]
    by_cases e : i = k
    · subst e
      rw [if_pos rfl, if_pos (by omega)]
      simp
    · rw [if_neg (by omega), if_neg (by omega)]
      exact r2 i hi
  · unfold Tab.setW
    simp only
    rw [Array.getElem?_setIfInBounds]
    by_cases e : i = k
    · subst e
      rw [if_pos rfl, if_pos (by omega)]
      exact ⟨t, rfl, fun _ => by simp⟩
    · rw [if_neg (by omega), if_neg (by omega), if_neg (by omega)]
      exact r3 i hi
/-- Wait[k] = 0. -/
theorem TR.noW {w : World} {b g x y : Nat} {s : Tab} (h : TR w b g x y s) (k : Nat) (hk : k ≤ 32) : TR (w.setCell ⟨x, k, none⟩ (.int .i64 0)) b g x y (s.setW k 0 0) := by
  obtain ⟨n1, n2, n3, n4, n5, n6⟩ := h.ne
  obtain ⟨a1, h1', r1⟩ := h.gr
  obtain ⟨a2, h2, k2, r2⟩ := h.wx
  obtain ⟨a3, h3, k3, r3⟩ := h.wy
  refine ⟨h.ok.setW _ _ _ (Int.le_refl _) (by decide) (.inr rfl), blk_set_other h.blk n2, ⟨a1, blk_set_other h1' n4, r1⟩, ⟨_, setRow_cell _ _ _ _ _ _ h2, by simpa using k2, fun i hi => ?_⟩, ⟨a3, blk_set_other h3 (Ne.symm n6), k3, fun i hi => ?_⟩, h.ne⟩
  · unfold Tab.setW
    simp only
    rw [Array.getElem?_setIfInBounds]
    by_cases e : i = k
    · subst e
      rw [if_pos rfl, if_pos (by omega)]
      simp
    · rw [if_neg (by omega), if_neg (by omega)]
      exact r2 i hi
  · unfold Tab.setW
    simp only
    obtain ⟨t, e1, e2⟩ := r3 i hi
    refine ⟨t, e1, ?_⟩
    by_cases e : i = k
    · subst e
      rw [if_pos rfl]
      exact fun h => absurd rfl h
    · rw [if_neg (by omega), if_neg (by omega)]
      exact e2
set_option maxRecDepth 100000 in
set_option maxHeartbeats 1000000 in
theorem rgive_any {w : World} {b g x y : Nat} {s : Tab} (h : TR w b g x y s) (c i : Int) : Calls Try.prog 22 #[.pointer (some ⟨b, 0, none⟩), .int .i64 c, .int .i64 i] w fun e w' =>
    e = .returned (.int .i64 (if (s.g i c).isSome then 0 else 10)) ∧ TR w' b g x y (s.give c i) ∧ Fr (RK b g x y) w w' := by
  have H := Lib.hid h
  have HH := Lib.hid (has_any h c i)
  by_cases hs : (s.g i c).isSome = true
  · have hB : hasB s c i = true := hs
    rw [hB] at HH
    rw [if_pos hs]
    obtain ⟨p, hp⟩ := Option.isSome_iff_exists.1 hs
    obtain ⟨⟨i1, i2⟩, c1, c2⟩ := h.ok.g i c p hp
    obtain ⟨k, rfl⟩ := Int.eq_ofNat_of_zero_le (show 0 ≤ i by omega)
    obtain ⟨j, rfl⟩ := Int.eq_ofNat_of_zero_le (show 0 ≤ c by omega)
    obtain ⟨arr, ha, hsz, hg⟩ := h.gr
    obtain ⟨own, til, g0, g1, g2, _⟩ := hg k j (by omega) (by omega)
    have d0 := blk_cell ha g0
    have d1 := blk_cell ha g1
    have d2 := blk_cell ha g2
    have z0 := frozen_of_row w g ((9 * k + j) * 3) _ _ ha
    have z1 := frozen_of_row w g ((9 * k + j) * 3 + 1) _ _ ha
    have z2 := frozen_of_row w g ((9 * k + j) * 3 + 2) _ _ ha
    have c0 := blk_cell (j := 0) h.blk rfl
    have HE := Lib.hid (h.setG k j (by omega) (by omega) none false 0 (fun q hq => by cases hq))
    generalize (s.g (k : Int) (j : Int)).isSome = bb at *
    have HF := Lib.hid ((((Fr.refl (RK b g x y) w).setCell (b := g) (i := (9 * k + j) * 3) (.inl (.inr (.inl rfl))) (.bool false)).setCell (b := g) (i := (9 * k + j) * 3 + 1) (.inl (.inr (.inl rfl))) (.bool false)).setCell (b := g) (i := (9 * k + j) * 3 + 2) (.inl (.inr (.inl rfl))) (.int .i64 0))
    clear hB hs hp ha hsz hg g0 g1 g2 h
    have b0 : (0 : Int) ≤ 9 * (k : Int) + (j : Int) := by omega
    have b1 : 9 * (k : Int) + (j : Int) < 297 := by omega
    go_enter Try.func22, Try.ntmps22
    go_wp2_with (go_at_call 32; refine (HH.out).mono ?_; rintro e w' ⟨rfl, rfl⟩)
    go_ret
    exact ⟨rfl, HE.out, HF.out⟩
  · have hB : hasB s c i = false := by simpa [hasB] using hs
    have hn : s.g i c = none := by simpa using hs
    rw [hB] at HH
    rw [if_neg hs, Tab.give_none hn]
    clear hB hs hn h
    go_enter Try.func22, Try.ntmps22
    go_wp2_with (go_at_call 32; refine (HH.out).mono ?_; rintro e w' ⟨rfl, rfl⟩)
    go_ret
    exact ⟨rfl, H.out, Fr.refl _ _⟩
end Go.Proofs.Ytpjgcpnjfopolaa
