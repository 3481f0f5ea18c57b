/-
  THE BAG as the reference holds it; its Send.
-/
import Derived.Test.YtmicejjlfojncaaLives
namespace Go.Proofs.Ytmicejjlfojncaa
open Go.RowKit Go.Deep
/-- The reference's bag: in block c; all that is its own lies in K. -/
structure RBag0 (w : World) (K : Nat → Prop) (c : Nat) (v : Value) (ps : List Pk) : Prop where
  core : Core w 38 57 c v ps
  kc : K c
  kv : ∀ b, v.ownBlock = some b → K b
  lt : ∀ x, K x → x < w.heap.size
  data : ∀ p ∈ ps, p.v = .string (str p.s)
  short : ∀ p ∈ ps, p.s.length < 1000000
def RBag (w : World) (K : Nat → Prop) (c : Nat) (l : List (Int × List Nat)) : Prop := ∃ v ps, RBag0 w K c v ps ∧ cont ps = l
theorem RBag0.fr {S K : Nat → Prop} {w w' : World} {c : Nat} {v : Value} {ps : List Pk} (h : RBag0 w K c v ps) (k : Fr S w w') (hs : ∀ x, K x → ¬ S x) : RBag0 w' K c v ps :=
  ⟨h.core.fr k (hs c h.kc) fun b hb => hs b (h.kv b hb), h.kc, h.kv, fun x hx => Nat.lt_of_lt_of_le (h.lt x hx) k.size, h.data, h.short⟩
theorem RBag.fr {S K : Nat → Prop} {w w' : World} {c : Nat} {l : List (Int × List Nat)} (h : RBag w K c l) (k : Fr S w w') (hs : ∀ x, K x → ¬ S x) : RBag w' K c l := by
  obtain ⟨v, ps, h1, h2⟩ := h
  exact ⟨v, ps, h1.fr k hs, h2⟩
theorem RBag.below {K : Nat → Prop} {w w' : World} {c : Nat} {l : List (Int × List Nat)} (h : RBag w K c l) (k : Below w.heap.size w w') : RBag w' K c l :=
  h.fr (S := fun _ => False) (Fr.of_below k) fun _ _ h => h
theorem RBag.new (w : World) : RBag (w.alloc (.cells #[.slice none 0 0] 38)) (fun x => x = w.heap.size) w.heap.size [] :=
  ⟨_, [], ⟨⟨heap_alloc_new _ _, World.ownsRow_nil _ _ _ _, by simp [Value.ownBlock]⟩, rfl, (fun b hb => by simp [Value.ownBlock] at hb), (fun x hx => by subst hx; simp), (fun p hp => by cases hp), (fun p hp => by cases hp)⟩, rfl⟩
theorem info57 : (Try.prog.info? 57).map (fun i => (i.zero, i.size, i.bytes)) = some (some (.agg #[.int .i64 0, .string { data := #[] }]), 2, 24) := by kernel_rfl
theorem RBag0.pushed {K : Nat → Prop} {w w' : World} {c : Nat} {v v' : Value} {ps : List Pk} {s : List Nat} {to : Int} (hB : RBag0 w K c v ps) (hgr : w.grownBy w' v.ownBlock)
    (hown : w'.ownsRow 0 57 2 v' (ps.length + 1) (flat ps ++ [.int .i64 to, .string (str s)])) (hat : v'.ownBlock = v.ownBlock ∨ ∃ b, v'.ownBlock = some b ∧ w.heap.size ≤ b)
    (hs : s.length < 1000000) :
    RBag0 (w'.setCell ⟨c, 0, none⟩ v') (fun x => K x ∨ v'.ownBlock = some x) c v' (ps ++ [⟨to, .string (str s), s⟩]) ∧ Fr K w (w'.setCell ⟨c, 0, none⟩ v') := by
  have hc := hB.lt c hB.kc
  have hf1 : Fr (fun x => v.ownBlock = some x) w w' := Fr.of_grown hgr fun b hb => hb
  have hvc : v'.ownBlock ≠ some c := fun e => by
    rcases hat with h | ⟨b, h, hb⟩
    · exact hB.core.ne (by rw [← h]; exact e)
    · rw [h] at e
      injection e with e
      omega
  have hfS : Fr K w (w'.setCell ⟨c, 0, none⟩ v') := (hf1.mono (fun x hx => hB.kv x hx)).setCell (.inl hB.kc) v'
  have hsz := hfS.size
  have hown2 : (w'.setCell ⟨c, 0, none⟩ v').ownsRow 0 57 2 v' (ps.length + 1) (flat ps ++ [.int .i64 to, .string (str s)]) := hown.kept (row := some c) (only_setCell ⟨rfl, rfl, rfl, Nat.le_refl _, fun _ _ _ => rfl⟩ _) (.inr hvc)
  refine ⟨⟨⟨?_, ?_, hvc⟩, .inl hB.kc, fun b hb => .inr hb, ?_, ?_, ?_⟩, hfS⟩
  · have hb1 : w'.heap[c]? = some (.cells #[v] 38 (0, 0)) := hf1.blk (fun e => hB.core.ne e) hB.core.blk
    rw [setRow_cell w' c _ _ _ 0 hb1]
    rfl
  · rw [flat_app, List.length_append]
    exact hown2
  · rintro x (hx | hx)
    · exact Nat.lt_of_lt_of_le (hB.lt x hx) hsz
    · exact (hown2.lt x hx).2
  · intro p hp
    rcases List.mem_append.1 hp with hp | hp
    · exact hB.data p hp
    · simp at hp; subst hp; rfl
  · intro p hp
    rcases List.mem_append.1 hp with hp | hp
    · exact hB.short p hp
    · simp at hp; subst hp; exact hs
set_option maxHeartbeats 1000000 in
theorem rsend_any {K : Nat → Prop} {w : World} {c : Nat} {l : List (Int × List Nat)} (h : RBag w K c l) (hl2 : l.length ≤ 200) (to : Int) {y : Value} {s : List Nat} (hy : Byt w y s) (hs : s.length < 1000000) :
    Calls Try.prog 18 #[.pointer (some ⟨c, 0, none⟩), .int .i64 to, y] w fun e w' => e = .returned (.bool (okSend to l.length)) ∧
      ∃ K', RBag w' K' c (if okSend to l.length then l ++ [(to, s)] else l) ∧ Fr K w w' ∧ ∀ x, K' x → K x ∨ w.heap.size ≤ x := by
  have H := Lib.hid h
  obtain ⟨v, ps, h0, rfl⟩ := h
  have hl : (cont ps).length = ps.length := by simp [cont]
  rw [hl] at hl2 ⊢
  obtain ⟨A, cap, rfl, h1, h2, h3⟩ := h0.core.shape
  have c0 : w.cell? ⟨c, 0, none⟩ = some (.slice A ps.length cap) := blk_cell h0.core.blk rfl
  by_cases hok : 0 ≤ to ∧ to ≤ 8 ∧ ps.length < 200
  · obtain ⟨t1, t2, t3⟩ := hok
    have hk : okSend to ps.length = true := by unfold okSend; simp; omega
    rw [hk]
    have HY := Lib.hid hy
    have H0 := Lib.hid h0
    clear hk h3 h0 hy H
    generalize hn : ps.length = n at *
    have HN := Lib.hid hn
    clear hn
    have hne : ((n : Int) == 200) = false := by simp; omega
    go_enter Try.func18, Try.ntmps18
    go_wp2_with fail
    refine wp_region_any (by kernel_rfl) ?_
    change wpAny _ _ _ _ _ _ _ (World.drew w)
    have c0' : w.drew.cell? ⟨c, 0, none⟩ = some (.slice A n cap) := c0
    have hb0 : Below w.heap.size w w.drew := (Below.refl _ _).drew
    have HB := Lib.hid (H0.out.fr (S := fun _ => False) (Fr.of_below hb0) fun _ _ h => h)
    have HY2 := Lib.hid (HY.out.below hb0)
    have HF := Lib.hid (Fr.of_below (S := K) hb0)
    have hwd : w.heap.size ≤ w.drew.heap.size := Nat.le_refl _
    have hcw : c < w.drew.heap.size := HB.out.lt c HB.out.kc
    clear c0 hb0 H0 HY
    generalize w.drew = wd at *
    refine wpAny_take (i := 0) (v := .pointer (some ⟨c, 0, none⟩)) rfl (by kernel_rfl) (by kernel_rfl) (by kernel_rfl) (fun _ _ _ h => h) (Or.inl ⟨by rfl, fun w => by go_simp⟩) ?_
    refine wpAny_take (i := 1) (v := .pointer (some ⟨c, 0, none⟩)) rfl (by kernel_rfl) (by kernel_rfl) (by kernel_rfl) (fun _ _ _ h => h) (Or.inl ⟨by rfl, fun w => by go_simp⟩) ?_
    refine wpAny_take (i := 2) (v := .pointer (some ⟨c, 0, none⟩)) rfl (by kernel_rfl) (by kernel_rfl) (by kernel_rfl) (fun _ _ _ h => h) (Or.inl ⟨by rfl, fun w => by go_simp⟩) ?_
    refine wpAny_take (i := 3) (v := .pointer (some ⟨c, 0, none⟩)) rfl (by kernel_rfl) (by kernel_rfl) (by kernel_rfl) (fun _ _ _ h => h) (Or.inl ⟨by rfl, fun w => by go_simp⟩) ?_
    refine wpAny_take (i := 5) (v := .int .i64 to) rfl (by kernel_rfl) (by kernel_rfl) (by kernel_rfl) (fun _ _ _ h => h) (Or.inl ⟨by rfl, fun w => by go_simp⟩) ?_
    refine wpAny_take (i := 6) (v := y) rfl (by kernel_rfl) (by kernel_rfl) (by kernel_rfl) (fun _ _ _ h => h) (Or.inl ⟨by rfl, fun w => by go_simp⟩) ?_
    refine wpAny_takeIf (i := 4) (S := fun w' => w'.cell? ⟨c, 0, none⟩ = some (.slice A n cap)) (v := .slice A n cap) rfl (by kernel_rfl) (by kernel_rfl) (by kernel_rfl) (fun _ _ _ h => h) (Or.inl ⟨by rfl, fun w hS => by go_simp⟩) c0' ?_
    have hrow := HB.out.core.row
    rw [HN.out] at hrow
    have hstr := run_str HY2.out
    refine wpAnyB_one 7 _ (by kernel_rfl) rfl rfl (fun K hK => ?_)
    go_simp
    refine hK _ _ (fun _ => c0') ?_
    clear hK K
    refine wpAnyB_one 8 _ (by kernel_rfl) rfl rfl (fun K hK => ?_)
    go_simp
    refine hK _ _ (fun _ => c0') ?_
    clear hK K
    refine wpAnyB_one 9 _ (by kernel_rfl) rfl rfl (fun K hK => ?_)
    go_simp
    have c2 : ∀ o, (wd.alloc o).cell? ⟨c, 0, none⟩ = some (.slice A n cap) := fun o => blk_cell (blk_alloc HB.out.core.blk) rfl
    refine hK _ _ (fun _ => c2 _) ?_
    clear hK K
    refine wpAnyB_one 10 _ (by kernel_rfl) rfl rfl (fun K hK => ?_)
    refine wp_app2 (v := .slice A n cap) (n := n) (xs := flat ps) (u1 := .int .i64 to) (u2 := .string (str s)) 36 57 _ 24 Try.underlying36 info57 rfl (by decide) _ _ rfl rfl hrow rfl rfl rfl (by omega) ?_
    intro v' w' hown' hgr' hat'
    obtain ⟨A', cap', rfl⟩ : ∃ A' cap', v' = .slice A' (n + 1) cap' := by
      rcases hown'.2 with ⟨_, h0⟩ | ⟨g, cap, cur, e, _⟩
      · omega
      · exact ⟨_, _, e⟩
    refine hK _ _ (fun h => by cases (show true = false from h)) ?_
    clear hK K
    refine wpAnyB_one 11 _ (by kernel_rfl) rfl rfl (fun K hK => ?_)
    go_simp
    refine hK _ _ (fun h => by cases (show true = false from h)) ?_
    clear hK K
    refine wpAnyB_one 12 _ (by kernel_rfl) rfl rfl (fun K hK => ?_)
    go_simp
    refine hK _ _ (fun h => by cases (show true = false from h)) ?_
    clear hK K
    have hp := HB.out.pushed (to := to) (s := s) hgr' (by rw [HN.out]; exact hown') hat' hs
    have hb3 : w'.heap[c]? = some (.cells #[.slice A n cap] 38 (0, 0)) := (Fr.of_grown (S := fun x => Value.ownBlock (.slice A n cap) = some x) hgr' fun b hb => hb).blk (fun e => HB.out.core.ne e) HB.out.core.blk
    have c3 : w'.cell? ⟨c, 0, none⟩ = some (.slice A n cap) := blk_cell hb3 rfl
    have f3 : w'.frozen? ⟨c, 0, none⟩ = false := frozen_of_row _ _ _ _ _ hb3
    refine wpAnyB_one 13 _ (by kernel_rfl) rfl rfl (fun K hK => ?_)
    go_simp
    refine hK _ _ (fun h => by cases (show true = false from h)) ?_
    clear hK K
    refine wpAnyB_done (by kernel_rfl) ?_ _
    go_wp2
    go_ret
    refine ⟨rfl, _, ⟨_, _, hp.1, by simp [cont]⟩, HF.out.trans hp.2, ?_⟩
    rintro x (hx | hx)
    · exact .inl hx
    · rcases hat' with h | ⟨b, h, hb⟩
      · exact .inl (HB.out.kv x (by rw [← h]; exact hx))
      · rw [h] at hx
        injection hx with hx
        exact .inr (by omega)
  · have hk : okSend to ps.length = false := by unfold okSend; simp; omega
    rw [hk]
    clear h0 h3 hy hk
    generalize hn : ps.length = n at *
    have HN := Lib.hid hn
    clear hn
    have hor : to < 0 ∨ (0 ≤ to ∧ 8 < to) ∨ (0 ≤ to ∧ to ≤ 8 ∧ n = 200) := by omega
    clear hok
    rcases hor with k1 | ⟨k1, k2⟩ | ⟨k1, k2, rfl⟩
    all_goals
      go_enter Try.func18, Try.ntmps18
      go_wp2
      go_ret
      exact ⟨rfl, K, H.out, Fr.refl _ _, fun x hx => .inl hx⟩
end Go.Proofs.Ytmicejjlfojncaa
