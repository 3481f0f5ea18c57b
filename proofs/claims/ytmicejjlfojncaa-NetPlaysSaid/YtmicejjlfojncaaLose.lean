/-
  Lose: the packets that go to a node are struck.
-/
import Derived.Test.YtmicejjlfojncaaDelW
import Derived.Test.YtmicejjlfojncaaTake
namespace Go.Proofs.Ytmicejjlfojncaa
open Go.RowKit Go.Deep
/-- What is left of a bag whose packets are filtered in place. -/
theorem Bag0.lost {K : Nat → Prop} {w w' : World} {c g cap : Nat} {node : Int} {cur' : Array Value} {ps : List Pk} (hB : Bag0 w K c (.slice (some ⟨g, 0, none⟩) ps.length cap) ps) (hcap : ps.length ≤ cap) (hm : cap ≤ maxLen)
    (hg : w'.heap[g]? = some (.cells cur' 49 (0, 0))) (hs : cur'.size = cap * 2) (ht : cur'.toList.take ((lef node ps ps.length).length * 2) = flat (lef node ps ps.length)) (hf1 : Fr (fun x => g = x) w w') :
    Bag0 (w'.setCell ⟨c, 0, none⟩ (.slice (some ⟨g, 0, none⟩) (lef node ps ps.length).length cap)) K c (.slice (some ⟨g, 0, none⟩) (lef node ps ps.length).length cap) (lef node ps ps.length) ∧
      Fr K w (w'.setCell ⟨c, 0, none⟩ (.slice (some ⟨g, 0, none⟩) (lef node ps ps.length).length cap)) := by
  have hne : g ≠ c := fun e => hB.core.ne (by rw [e]; rfl)
  have hfS : ∀ {S : Nat → Prop}, S g → S c → Fr S w (w'.setCell ⟨c, 0, none⟩ (.slice (some ⟨g, 0, none⟩) (lef node ps ps.length).length cap)) := fun h1 h2 => (hf1.mono fun x hx => by subst hx; exact h1).setCell (.inl h2) _
  have hK := hfS (S := K) (hB.kv g rfl) hB.kc
  have hmem : ∀ p ∈ lef node ps ps.length, p ∈ ps := fun p hp => List.mem_of_mem_take (List.mem_filter.1 hp).1
  have hll := lef_len node ps ps.length
  refine ⟨⟨⟨?_, ?_, fun e => hne (by injection e)⟩, hB.kc, fun b hb => hB.kv b hb, fun x hx => Nat.lt_of_lt_of_le (hB.lt x hx) hK.size, fun p hp => ⟨?_, fun b hb => ?_⟩, fun p hp => hB.short p (hmem p hp)⟩, hK⟩
  · have hb1 : w'.heap[c]? = some (.cells #[.slice (some ⟨g, 0, none⟩) ps.length cap] 46 (0, 0)) := hf1.blk hne hB.core.blk
    rw [setRow_cell w' c _ _ _ 0 hb1]
    rfl
  · exact ⟨flat_len _, .inr ⟨g, cap, cur', rfl, Nat.zero_le _, blk_set_other hg hne, by omega, hm, hs, ht⟩⟩
  · exact (hB.data p (hmem p hp)).1.fr (hfS (S := fun x => x = g ∨ x = c) (.inl rfl) (.inr rfl)) fun b hb hS => by
      obtain ⟨_, h2, h3⟩ := (hB.data p (hmem p hp)).2 b hb
      rcases hS with hS | hS
      · exact h3 (by rw [hS]; rfl)
      · exact h2 hS
  · exact (hB.data p (hmem p hp)).2 b hb
theorem cont_lef (node : Int) (ps : List Pk) : cont (lef node ps ps.length) = (cont ps).filter fun p => p.1 != node := by
  unfold cont lef
  rw [List.take_length, List.filter_map]
  rfl
set_option maxRecDepth 100000 in
set_option maxHeartbeats 2000000 in
theorem lose_any {K : Nat → Prop} {w : World} {c : Nat} {l : List (Int × List Nat)} (h : Bag w K c l) (hl : l.length ≤ 200) (node : Int) :
    Calls Try.prog 21 #[.pointer (some ⟨c, 0, none⟩), .int .i64 node] w fun e w' => e = .returned (.tuple #[]) ∧ Bag w' K c (l.filter fun p => p.1 != node) ∧ Fr K w w' := by
  obtain ⟨v, ps, h0, rfl⟩ := h
  have hcl : (cont ps).length = ps.length := by simp [cont]
  rw [hcl] at hl
  have H0 := Lib.hid h0
  have c0 : w.cell? ⟨c, 0, none⟩ = some v := blk_cell h0.core.blk rfl
  have hcw : c < w.heap.size := h0.lt c h0.kc
  have HL := Lib.hid hl
  clear h0 hl hcl
  obtain ⟨V, hV⟩ : ∃ V, V = v := ⟨v, rfl⟩
  go_enter Try.func21, Try.ntmps21
  go_wp2_with fail
  refine wp_region_any (by kernel_rfl) ?_
  change wpAny _ _ _ _ _ _ _ (World.drew w)
  have c0' : w.drew.cell? ⟨c, 0, none⟩ = some v := c0
  have hb0 : Below w.heap.size w w.drew := (Below.refl _ _).drew
  have HB := Lib.hid (H0.out.fr (S := fun _ => False) (Fr.of_below hb0) fun _ _ h => h)
  have HF := Lib.hid (Fr.of_below (S := K) hb0)
  have hcd : c < w.drew.heap.size := hcw
  clear c0 hb0 H0
  generalize w.drew = wd at *
  refine wpAny_take (i := 0) (v := .pointer (some ⟨c, 0, none⟩)) rfl (by kernel_rfl) (by kernel_rfl) (by kernel_rfl) (fun _ _ _ h => h) (Or.inl ⟨by rfl, fun w => by go_simp⟩) ?_
  refine wpAny_take (i := 1) (v := .pointer (some ⟨c, 0, none⟩)) rfl (by kernel_rfl) (by kernel_rfl) (by kernel_rfl) (fun _ _ _ h => h) (Or.inl ⟨by rfl, fun w => by go_simp⟩) ?_
  refine wpAny_take (i := 2) (v := .pointer (some ⟨c, 0, none⟩)) rfl (by kernel_rfl) (by kernel_rfl) (by kernel_rfl) (fun _ _ _ h => h) (Or.inl ⟨by rfl, fun w => by go_simp⟩) ?_
  refine wpAny_take (i := 3) (v := .pointer (some ⟨c, 0, none⟩)) rfl (by kernel_rfl) (by kernel_rfl) (by kernel_rfl) (fun _ _ _ h => h) (Or.inl ⟨by rfl, fun w => by go_simp⟩) ?_
  refine wpAny_take (i := 5) (v := .int .i64 node) rfl (by kernel_rfl) (by kernel_rfl) (by kernel_rfl) (fun _ _ _ h => h) (Or.inl ⟨by rfl, fun w => by go_simp⟩) ?_
  refine wpAny_takeIf (i := 4) (S := fun w' => w'.cell? ⟨c, 0, none⟩ = some v) (v := v) rfl (by kernel_rfl) (by kernel_rfl) (by kernel_rfl) (fun _ _ _ h => h) (Or.inl ⟨by rfl, fun w hS => by go_simp⟩) c0' ?_
  refine wpAnyB_one 6 _ (by kernel_rfl) rfl rfl (fun K hK => ?_)
  go_simp
  refine (goes_any node wd).mono ?_
  rintro e w1 ⟨rfl, rfl⟩
  have c1 : ∀ o, (wd.alloc o).cell? ⟨c, 0, none⟩ = some v := fun o => blk_cell (blk_alloc HB.out.core.blk) rfl
  refine hK _ _ (fun _ => c1 _) ?_
  clear hK K
  have hbn := heap_alloc_new wd (.cells #[.int .i64 node] 3)
  have hB1 := HB.out.fr (S := fun _ => False) (Fr.of_below ((Below.refl _ _).alloc (Nat.le_refl _) (.cells #[.int .i64 node] 3))) fun _ _ h => h
  have HF1 := Lib.hid (HF.out.trans (Fr.of_below ((Below.refl _ _).alloc (Nat.le_refl _) (.cells #[.int .i64 node] 3))))
  have hltd := HB.out.lt
  have hbs : wd.heap.size < (wd.alloc (.cells #[.int .i64 node] 3)).heap.size := by simp
  have hcd1 : c < (wd.alloc (.cells #[.int .i64 node] 3)).heap.size := by omega
  generalize wd.heap.size = b at *
  clear c1 HB HF hcd c0'
  generalize wd.alloc (.cells #[.int .i64 node] 3) = W1 at *
  refine wpAnyB_one 7 _ (by kernel_rfl) rfl rfl (fun K hK => ?_)
  go_simp
  have hrow := hB1.core.row
  have hblk := hB1.core.blk
  have HB1 := Lib.hid hB1
  clear hB1
  rcases hrow.2 with ⟨e0, hz⟩ | ⟨g, cap, cur, e0, _, hg, hcap, hm, hsz, htk⟩
  · clear hrow
    subst e0
    obtain rfl : ps = [] := List.length_eq_zero_iff.1 hz
    refine (delF_none hbn).mono ?_
    rintro e w2 ⟨rfl, hb2⟩
    refine hK _ _ (fun h => by cases (show true = false from h)) ?_
    clear hK K
    have hblk2 := blk_below hb2 hcd1 hblk
    have c3 : w2.cell? ⟨c, 0, none⟩ = some (.slice none 0 0) := blk_cell hblk2 rfl
    have f3 : w2.frozen? ⟨c, 0, none⟩ = false := frozen_of_row _ _ _ _ _ hblk2
    have HB2 := Lib.hid (And.intro (HB1.out.fr (S := fun _ => False) (Fr.of_below hb2) fun _ _ h => h) (HF1.out.trans (Fr.of_below (S := K) hb2)))
    refine wpAnyB_one 8 _ (by kernel_rfl) rfl rfl (fun K hK => ?_)
    go_simp
    refine hK _ _ (fun h => by cases (show true = false from h)) ?_
    clear hK K
    refine wpAnyB_one 9 _ (by kernel_rfl) rfl rfl (fun K hK => ?_)
    go_simp
    refine hK _ _ (fun h => by cases (show true = false from h)) ?_
    clear hK K
    refine wpAnyB_one 10 _ (by kernel_rfl) rfl rfl (fun K hK => ?_)
    go_simp
    refine hK _ _ (fun h => by cases (show true = false from h)) ?_
    clear hK K
    refine wpAnyB_done (by kernel_rfl) ?_ _
    go_end0
    refine ⟨rfl, ⟨_, [], ⟨⟨?_, World.ownsRow_nil _ _ _ _, by simp [Value.ownBlock]⟩, HB2.out.1.kc, fun _ h => by simp [Value.ownBlock] at h, fun x hx => ?_, fun _ h => by simp at h, fun _ h => by simp at h⟩, rfl⟩, HB2.out.2.setCell (.inl HB2.out.1.kc) _⟩
    · rw [setRow_cell _ _ _ _ _ _ HB2.out.1.core.blk]; rfl
    · have := HB2.out.1.lt x hx
      simpa [World.setCell] using this
  · clear hrow
    subst e0
    have hne : g ≠ c := fun e => HB1.out.core.ne (by rw [e]; rfl)
    have hbg : b ≠ g := fun e => by have := hltd g (HB1.out.kv g rfl); omega
    refine (delF_any (node := node) hg hsz hcap htk rfl (by have := HL.out; omega) hbg hbn (fun p hp => one_of' (HB1.out.data p hp).1)).mono ?_
    rintro e w2 ⟨cur', rfl, hg2, hs2, ht2, hgr⟩
    refine hK _ _ (fun h => by cases (show true = false from h)) ?_
    clear hK K
    have hf1 : Fr (fun x => g = x) W1 w2 := Fr.of_grown hgr fun b hb => by injection hb
    have hblk2 := hf1.blk hne hblk
    have c3 : w2.cell? ⟨c, 0, none⟩ = some (.slice (some ⟨g, 0, none⟩) ps.length cap) := blk_cell hblk2 rfl
    have f3 : w2.frozen? ⟨c, 0, none⟩ = false := frozen_of_row _ _ _ _ _ hblk2
    have HLo := Lib.hid (Bag0.lost HB1.out hcap hm hg2 hs2 ht2 hf1)
    clear hg2 hs2 ht2 hgr hf1 hblk2 hg hsz htk hblk
    refine wpAnyB_one 8 _ (by kernel_rfl) rfl rfl (fun K hK => ?_)
    go_simp
    refine hK _ _ (fun h => by cases (show true = false from h)) ?_
    clear hK K
    refine wpAnyB_one 9 _ (by kernel_rfl) rfl rfl (fun K hK => ?_)
    go_simp
    refine hK _ _ (fun h => by cases (show true = false from h)) ?_
    clear hK K
    refine wpAnyB_one 10 _ (by kernel_rfl) rfl rfl (fun K hK => ?_)
    go_simp
    refine hK _ _ (fun h => by cases (show true = false from h)) ?_
    clear hK K
    refine wpAnyB_done (by kernel_rfl) ?_ _
    go_end0
    exact ⟨rfl, ⟨_, _, HLo.out.1, cont_lef node ps⟩, HF1.out.trans HLo.out.2⟩
end Go.Proofs.Ytmicejjlfojncaa
