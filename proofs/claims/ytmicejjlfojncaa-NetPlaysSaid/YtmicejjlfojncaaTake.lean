/-
  Take: a packet told, and taken out or left.
-/
import Derived.Test.YtmicejjlfojncaaDrop
namespace Go.Proofs.Ytmicejjlfojncaa
open Go.RowKit Go.Deep
theorem one_of' {w : World} {p : Pk} (h : Byt w p.v p.s) : ∃ A cap, p.v = .slice A p.s.length cap := by
  obtain ⟨A, cap, h, _⟩ := h
  exact ⟨A, cap, h⟩
set_option maxRecDepth 100000 in
set_option maxHeartbeats 4000000 in
theorem take_in {K : Nat → Prop} {w : World} {c : Nat} {l : List (Int × List Nat)} (h : Bag w K c l) (i : Nat) (hi : i < l.length) (stay : Bool) :
    Calls Try.prog 8 #[.pointer (some ⟨c, 0, none⟩), .int .i64 i, .bool stay] w fun e w' => ∃ v, e = .returned (.tuple #[.int .i64 (l.getD i (0, [])).1, v, .bool true]) ∧ Byt w' v (l.getD i (0, [])).2 ∧ (∀ b, v.ownBlock = some b → w.heap.size ≤ b ∧ b < w'.heap.size) ∧
      Bag w' K c (if stay then l else l.eraseIdx i) ∧ Fr K w w' ∧ w'.ownsRow w.heap.size 5 1 v (l.getD i (0, [])).2.length (bl (l.getD i (0, [])).2) := by
  have HIS := Lib.hid (is_any h i)
  have hin' : decide (0 ≤ (i : Int) ∧ (i : Int) < (l.length : Int)) = true := by simp; omega
  rw [hin'] at HIS
  obtain ⟨v, ps, h0, rfl⟩ := h
  have hcl : (cont ps).length = ps.length := by simp [cont]
  rw [hcl] at hi
  have hbel := fun o => (Below.refl w.heap.size w).alloc (Nat.le_refl _) o
  have hal := fun o => h0.fr (S := fun _ => False) (Fr.of_below (hbel o)) fun _ _ h => h
  have hdr := fun o => drop_in (hal o) i hi
  have HDR := Lib.hid hdr
  have HAL := Lib.hid hal
  obtain ⟨A, cap, rfl, h1, h2, h3⟩ := h0.core.shape
  have c0 : w.cell? ⟨c, 0, none⟩ = some (.slice A ps.length cap) := blk_cell h0.core.blk rfl
  obtain ⟨g, rfl, hgc, hglt, hrow⟩ := h3 (by omega)
  have hp : ps[i]? = some ps[i] := by simp [hi]
  have hmem : ps[i] ∈ ps := List.getElem_mem hi
  rw [cont_get ps i _ hp]
  generalize ps[i] = p at *
  have r0 := hrow (i * 2) (by omega)
  have r1 := hrow (i * 2 + 1) (by omega)
  rw [(flat_get ps i p hp).1] at r0
  rw [(flat_get ps i p hp).2] at r1
  have hby := (h0.data p hmem).1
  have hsh := h0.short p hmem
  have hkb := (h0.data p hmem).2
  have hkv := h0.kv
  have hkc := h0.kc
  have hltc := h0.lt c h0.kc
  obtain ⟨A2, cap2, hpv⟩ := one_of' hby
  rw [hpv] at r1 hby hkb
  obtain ⟨pt, pv, psb⟩ := p
  simp only at r0 r1 hby hsh hkb ⊢
  have HBY := Lib.hid hby
  have HKB := Lib.hid hkb
  have HSH := Lib.hid hsh
  have HKV := Lib.hid (And.intro hkv hkc)
  have HCE := Lib.hid (cont_erase ps i)
  clear hin' hdr hcl hrow hp hmem hby hsh hkb hkv hkc hpv h0 h3 hbel hal
  generalize hn : ps.length = n at *
  clear hn
  cases stay
  · go_enter Try.func8, Try.ntmps8
    go_wp2_with (go_at_call 15; refine (HIS.out).mono ?_; rintro e w7 ⟨rfl, rfl⟩)
    refine (HDR.out _).mono ?_
    rintro e W ⟨rfl, ⟨v', hB1⟩, hF1⟩
    have hfw : Fr (fun x => Value.ownBlock (.slice (some ⟨g, 0, none⟩) n cap) = some x ∨ x = c) w W := (Fr.of_below ((Below.refl w.heap.size w).alloc (Nat.le_refl _) _)).trans hF1
    have HW := Lib.hid (And.intro (hF1.blk (b := w.heap.size) (fun hx => by
      rcases hx with hx | hx
      · injection hx with hx
        have : w.heap.size = g := hx.symm
        omega
      · omega) (heap_alloc_new w _)) (And.intro (HBY.out.fr hfw fun b hb hx => by
        rcases hx with hx | hx
        · exact (HKB.out b hb).2.2 hx
        · exact (HKB.out b hb).2.1 hx) (And.intro (show Bag W K c ((cont ps).eraseIdx i) from ⟨_, _, hB1, HCE.out⟩) (hfw.mono fun x hx => by
          rcases hx with hx | hx
          · exact HKV.out.1 x hx
          · rw [hx]; exact HKV.out.2))))
    clear hF1 hB1 hfw HDR HAL
    go_wp2_with fail
    refine wp_region_any (by kernel_rfl) ?_
    change wpAny _ _ _ _ _ _ _ (World.drew W)
    have hbd : W.drew.heap[w.heap.size]? = some (.cells #[.int .i64 pt, .slice A2 psb.length cap2] 49 (0, 0)) := HW.out.1
    have hyd : Byt W.drew (.slice A2 psb.length cap2) psb := HW.out.2.1
    have hgd : Bag W.drew K c ((cont ps).eraseIdx i) := HW.out.2.2.1.fr (S := fun _ => False) (Fr.of_below (Below.refl _ _).drew) fun _ _ h => h
    have hfd : Fr K w W.drew := HW.out.2.2.2.drew
    clear HW
    generalize W.drew = wd at *
    have e0 : wd.cell? ⟨w.heap.size, 0, none⟩ = some (.int .i64 pt) := blk_cell hbd rfl
    have e1 : wd.cell? ⟨w.heap.size, 1, none⟩ = some (.slice A2 psb.length cap2) := blk_cell hbd rfl
    have hbl := blk_lt hbd
    refine wpAny_take (i := 0) (v := .pointer (some ⟨w.heap.size, 0, none⟩)) rfl (by kernel_rfl) (by kernel_rfl) (by kernel_rfl) (fun _ _ _ h => h) (Or.inl ⟨by rfl, fun w => by go_simp⟩) ?_
    refine wpAny_take (i := 2) (v := .pointer (some ⟨w.heap.size, 1, none⟩)) rfl (by kernel_rfl) (by kernel_rfl) (by kernel_rfl) (fun _ _ _ h => h) (Or.inl ⟨by rfl, fun w => by go_simp⟩) ?_
    refine wpAny_takeIf (i := 1) (S := fun w' => w'.cell? ⟨w.heap.size, 0, none⟩ = some (.int .i64 pt)) (v := .int .i64 pt) rfl (by kernel_rfl) (by kernel_rfl) (by kernel_rfl) (fun _ _ _ h => h) (Or.inl ⟨by rfl, fun w hS => by go_simp⟩) e0 ?_
    refine wpAnyB_one 3 _ (by kernel_rfl) rfl rfl (fun K hK => ?_)
    go_simp
    refine hK _ _ (fun _ => e0) ?_
    clear hK K
    refine wpAnyB_one 4 _ (by kernel_rfl) rfl rfl (fun K hK => ?_)
    go_simp
    refine (clone_any wd hyd HSH.out).mono ?_
    rintro e w9 ⟨y', rfl, hy', hyb, hb9, how9⟩
    refine hK _ _ (fun _ => (hb9.cell (p := ⟨w.heap.size, 0, none⟩) hbl).trans e0) ?_
    clear hK K
    have hfs := hfd.size
    have HEND := Lib.hid (And.intro hy' (And.intro (fun b hb => And.intro (Nat.le_trans hfs (hyb b hb).1) (hyb b hb).2) (And.intro (hgd.below hb9) (And.intro (hfd.trans (Fr.of_below hb9)) (own_mono how9 hfs)))))
    obtain ⟨A3, cap3, rfl, _⟩ := hy'
    refine wpAnyB_one 5 _ (by kernel_rfl) rfl rfl (fun K hK => ?_)
    go_simp
    refine hK _ _ (fun h => by cases (show true = false from h)) ?_
    clear hK K
    refine wpAnyB_one 6 _ (by kernel_rfl) rfl rfl (fun K hK => ?_)
    go_simp
    refine hK _ _ (fun h => by cases (show true = false from h)) ?_
    clear hK K
    refine wpAnyB_one 7 _ (by kernel_rfl) rfl rfl (fun K hK => ?_)
    go_simp
    refine hK _ _ (fun h => by cases (show true = false from h)) ?_
    clear hK K
    refine wpAnyB_done (by kernel_rfl) ?_ _
    go_wp2
    go_ret3
    exact ⟨_, rfl, HEND.out.1, HEND.out.2.1, HEND.out.2.2.1, HEND.out.2.2.2.1, HEND.out.2.2.2.2⟩
  · go_enter Try.func8, Try.ntmps8
    go_wp2_with (go_at_call 15; refine (HIS.out).mono ?_; rintro e w7 ⟨rfl, rfl⟩)
    have HW := Lib.hid (And.intro (heap_alloc_new w (.cells #[.int .i64 pt, .slice A2 psb.length cap2] 49)) (And.intro (HBY.out.below ((Below.refl w.heap.size w).alloc (Nat.le_refl _) (.cells #[.int .i64 pt, .slice A2 psb.length cap2] 49))) (And.intro (show Bag (w.alloc (.cells #[.int .i64 pt, .slice A2 psb.length cap2] 49)) K c (cont ps) from ⟨_, _, HAL.out _, rfl⟩) (Fr.of_below (S := K) ((Below.refl w.heap.size w).alloc (Nat.le_refl _) (.cells #[.int .i64 pt, .slice A2 psb.length cap2] 49))))))
    clear HDR HAL
    generalize w.alloc (.cells #[.int .i64 pt, .slice A2 psb.length cap2] 49) = W at *
    refine wp_region_any (by kernel_rfl) ?_
    change wpAny _ _ _ _ _ _ _ (World.drew W)
    have hbd : W.drew.heap[w.heap.size]? = some (.cells #[.int .i64 pt, .slice A2 psb.length cap2] 49 (0, 0)) := HW.out.1
    have hyd : Byt W.drew (.slice A2 psb.length cap2) psb := HW.out.2.1
    have hgd : Bag W.drew K c (cont ps) := HW.out.2.2.1.fr (S := fun _ => False) (Fr.of_below (Below.refl _ _).drew) fun _ _ h => h
    have hfd : Fr K w W.drew := HW.out.2.2.2.drew
    clear HW
    generalize W.drew = wd at *
    have e0 : wd.cell? ⟨w.heap.size, 0, none⟩ = some (.int .i64 pt) := blk_cell hbd rfl
    have e1 : wd.cell? ⟨w.heap.size, 1, none⟩ = some (.slice A2 psb.length cap2) := blk_cell hbd rfl
    have hbl := blk_lt hbd
    refine wpAny_take (i := 0) (v := .pointer (some ⟨w.heap.size, 0, none⟩)) rfl (by kernel_rfl) (by kernel_rfl) (by kernel_rfl) (fun _ _ _ h => h) (Or.inl ⟨by rfl, fun w => by go_simp⟩) ?_
    refine wpAny_take (i := 2) (v := .pointer (some ⟨w.heap.size, 1, none⟩)) rfl (by kernel_rfl) (by kernel_rfl) (by kernel_rfl) (fun _ _ _ h => h) (Or.inl ⟨by rfl, fun w => by go_simp⟩) ?_
    refine wpAny_takeIf (i := 1) (S := fun w' => w'.cell? ⟨w.heap.size, 0, none⟩ = some (.int .i64 pt)) (v := .int .i64 pt) rfl (by kernel_rfl) (by kernel_rfl) (by kernel_rfl) (fun _ _ _ h => h) (Or.inl ⟨by rfl, fun w hS => by go_simp⟩) e0 ?_
    refine wpAnyB_one 3 _ (by kernel_rfl) rfl rfl (fun K hK => ?_)
    go_simp
    refine hK _ _ (fun _ => e0) ?_
    clear hK K
    refine wpAnyB_one 4 _ (by kernel_rfl) rfl rfl (fun K hK => ?_)
    go_simp
    refine (clone_any wd hyd HSH.out).mono ?_
    rintro e w9 ⟨y', rfl, hy', hyb, hb9, how9⟩
    refine hK _ _ (fun _ => (hb9.cell (p := ⟨w.heap.size, 0, none⟩) hbl).trans e0) ?_
    clear hK K
    have hfs := hfd.size
    have HEND := Lib.hid (And.intro hy' (And.intro (fun b hb => And.intro (Nat.le_trans hfs (hyb b hb).1) (hyb b hb).2) (And.intro (hgd.below hb9) (And.intro (hfd.trans (Fr.of_below hb9)) (own_mono how9 hfs)))))
    obtain ⟨A3, cap3, rfl, _⟩ := hy'
    refine wpAnyB_one 5 _ (by kernel_rfl) rfl rfl (fun K hK => ?_)
    go_simp
    refine hK _ _ (fun h => by cases (show true = false from h)) ?_
    clear hK K
    refine wpAnyB_one 6 _ (by kernel_rfl) rfl rfl (fun K hK => ?_)
    go_simp
    refine hK _ _ (fun h => by cases (show true = false from h)) ?_
    clear hK K
    refine wpAnyB_one 7 _ (by kernel_rfl) rfl rfl (fun K hK => ?_)
    go_simp
    refine hK _ _ (fun h => by cases (show true = false from h)) ?_
    clear hK K
    refine wpAnyB_done (by kernel_rfl) ?_ _
    go_wp2
    go_ret3
    exact ⟨_, rfl, HEND.out.1, HEND.out.2.1, HEND.out.2.2.1, HEND.out.2.2.2.1, HEND.out.2.2.2.2⟩
theorem take_out {K : Nat → Prop} {w : World} {c : Nat} {l : List (Int × List Nat)} (h : Bag w K c l) (k : Int) (hk : ¬ (0 ≤ k ∧ k < l.length)) (stay : Bool) :
    Calls Try.prog 8 #[.pointer (some ⟨c, 0, none⟩), .int .i64 k, .bool stay] w fun e w' => e = .returned (.tuple #[.int .i64 0, .slice none 0 0, .bool false]) ∧ w = w' := by
  have HIS := Lib.hid (is_any h k)
  have hin' : decide (0 ≤ k ∧ k < (l.length : Int)) = false := by simpa using hk
  rw [hin'] at HIS
  clear h hin' hk
  go_enter Try.func8, Try.ntmps8
  go_wp2_with (go_at_call 15; refine (HIS.out).mono ?_; rintro e w7 ⟨rfl, rfl⟩)
  go_ret3
  exact ⟨rfl, rfl⟩
end Go.Proofs.Ytmicejjlfojncaa
