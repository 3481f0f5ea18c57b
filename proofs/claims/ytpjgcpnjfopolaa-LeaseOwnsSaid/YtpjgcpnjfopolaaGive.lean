/-
  Give.
-/
import Derived.Test.YtpjgcpnjfopolaaTab
import Derived.OrdersHeld
namespace Go.Proofs.Ytpjgcpnjfopolaa
open Go.RowKit Go.Deep
section
variable {P : Program} {md : Region.Mode} {ops : Array Oper} {Q : Exit → Act → World → Prop} {S : World → Prop}
/-- One operation alone may come up. -/
theorem wpAnyH_one {fuel : Nat} {listed : Array Bool} {a : Act} {w : World} (j : Nat) (o : Oper) (hr : Region.ready md ops listed = [j]) (ho : ops[j]? = some o)
    (hw : Region.wanted o (yielded ops a.tmps) = true) (h : ∀ K : Act → World → Prop, (∀ a w, S w → wpAnyH P md ops Q S fuel (listed.setIfInBounds j true) a w → K a w) → o.wp P a w K Q) : wpAnyH P md ops Q S (fuel + 1) listed a w := by
  refine wpAnyH_all hr (by simp) fun k hk => ?_
  obtain rfl : k = j := by simpa using hk
  unfold wpOp
  simp only [ho]
  rw [if_pos hw]
  exact .inl (h _ fun a' w' h1 h2 => ⟨h1, h2⟩)
end
def Tab.give (s : Tab) (c i : Int) : Tab := { s with g := upd s.g i c none }
theorem Tab.Ok.give {s : Tab} (h : s.Ok) (c i : Int) : (s.give c i).Ok := ⟨fun i' c' p hp => by
  unfold Tab.give upd at hp
  simp only at hp
  split at hp
  · cases hp
  · exact h.g i' c' p hp, h.wc, h.z⟩
theorem Tab.give_none {s : Tab} {c i : Int} (h : s.g i c = none) : s.give c i = s := by
  unfold Tab.give
  have : upd s.g i c none = s.g := by
    funext i' c'
    unfold upd
    split
    · rename_i e; rw [e.1, e.2, h]
    · rfl
  rw [this]
set_option maxRecDepth 100000 in
set_option maxHeartbeats 1000000 in
theorem give_any {w : World} {b m : Nat} {s : Tab} (h : TP w b m s) (c i : Int) : Calls Try.prog 21 #[.pointer (some ⟨b, 0, none⟩), .int .i64 c, .int .i64 i] w fun e w' =>
    e = .returned (.int .i64 (if (s.g i c).isSome then 0 else 10)) ∧ TP w' b m (s.give c i) ∧ Fr (fun x => x = b ∨ x = m) w w' := by
  have H := Lib.hid h
  have hlt := h.lt
  obtain ⟨arr, hb, ha⟩ := h.tab
  obtain ⟨es, clock, hm, hr⟩ := h.map
  have HA := Lib.hid (And.intro ha (And.intro hm hr))
  have hb1 : Below w.heap.size w ((w.alloc (.cells #[.int .i64 i, .int .i64 c] 62)).drew) := ((Below.refl _ _).alloc (Nat.le_refl _) _).drew
  have HB1 := Lib.hid hb1
  have HM1 : Hid (MapAt ((w.alloc (.cells #[.int .i64 i, .int .i64 c] 62)).drew) m es clock) := Lib.hid (blk_below (o := .map (es.map Ent.me).toArray clock) hb1 h.lt.2 hm)
  have hbx : ((w.alloc (.cells #[.int .i64 i, .int .i64 c] 62)).drew).heap[w.heap.size]? = some (.cells #[.int .i64 i, .int .i64 c] 62) := heap_alloc_new _ _
  have hbb := blk_below hb1 h.lt.1 hb
  clear hm hr ha hb hb1 h
  generalize hB : w.heap.size = B at *
  go_enter Try.func21, Try.ntmps21
  go_wp2_with fail
  refine wp_region_held (S := fun w' => w'.cell? ⟨b, 0, none⟩ = some (.map (some m)) ∧ w'.cell? ⟨B, 0, none⟩ = some (.int .i64 i) ∧ w'.cell? ⟨B, 1, none⟩ = some (.int .i64 c) ∧ MapAt w' m es clock) (by kernel_rfl) ?_
  change wpAnyH _ _ _ _ _ _ _ _ (World.drew _)
  have HBX := Lib.hid hbx
  have HBB := Lib.hid hbb
  have hS : ((w.alloc (.cells #[.int .i64 i, .int .i64 c] 62)).drew).cell? ⟨b, 0, none⟩ = some (.map (some m)) ∧ ((w.alloc (.cells #[.int .i64 i, .int .i64 c] 62)).drew).cell? ⟨B, 0, none⟩ = some (.int .i64 i) ∧ ((w.alloc (.cells #[.int .i64 i, .int .i64 c] 62)).drew).cell? ⟨B, 1, none⟩ = some (.int .i64 c) ∧ MapAt ((w.alloc (.cells #[.int .i64 i, .int .i64 c] 62)).drew) m es clock :=
    ⟨blk_cell hbb HA.out.1.2.1, blk_cell hbx rfl, blk_cell hbx rfl, HM1.out⟩
  clear hbx hbb
  generalize (w.alloc (.cells #[.int .i64 i, .int .i64 c] 62)).drew = w1 at *
  have HB2 : Hid (Below w.heap.size w w1) := Lib.hid (by rw [hB]; exact HB1.out)
  clear HB1
  refine wpAnyH_take (i := 0) (v := .pointer (some ⟨b, 0, none⟩)) rfl (by kernel_rfl) (by kernel_rfl) (by kernel_rfl) (fun _ _ _ h => h) (Or.inl ⟨by rfl, fun w hS => by go_simp⟩) hS ?_
  refine wpAnyH_take (i := 1) (v := .pointer (some ⟨b, 0, none⟩)) rfl (by kernel_rfl) (by kernel_rfl) (by kernel_rfl) (fun _ _ _ h => h) (Or.inl ⟨by rfl, fun w hS => by go_simp⟩) hS ?_
  refine wpAnyH_take (i := 2) (v := .pointer (some ⟨b, 0, none⟩)) rfl (by kernel_rfl) (by kernel_rfl) (by kernel_rfl) (fun _ _ _ h => h) (Or.inl ⟨by rfl, fun w hS => by go_simp⟩) hS ?_
  refine wpAnyH_take (i := 3) (v := .map (some m)) rfl (by kernel_rfl) (by kernel_rfl) (by kernel_rfl) (fun _ _ _ h => h) (Or.inl ⟨by rfl, fun w hS => by obtain ⟨k1, k2, k3, k4⟩ := hS; clear k4; go_simp⟩) hS ?_
  refine wpAnyH_take (i := 4) (v := .agg #[.int .i64 i, .int .i64 c]) rfl (by kernel_rfl) (by kernel_rfl) (by kernel_rfl) (fun _ _ _ h => h) (Or.inl ⟨by rfl, fun w hS => by obtain ⟨k1, k2, k3, k4⟩ := hS; clear k4; go_simp⟩) hS ?_
  have hS2 : ∀ x, (w1.alloc (.cells x 40)).cell? ⟨b, 0, none⟩ = some (.map (some m)) ∧ (w1.alloc (.cells x 40)).cell? ⟨B, 0, none⟩ = some (.int .i64 i) ∧ (w1.alloc (.cells x 40)).cell? ⟨B, 1, none⟩ = some (.int .i64 c) ∧ MapAt (w1.alloc (.cells x 40)) m es clock := fun x =>
    ⟨blk_cell (blk_alloc HBB.out) HA.out.1.2.1, blk_cell (blk_alloc HBX.out) rfl, blk_cell (blk_alloc HBX.out) rfl, blk_alloc (o := .map (es.map Ent.me).toArray clock) HM1.out⟩
  cases hg : s.g i c with
  | none =>
    have e1 : got s.g i c = .agg #[.int .i64 0, .int .i64 0, .bool false, .int .i64 0] := by unfold got; rw [hg]; rfl
    refine wpAnyH_take (i := 5) (v := .tuple #[.agg #[.int .i64 0, .int .i64 0, .bool false, .int .i64 0], .bool false]) rfl (by kernel_rfl) (by kernel_rfl) (by kernel_rfl) (fun _ _ _ h => h) (Or.inl ⟨by rfl, fun w hS => by have hl := run_look hS.2.2.2 HA.out.2.2 i c; rw [e1, hg] at hl; clear hS; go_simp⟩) hS ?_
    clear e1
    refine wpAnyH_take (i := 6) (v := .tuple #[.agg #[.int .i64 0, .int .i64 0, .bool false, .int .i64 0], .bool false]) rfl (by kernel_rfl) (by kernel_rfl) (by kernel_rfl) (fun _ _ _ h => h) (Or.inl ⟨by rfl, fun w hS => by clear hS; go_simp⟩) hS ?_
    refine wpAnyH_take (i := 7) (v := .agg #[.int .i64 0, .int .i64 0, .bool false, .int .i64 0]) rfl (by kernel_rfl) (by kernel_rfl) (by kernel_rfl) (fun _ _ _ h => h) (Or.inl ⟨by rfl, fun w hS => by clear hS; go_simp⟩) hS ?_
    refine wpAnyH_take (i := 8) (v := .bool false) rfl (by kernel_rfl) (by kernel_rfl) (by kernel_rfl) (fun _ _ _ h => h) (Or.inl ⟨by rfl, fun w hS => by clear hS; go_simp⟩) hS ?_
    refine wpAnyH_one 9 _ (by kernel_rfl) rfl rfl (fun K hK => ?_)
    go_simp
    refine hK _ _ (hS2 _) ?_
    clear hK K
    refine wpAnyH_one 10 _ (by kernel_rfl) rfl rfl (fun K hK => ?_)
    go_simp
    refine hK _ _ (hS2 _) ?_
    clear hK K
    refine wpAnyH_one 11 _ (by kernel_rfl) rfl rfl (fun K hK => ?_)
    go_simp
    refine hK _ _ (hS2 _) ?_
    clear hK K
    refine wpAnyH_done (by kernel_rfl) ?_ _
    go_wp2_with fail
    all_goals
      go_ret
      exact ⟨rfl, by rw [Tab.give_none hg]; exact H.out.below (HB2.out.alloc (HB2.out.size) _), Fr.of_below (HB2.out.alloc (HB2.out.size) _)⟩
  | some p =>
    have e1 : got s.g i c = .agg #[.int .i64 c, .int .i64 i, .bool p.1, .int .i64 p.2] := by unfold got; rw [hg]; rfl
    refine wpAnyH_take (i := 5) (v := .tuple #[.agg #[.int .i64 c, .int .i64 i, .bool p.1, .int .i64 p.2], .bool true]) rfl (by kernel_rfl) (by kernel_rfl) (by kernel_rfl) (fun _ _ _ h => h) (Or.inl ⟨by rfl, fun w hS => by have hl := run_look hS.2.2.2 HA.out.2.2 i c; rw [e1, hg] at hl; clear hS; go_simp⟩) hS ?_
    clear e1
    refine wpAnyH_take (i := 6) (v := .tuple #[.agg #[.int .i64 c, .int .i64 i, .bool p.1, .int .i64 p.2], .bool true]) rfl (by kernel_rfl) (by kernel_rfl) (by kernel_rfl) (fun _ _ _ h => h) (Or.inl ⟨by rfl, fun w hS => by clear hS; go_simp⟩) hS ?_
    refine wpAnyH_take (i := 7) (v := .agg #[.int .i64 c, .int .i64 i, .bool p.1, .int .i64 p.2]) rfl (by kernel_rfl) (by kernel_rfl) (by kernel_rfl) (fun _ _ _ h => h) (Or.inl ⟨by rfl, fun w hS => by clear hS; go_simp⟩) hS ?_
    refine wpAnyH_take (i := 8) (v := .bool true) rfl (by kernel_rfl) (by kernel_rfl) (by kernel_rfl) (fun _ _ _ h => h) (Or.inl ⟨by rfl, fun w hS => by clear hS; go_simp⟩) hS ?_
    refine wpAnyH_one 9 _ (by kernel_rfl) rfl rfl (fun K hK => ?_)
    go_simp
    refine hK _ _ (hS2 _) ?_
    clear hK K
    refine wpAnyH_one 10 _ (by kernel_rfl) rfl rfl (fun K hK => ?_)
    go_simp
    refine hK _ _ (hS2 _) ?_
    clear hK K
    refine wpAnyH_one 11 _ (by kernel_rfl) rfl rfl (fun K hK => ?_)
    go_simp
    refine hK _ _ (hS2 _) ?_
    clear hK K
    refine wpAnyH_done (by kernel_rfl) ?_ _
    go_wp2_with fail
    refine wp_region_held (S := fun w' => w'.cell? ⟨b, 0, none⟩ = some (.map (some m)) ∧ w'.cell? ⟨B, 0, none⟩ = some (.int .i64 i) ∧ w'.cell? ⟨B, 1, none⟩ = some (.int .i64 c)) (by kernel_rfl) ?_
    change wpAnyH _ _ _ _ _ _ _ _ (World.drew _)
    have hS3 := hS2 #[.int .i64 c, .int .i64 i, .bool p.1, .int .i64 p.2]
    have hS3 : (World.drew (w1.alloc (.cells #[.int .i64 c, .int .i64 i, .bool p.1, .int .i64 p.2] 40))).cell? ⟨b, 0, none⟩ = some (.map (some m)) ∧ (World.drew (w1.alloc (.cells #[.int .i64 c, .int .i64 i, .bool p.1, .int .i64 p.2] 40))).cell? ⟨B, 0, none⟩ = some (.int .i64 i) ∧ (World.drew (w1.alloc (.cells #[.int .i64 c, .int .i64 i, .bool p.1, .int .i64 p.2] 40))).cell? ⟨B, 1, none⟩ = some (.int .i64 c) ∧ MapAt (World.drew (w1.alloc (.cells #[.int .i64 c, .int .i64 i, .bool p.1, .int .i64 p.2] 40))) m es clock := hS3
    have hM3 := hS3.2.2.2
    have hS3 := And.intro hS3.1 (And.intro hS3.2.1 hS3.2.2.1)
    have HBW := Lib.hid ((HB2.out.alloc HB2.out.size (.cells #[.int .i64 c, .int .i64 i, .bool p.1, .int .i64 p.2] 40)).drew)
    have HTP := Lib.hid (H.out.below HBW.out)
    clear hS2 hS HBX HBB
    generalize World.drew (w1.alloc (.cells #[.int .i64 c, .int .i64 i, .bool p.1, .int .i64 p.2] 40)) = w2 at *
    refine wpAnyH_take (i := 0) (v := .pointer (some ⟨b, 0, none⟩)) rfl (by kernel_rfl) (by kernel_rfl) (by kernel_rfl) (fun _ _ _ h => h) (Or.inl ⟨by rfl, fun w hS => by clear hS; go_simp⟩) hS3 ?_
    refine wpAnyH_take (i := 1) (v := .pointer (some ⟨b, 0, none⟩)) rfl (by kernel_rfl) (by kernel_rfl) (by kernel_rfl) (fun _ _ _ h => h) (Or.inl ⟨by rfl, fun w hS => by clear hS; go_simp⟩) hS3 ?_
    refine wpAnyH_take (i := 2) (v := .pointer (some ⟨b, 0, none⟩)) rfl (by kernel_rfl) (by kernel_rfl) (by kernel_rfl) (fun _ _ _ h => h) (Or.inl ⟨by rfl, fun w hS => by clear hS; go_simp⟩) hS3 ?_
    refine wpAnyH_take (i := 3) (v := .map (some m)) rfl (by kernel_rfl) (by kernel_rfl) (by kernel_rfl) (fun _ _ _ h => h) (Or.inl ⟨by rfl, fun w hS => by obtain ⟨k1, k2, k3⟩ := hS; go_simp⟩) hS3 ?_
    refine wpAnyH_take (i := 4) (v := .agg #[.int .i64 i, .int .i64 c]) rfl (by kernel_rfl) (by kernel_rfl) (by kernel_rfl) (fun _ _ _ h => h) (Or.inl ⟨by rfl, fun w hS => by obtain ⟨k1, k2, k3⟩ := hS; go_simp⟩) hS3 ?_
    obtain ⟨w3, es3, hdel, hm3, hr3, hgr3, _⟩ := run_strike hM3 HA.out.2.2 i c 0
    have HW3 := Lib.hid (And.intro hm3 (And.intro hr3 hgr3))
    clear hm3 hr3 hgr3
    refine wpAnyH_one 5 _ (by kernel_rfl) rfl rfl (fun K hK => ?_)
    go_simp
    have hf3 : Fr (fun x => x = b ∨ x = m) w2 w3 := Fr.of_grown HW3.out.2.2 fun x hx => by injection hx with hx; exact .inr hx.symm
    have HBX3 := Lib.hid (And.intro hf3 (Fr.of_grown (S := fun x => x = m) HW3.out.2.2 fun x hx => by injection hx with hx; exact hx.symm))
    obtain ⟨arr2, hb2, ha2⟩ := HTP.out.tab
    have hbm := HTP.out.ne
    have hb3 := HBX3.out.2.blk hbm hb2
    have hx3 := HBX3.out.2.cell (b := B) (i := 0) (by omega) hS3.2.1
    have hx4 := HBX3.out.2.cell (b := B) (i := 1) (by omega) hS3.2.2
    refine hK _ _ ⟨blk_cell hb3 ha2.2.1, hx3, hx4⟩ ?_
    clear hK K
    refine wpAnyH_done (by kernel_rfl) ?_ _
    have HE := Lib.hid (show TP w3 b m (s.give c i) from ⟨HTP.out.ok.give c i, ⟨arr2, hb3, ha2⟩, ⟨es3, clock, HW3.out.1, HW3.out.2.1⟩, hbm⟩)
    clear hb2 ha2 hb3 hx3 hx4 hf3 hdel hbm
    go_wp2_with fail
    all_goals
      go_ret
      exact ⟨rfl, HE.out, (Fr.of_below HBW.out).trans HBX3.out.1⟩
end Go.Proofs.Ytpjgcpnjfopolaa
