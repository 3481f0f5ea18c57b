/-
  BitsReads: whatever bytes come in, the law returns true: a map is read as just its bytes, or refused. No condition.
-/
import Derived.Test.YtabccjmkgokglaaQuiet
namespace Go.Proofs.Ytabccjmkgokglaa
open Go.ChangeShapes Go.WideShapes Go.ChangeAt Go.RowKit
/-- One operation alone may come up. -/
theorem wpAny_one {P : Program} {md : Region.Mode} {ops : Array Oper} {Q : Exit → Act → World → Prop} {fuel : Nat} {listed : Array Bool} {a : Act} {w : World} (i : Nat) (o : Oper) (hr : Region.ready md ops listed = [i]) (ho : ops[i]? = some o)
    (hw : Region.wanted o (yielded ops a.tmps) = true) (h : ∀ K : Act → World → Prop, (∀ a w, wpAny P md ops Q fuel (listed.setIfInBounds i true) a w → K a w) → o.wp P a w K Q) : wpAny P md ops Q (fuel + 1) listed a w :=
  wpAny_ready (rs := [i]) hr (by simp) (AllReady.cons ho (fun K hK => by rw [if_pos hw]; exact h K hK) AllReady.nil)
/-- What the walk is told of a slice of bytes that came in. -/
def IsRow (k : IntKind) (w : World) (a : Option Addr) (len cap : Nat) (zs : List Int) : Prop :=
  (a = none ∧ len = 0 ∧ cap = 0 ∧ zs = []) ∨
  ∃ x, a = some x ∧ len ≤ cap ∧ cap ≤ maxLen ∧ zs.length = cap ∧ (∀ i, i < zs.length → w.cell? (x.add i) = some (.int k (zs.getD i 0))) ∧ ∀ n ∈ zs, (Lit.int k n).wf = true
/-- .. and so: nothing is there to be read, or the cells hold bytes. -/
theorem IsRow.bytes {w : World} {A : Option Addr} {len cap : Nat} {zs : List Int} (h : IsRow .u8 w A len cap zs) (h0 : 0 < len) :
    ∃ b off, A = some ⟨b, off, none⟩ ∧ len ≤ cap ∧ cap ≤ maxLen ∧ b < w.heap.size ∧ ∃ f : Nat → Nat, (∀ j, f j < 256) ∧ ∀ j, j < len → w.cell? ⟨b, off + j, none⟩ = some (.int .u8 (f j : Nat)) := by
  rcases h with ⟨_, h1, _⟩ | ⟨⟨b, off, spot⟩, rfl, h1, h2, h3, h4, h5⟩
  · omega
  · have c0 := h4 0 (by omega)
    have hs : spot = none := by simpa [Addr.add] using World.cell?_spot c0
    subst hs
    refine ⟨b, off, rfl, h1, h2, World.block_lt_of_cell? _ _ (by simpa [Addr.add] using c0), fun j => (zs.getD j 0).toNat, fun j => ?_, fun j hj => ?_⟩
    · have := range_u8 h5 j
      simp only [List.getD_eq_getElem?_getD]
      omega
    · have hc := h4 j (by omega)
      have hadd : (⟨b, off, none⟩ : Addr).add j = ⟨b, off + j, none⟩ := by unfold Addr.add; split <;> simp_all
      have hr := range_u8 h5 j
      simp only [List.getD_eq_getElem?_getD] at hc ⊢
      rw [← hadd, hc, Int.toNat_of_nonneg hr.1]
set_option maxHeartbeats 2000000 in
theorem lawReads_short (A : Option Addr) (n cap : Nat) (hn : n < 16) (w : World) :
    Calls Try.prog 5 #[.slice A n cap] w fun e w' => e = .returned (.bool true) ∧ Below w.heap.size w w' := by
  go_enter Try.func5, Try.ntmps5
  go_wp2_with fail
  refine (read_short A n cap hn _).mono ?_
  rintro e w1 ⟨rfl, hb1⟩
  have z1 := heap_alloc_new w1 (.cells (mcells zeros) 23)
  go_wp2_with (first
    | (refine wpl_store23_new (m := zeros) rfl _ _ rfl rfl rfl rfl rfl ?_)
    | (refine wpl_load23 (m := zeros) rfl _ rfl rfl z1 rfl ?_)
    | (refine wpl_eql23 (m := zeros) rfl _ _ _ rfl rfl rfl rfl ?_)
    | (go_at_call 13; refine (lives_any _).mono ?_; rintro e w3 ⟨rfl, hb3⟩))
  go_ret
  exact ⟨rfl, below_then hb1 (below_new hb3)⟩
set_option maxHeartbeats 2000000 in
theorem lawReads_long (b off n cap : Nat) (hn : 16 ≤ n) (hcap : n ≤ cap) (hmax : cap ≤ maxLen) (m : List Nat) (hm : Ok m) (w : World) (hb : b < w.heap.size) (hc : ∀ j, j < 16 → w.cell? ⟨b, off + j, none⟩ = some (.int .u8 (m.getD j 0 : Nat))) :
    Calls Try.prog 5 #[.slice (some ⟨b, off, none⟩) n cap] w fun e w' => e = .returned (.bool true) ∧ Below w.heap.size w w' := by
  unfold maxLen at hmax
  have hl := hm.1
  have HC := Lib.hid hc
  clear hc
  by_cases h40 : 40 < n
  all_goals
    go_enter Try.func5, Try.ntmps5
    go_wp2_with fail
    refine (read_map m hl b off _ cap (by omega) (by omega) (by omega) _ hb HC.out).mono ?_
    rintro e w1 ⟨rfl, hb1⟩
    have b1 := Nat.lt_of_lt_of_le hb hb1.size
    go_wp2_with (first
      | (refine wpl_store23_new (m := m) rfl _ _ rfl rfl rfl rfl hl ?_))
    refine wp_region_any (by kernel_rfl) ?_
    change wpAny _ _ _ _ _ _ _ (World.drew _)
    have hdm : (w1.alloc (.cells (mcells m) 23)).drew.heap[w1.heap.size]? = some (.cells (mcells m) 23) := heap_alloc_new _ _
    have hdb : Below w1.heap.size w1 (w1.alloc (.cells (mcells m) 23)).drew := ((Below.refl _ _).alloc (Nat.le_refl _) _).drew
    generalize (w1.alloc (.cells (mcells m) 23)).drew = wd at *
    refine wpAny_take (i := 2) (v := _) rfl (by kernel_rfl) (by kernel_rfl) (by kernel_rfl) (fun _ _ _ h => h) (Or.inl ⟨by rfl, fun w => by go_simp; rfl⟩) ?_
    refine wpAny_take (i := 3) (v := .slice (some ⟨b, off, none⟩) 16 cap) rfl (by kernel_rfl) (by kernel_rfl) (by kernel_rfl) (fun _ _ _ h => h) (Or.inl ⟨by rfl, fun w => by go_simp; intro h; omega⟩) ?_
    refine wpAny_one 0 _ (by kernel_rfl) rfl rfl (fun K hK => ?_)
    refine wp_load_row 23 _ rfl _ rfl 23 (mcells m) (0, 0) _ hdm Try.underlying23 rfl (info23 hl) (hK _ _ ?_)
    clear hK K
    refine wpAny_one 1 _ (by kernel_rfl) rfl rfl (fun K hK => ?_)
    go_simp
    refine (bytes_any m hm _).mono ?_
    rintro e w2 ⟨g, c2, rfl, hown, hb2⟩
    refine hK _ _ ?_
    clear hK K
    refine wpAny_one 4 _ (by kernel_rfl) rfl rfl (fun K hK => ?_)
    go_simp
    have hbw := below_then hdb hb2
    obtain ⟨_, _, hv, _, hg2, _, hcell⟩ := own_at hown (by omega)
    obtain ⟨rfl, rfl⟩ : g = _ ∧ c2 = _ := by simpa using hv
    have b2 := Nat.lt_of_lt_of_le b1 hbw.size
    have hx : ∀ j, j < 16 → w2.cell? ⟨b, off + j, none⟩ = some (.int .u8 (m.getD j 0 : Nat)) := fun j hj => by
      rw [hbw.cell (p := ⟨b, off + j, none⟩) b1, hb1.cell (p := ⟨b, off + j, none⟩) hb]
      exact HC.out j hj
    refine (same_yes 16 g 0 c2 b off cap (fun j => (m.getD j 0 : Nat)) (by omega) _ hg2 b2 (fun j hj => by rw [Nat.zero_add, hcell j hj, bb_get m 16 j hj]) hx).mono ?_
    rintro e w3 ⟨rfl, hb3⟩
    refine hK _ _ ?_
    clear hK K
    refine wpAny_one 5 _ (by kernel_rfl) rfl rfl (fun K hK => ?_)
    go_simp
    refine hK _ _ ?_
    clear hK K
    refine wpAny_done (by kernel_rfl) ?_ _
    have bel3 := below_then hb1 (below_then hbw hb3)
    go_wp2_with (go_at_call 13; refine (lives_any _).mono ?_; rintro e w4 ⟨rfl, hb4⟩)
    go_ret
    exact ⟨rfl, below_then bel3 hb4⟩
theorem lawReads (A : Option Addr) (n cap : Nat) (zs : List Int) (w : World) (h : IsRow .u8 w A n cap zs) :
    Calls Try.prog 5 #[.slice A n cap] w fun e w' => e = .returned (.bool true) ∧ Below w.heap.size w w' := by
  by_cases hn : n < 16
  · exact lawReads_short A n cap hn w
  · obtain ⟨b, off, rfl, hcap, hmax, hb, f, hf, hc⟩ := h.bytes (by omega)
    have hg : ∀ j, j < 16 → ((List.range 16).map f).getD j 0 = f j := fun j hj => by simp [hj]
    refine lawReads_long b off n cap (by omega) hcap hmax ((List.range 16).map f) ⟨by simp, fun x hx => ?_⟩ w hb fun j hj => by rw [hg j hj]; exact hc j (by omega)
    obtain ⟨i, _, rfl⟩ := List.mem_map.1 hx
    exact hf i
/-! ### THE ROW -/
set_option maxRecDepth 100000 in
theorem bitsReads_lifted (os : Os) (started : os.Started) (H : Type) (enc : TypeId × Value → H) :
    ReturnsInHanded {} Try.checked os 5 .any (Rows.bitsReadsSpec.pre6 enc Try.prog Try.f5 Rows.bitsReadsRow.domain false) (Rows.bitsReadsSpec.post enc Try.prog Try.f5 false true false false) := by
  refine returnsInHanded_of_change (C := Try.checked) own started (by kernel_rfl) Try.func5
    (ChangeSpec.witness6 (enc := enc) (C := Try.checked) false ⟨#[], #[.slice none 0 0], []⟩ 8 (by kernel_rfl) (by kernel_rfl) (by kernel_rfl) (by kernel_rfl)) ?_
  intro W base args ds gs before hval0 hW _ _
  have hval : ∀ (j : Nat) t v, Try.f5.params[j]? = some t → args[j]? = some v → Value.okWide Try.prog W .any base t v := hval0
  have hW' := hW
  obtain ⟨p, q, hA0, hV, rfl, _, _⟩ := hW
  have hA : DataW.TrodAll enc Try.prog W 0 (fun _ => true) true Try.f5.params.toList args.toList ds p := hA0
  rw [Try.params5] at hA hval
  obtain ⟨v0, vs0, d0, ds0, p0, q0, hargs, rfl, rfl, h0, r0⟩ := trodAll_cons hA
  obtain ⟨rfl, rfl, rfl⟩ := trodAll_nil r0
  obtain rfl : args = #[v0] := by cases args; simp_all
  obtain ⟨rfl, rfl⟩ := trodVars_none hV
  have k0 := h0
  have lt0 : ∀ x ∈ p0, x.block < W.heap.size := by obtain ⟨m, hm⟩ := k0; exact DataW.trod_lt m _ _ _ hm
  obtain ⟨A0, n0, c0, rfl⟩ := okWide_slice Try.underlying30 (hval 0 30 v0 rfl rfl)
  obtain ⟨z0, w0⟩ : ∃ zs, IsRow .u8 W A0 n0 c0 zs := by
    obtain ⟨fuel, hf⟩ := h0
    rcases open_ints Try.underlying30 Try.underlying5 (by kernel_rfl) hf with ⟨hcs, _⟩ | ⟨x, l, c, zs, hcs, _, hl, hm, hz, _, hcell, hwz⟩
    · simp [Value.cells] at hcs
      obtain ⟨rfl, rfl, rfl⟩ := hcs
      exact ⟨[], .inl ⟨rfl, rfl, rfl, rfl⟩⟩
    · simp [Value.cells] at hcs
      obtain ⟨rfl, rfl, rfl⟩ := hcs
      exact ⟨zs, .inr ⟨_, rfl, hl, hm, by simpa using hz, hcell, hwz⟩⟩
  clear hA0 hval0
  refine (lawReads A0 n0 c0 z0 W w0).mono fun e W' ⟨he, bel⟩ => ?_
  subst he
  exact ⟨_, rfl, _, _, _, [], _, [], hW', trodAll_mk1 (shut_bool Try.underlying4 _), (trodAll_cons_mk (Below.trod laidOut (by kernel_rfl) (of_decide_eq_true (by kernel_rfl)) k0 bel lt0) trodAll_mk0), rfl, bel.frame _, fun h => by cases h⟩
theorem bitsReads_over : Rows.bitsReadsRow.holds Try.pinned (OpenSpec.ofChange Rows.bitsReadsSpec) :=
  OpenClaim.holds_of_wide 5 Try.f5 rfl rfl rfl rfl rfl rfl rfl ⟨rfl, rfl, rfl, rfl, rfl⟩ rfl rfl rfl rfl rfl (by kernel_rfl) Try.func5 (by kernel_rfl)
    (of_decide_eq_true (by kernel_rfl)) (by unfold Func.isWrapper; first | (rw [if_pos (by decide +kernel)]; kernel_rfl) | (rw [if_neg (by decide +kernel)]; exact ⟨rfl, rfl⟩))
    (fun os started H enc _ => bitsReads_lifted os started H enc)
/-- THE STATEMENT. -/
theorem bitsReads_holds : Rows.BitsReadsSaid := bitsReads_over
end Go.Proofs.Ytabccjmkgokglaa
