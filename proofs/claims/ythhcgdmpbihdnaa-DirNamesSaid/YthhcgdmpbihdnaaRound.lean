/-
  DirRound: for any entries the law returns true: what is told as bytes is read as the same. No condition.
-/
import Derived.Test.YthhcgdmpbihdnaaReads
namespace Go.Proofs.Ythhcgdmpbihdnaa
open Go.ChangeShapes Go.WideShapes Go.ChangeAt Go.RowKit Go.Deep
theorem str_sb (s : ByteArray) : str (sb s) = s := by
  have h := str_data (sb s)
  have h2 : (sb s).map UInt8.ofNat = s.data.toList := by
    unfold sb
    rw [List.map_map]
    apply List.ext_getElem
    · simp
    · intro i h1 h2
      simp
  rw [h2] at h
  have h3 : (str (sb s)).data = s.data := Array.toList_inj.1 h
  exact ByteArray.ext h3
theorem bts_at (f : Nat → Ent) (a : Nat) : ∀ j, okE f a j = true → ∀ i, i < j → ∀ q, q < 16 → (bts f a j).getD (16 * i + q) 0 = (eb (f (a + i))).getD q 0
  | 0, _, i, hi, _, _ => absurd hi (Nat.not_lt_zero _)
  | j + 1, h, i, hi, q, hq => by
    rw [okE, Bool.and_eq_true] at h
    have hl := bts_len f a j h.1
    rw [bts, List.getD_eq_getElem?_getD]
    by_cases e : i = j
    · subst e
      rw [List.getElem?_append_right (by omega), hl, show 16 * i + q - 16 * i = q by omega, ← List.getD_eq_getElem?_getD]
    · rw [List.getElem?_append_left (by omega), ← List.getD_eq_getElem?_getD, bts_at f a j h.1 i (by omega) q hq]
theorem okE_at (f : Nat → Ent) (a : Nat) : ∀ j, okE f a j = true → ∀ i, i < j → mayE (f (a + i)) = true
  | 0, _, i, hi => absurd hi (Nat.not_lt_zero _)
  | j + 1, h, i, hi => by
    rw [okE, Bool.and_eq_true] at h
    by_cases e : i = j
    · subst e; exact h.2
    · exact okE_at f a j h.1 i (by omega)
theorem eb_name (e : Ent) (q : Nat) (hq : q < e.nm.size) : (eb e).getD (2 + q) 0 = (sb e.nm).getD q 0 := by
  unfold eb
  rw [show 2 + q = q + 1 + 1 by omega]
  show (sb e.nm ++ List.replicate (14 - e.nm.size) 0).getD q 0 = _
  rw [List.getD_eq_getElem?_getD, List.getElem?_append_left (by rw [sb_len]; exact hq), ← List.getD_eq_getElem?_getD]
theorem rd_bts (f : Nat → Ent) (a : Nat) (h : okE f a 4 = true) (i : Nat) (hi : i < 4) : nl (bts f a 4) i = (f (a + i)).nm.size ∧ rd (bts f a 4) i = f (a + i) := by
  have hat := bts_at f a 4 h i hi
  have hm := mayE_bd (okE_at f a 4 h i hi)
  have hlen := bts_len f a 4 h
  have hn : nl (bts f a 4) i = (f (a + i)).nm.size := by
    unfold nl
    rw [hat 1 (by decide)]
    rfl
  refine ⟨hn, ?_⟩
  have h0 : (bts f a 4).getD (16 * i) 0 = (f (a + i)).ino.toNat := hat 0 (by decide)
  have hnm : ((bts f a 4).drop (16 * i + 2)).take (nl (bts f a 4) i) = sb (f (a + i)).nm := by
    rw [hn]
    refine list_eq_of (by rw [sb_len]; simp; omega) fun q hq => ?_
    have hq' : q < (f (a + i)).nm.size := by
      simp at hq
      omega
    rw [getD_drop_take _ _ _ _ hq', show 16 * i + 2 + q = 16 * i + (2 + q) by omega, hat (2 + q) (by omega), eb_name _ _ hq']
  unfold rd
  rw [hnm, str_sb, h0, Int.toNat_of_nonneg hm.1]
theorem okTo_bts (f : Nat → Ent) (a : Nat) (h : okE f a 4 = true) : ∀ j, j ≤ 4 → okTo' (bts f a 4) j = true
  | 0, _ => rfl
  | j + 1, hj => by
    obtain ⟨h1, h2⟩ := rd_bts f a h j (by omega)
    have hm := okE_at f a 4 h j (by omega)
    have hb := mayE_bd hm
    rw [okTo', okTo_bts f a h j (by omega), Bool.true_and]
    unfold okR
    rw [h2, hm, decide_eq_true (by rw [h1]; exact hb.2.2), Bool.true_and, Bool.true_and]
    rw [eb_iff (by rw [bts_len f a 4 h]; decide) (bts_lt f a 4 h) (by omega) (by rw [h1]; exact hb.2.2)]
    intro q hq
    rw [h2]
    exact (bts_at f a 4 h j (by omega) q hq).symm
/-- The table that has come back when k blocks are read. -/
def bk (f : Nat → Ent) (k : Nat) : Nat → Ent := fun j => if j < 4 * k then f j else ent0
theorem bk_next (f : Nat → Ent) (k : Nat) (h : okE f (4 * k) 4 = true) : nx (bk f k) (bts f (4 * k) 4) (4 * k) 4 = bk f (k + 1) := by
  funext j
  unfold nx bk
  by_cases h1 : 4 * k ≤ j ∧ j < 4 * k + 4
  · rw [if_pos h1, if_pos (by omega), (rd_bts f (4 * k) h (j - 4 * k) (by omega)).2, show 4 * k + (j - 4 * k) = j by omega]
  · rw [if_neg h1]
    by_cases h2 : j < 4 * k
    · rw [if_pos h2, if_pos (by omega)]
    · rw [if_neg h2, if_neg (by omega)]
theorem tabv_bk (f : Nat → Ent) : tabv (bk f 4) = tabv f := by
  unfold tabv
  rw [ecs_same (bk f 4) f 16 fun i hi => by unfold bk; rw [if_pos (by omega)]]
theorem bk_size {f : Nat → Ent} (hf : ∀ i, (f i).nm.size ≤ 9223372036854775807) (k i : Nat) : (bk f k i).nm.size ≤ 9223372036854775807 := by
  unfold bk
  split
  · exact hf i
  · show noName.size ≤ _
    decide
theorem tabv_bk0 (f : Nat → Ent) : tabv (fun _ => ent0) = tabv (bk f 0) := by
  unfold tabv
  rw [ecs_same (fun _ => ent0) (bk f 0) 16 fun i _ => by unfold bk; rw [if_neg (by omega)]]
set_option maxRecDepth 100000 in
set_option maxHeartbeats 1000000 in
theorem lawRound {w : World} {v : Value} {f : Nat → Ent} {n : Nat} (h : Inp w v f n) :
    Calls Try.prog 7 #[v] w fun e w' => e = .returned (.bool true) ∧ Below w.heap.size w w' := by
  have hf := made_size h
  have HT := Lib.hid (table_any h)
  generalize made f n = F at *
  clear h
  have HFS := Lib.hid hf
  have HNO := Lib.hid fun (k : Nat) (h : told F k = false) W => block_no F hf k h W
  have HYES := Lib.hid fun (k : Nat) (h : told F k = true) W => block_yes F hf k h W
  clear hf
  go_enter Try.func7, Try.ntmps7
  go_wp2_with fail
  refine (HT.out).mono ?_
  rintro e w1 ⟨v', rfl, hown, hb1⟩
  have HB1 := Lib.hid hb1
  have hs1 := hb1.size
  clear hown hb1 HT
  go_wp2_with ((with_reducible refine st26n (f := F) ?_ ?_ ?_ ?_); exact rfl; exact rfl; exact rfl)
  rw [zero26, tabv_bk0 F]
  have k1 := heap_alloc2_old w1 (.cells (tabv F) 26) (.cells (tabv (bk F 0)) 26)
  have k2 := heap_alloc2_new w1 (.cells (tabv F) 26) (.cells (tabv (bk F 0)) 26)
  have hb0 : Below w.heap.size w ((w1.alloc (.cells (tabv F) 26)).alloc (.cells (tabv (bk F 0)) 26)) := (HB1.out.alloc hs1 _).alloc (by simp; omega) _
  generalize (w1.alloc (.cells (tabv F) 26)).alloc (.cells (tabv (bk F 0)) 26) = w0 at *
  go_loopw [6, 7, 8, 9, 10] (fun y _ _ _ _ wr => ∃ k : Nat, k ≤ 4 ∧ y = .int .i64 k ∧ wr.heap[w1.heap.size]? = some (.cells (tabv F) 26 (0, 0)) ∧ wr.heap[w1.heap.size + 1]? = some (.cells (tabv (bk F k)) 26 (0, 0)) ∧ Below w.heap.size w wr) (fun y _ _ _ _ _ => 4 - (intOf y).toNat)
  case atStart => exact ⟨0, Nat.zero_le _, rfl, k1, k2, hb0⟩
  case round =>
    clear k1 k2 hb0
    obtain ⟨k, hk, rfl, b1, b2, hbel⟩ := hrel
    have HBEL := Lib.hid hbel
    have hsz := hbel.size
    clear hbel
    by_cases hlt : k < 4
    · have hd : ((k : Nat) : Int) < 4 := by omega
      cases ht : told F k
      · have HC := Lib.hid (HNO.out k ht)
        clear ht
        go_wp2_with ((with_reducible refine ld26 ?_ b1 ?_); exact rfl)
        refine (HC.out _).mono ?_
        rintro e w2 ⟨rfl, hb2⟩
        have HB2 := Lib.hid (below_then HBEL.out hb2)
        clear hb2 b1 b2
        go_wp2_with fail
        refine (lives_any _).mono ?_
        rintro e w3 ⟨rfl, hb3⟩
        have HB3 := Lib.hid (below_then HB2.out hb3)
        clear hb3
        go_wp2
        go_ret
        exact ⟨rfl, HB3.out⟩
      · have HC := Lib.hid (HYES.out k ht)
        have hok : okE F (4 * k) 4 = true := by
          unfold told at ht
          simp only [Bool.and_eq_true] at ht
          exact ht.2
        have hlen := bts_len F (4 * k) 4 hok
        have HR := Lib.hid fun W v (h : Byt W v (bts F (4 * k) 4)) => (read_in (bk F k) (bk_size HFS.out k) k hlt h (by rw [hlen]; decide) (by rw [hlen]; decide) (bts_lt F (4 * k) 4 hok)).mono (R' := fun e w' => e = .returned (.tuple #[.agg (tabv (bk F (k + 1))), .int .i64 0]) ∧ Below W.heap.size W w') (fun e w' hp => by
          rcases hp with ⟨_, h2⟩ | ⟨h1, _⟩
          · rw [bk_next F k hok] at h2; exact h2
          · rw [okTo_bts F (4 * k) hok 4 (Nat.le_refl _)] at h1; cases h1)
        have HLEN := Lib.hid hlen
        have hl1 := blk_lt b1
        have hl2 := blk_lt b2
        clear ht hok hlen
        go_wp2_with ((with_reducible refine ld26 ?_ b1 ?_); exact rfl)
        refine (HC.out _).mono ?_
        rintro e w2 ⟨v2, rfl, hown2, hb2⟩
        rw [show ((k : Int)).toNat = k from rfl] at hown2
        obtain ⟨q2, cp2, rfl, _, _, _, _⟩ := own_at hown2 (by decide)
        have HY2 := Lib.hid (byt_own (by rw [HLEN.out]; exact hown2))
        have c1 := blk_below hb2 hl1 b1
        have c2 := blk_below hb2 hl2 b2
        have HB2 := Lib.hid (below_then HBEL.out hb2)
        have hm1 := blk_lt c1
        have hm2 := blk_lt c2
        clear hb2 b1 b2 hown2
        go_wp2_with ((with_reducible refine ld26 ?_ c2 ?_); exact rfl)
        refine (HR.out _ _ HY2.out).mono ?_
        rintro e w3 ⟨rfl, hb3⟩
        have d1 := blk_below hb3 hm1 c1
        have d2 := blk_below hb3 hm2 c2
        have HB3 := Lib.hid (below_then HB2.out hb3)
        have hs3 : w.heap.size ≤ w3.heap.size := HB3.out.size
        have t9 := heap_alloc_new w3 (.cells (tabv (bk F (k + 1))) 26)
        have x1 := blk_alloc (x := .cells (tabv (bk F (k + 1))) 26) d1
        have x2 := blk_alloc (x := .cells (tabv (bk F (k + 1))) 26) d2
        have HB4 := Lib.hid (show Below w.heap.size w (w3.alloc (.cells (tabv (bk F (k + 1))) 26)) from HB3.out.alloc hs3 _)
        have HSZ := Lib.hid (tabv_size (bk F k))
        clear hb3 c1 c2 d1 d2
        go_wp2_with (first
          | ((with_reducible refine st26n (f := bk F (k + 1)) ?_ ?_ ?_ ?_); exact rfl; exact rfl; exact rfl; generalize w3.alloc (.cells (tabv (bk F (k + 1))) 26) = w4 at *)
          | ((with_reducible refine ld26 ?_ t9 ?_); exact rfl)
          | ((with_reducible refine st26 (f := bk F (k + 1)) ?_ ?_ x2 ?_ ?_); exact rfl; exact rfl; exact HSZ.out))
        exact ⟨⟨k + 1, by omega, by go_num, by rw [setRow_other _ _ _ _ (by omega)]; exact x1, setRow_heap _ _ _ _ _ _ x2, below_setRow' HB4.out (by omega) _⟩, by simp [intOf]; omega⟩
    · obtain rfl : k = 4 := by omega
      rw [tabv_bk] at b2
      go_wp2_with (first
        | ((with_reducible refine ld26 (x := .tmp 5) ?_ b2 ?_); exact rfl)
        | ((with_reducible refine ld26 (x := .tmp 3) ?_ b1 ?_); exact rfl)
        | ((with_reducible refine eq26w (f := F) ?_ ?_ ?_ ?_); exact rfl; exact rfl; exact rfl)
        | (go_at_call 16; refine (lives_any _).mono ?_; rintro e w9 ⟨rfl, hb9⟩; have HB9 := Lib.hid (below_then HBEL.out hb9); clear hb9))
      go_ret
      exact ⟨rfl, HB9.out⟩
/-! ### THE ROW -/
set_option maxRecDepth 100000 in
theorem dirRound_lifted (os : Os) (started : os.Started) (H : Type) (enc : TypeId × Value → H) :
    ReturnsInHanded {} Try.checked os 7 .any (Rows.dirRoundSpec.pre6 enc Try.prog Try.f7 Rows.dirRoundRow.domain false) (Rows.dirRoundSpec.post enc Try.prog Try.f7 false true false false) := by
  refine returnsInHanded_of_change (C := Try.checked) own started (by kernel_rfl) Try.func7
    (ChangeSpec.witness6 (enc := enc) (C := Try.checked) false ⟨#[], #[.slice none 0 0], []⟩ 8 (by kernel_rfl) (by kernel_rfl) (by kernel_rfl) (by kernel_rfl)) ?_
  intro W base args ds gs before hval0 hW _ _
  have hval : ∀ (j : Nat) t v, Try.f7.params[j]? = some t → args[j]? = some v → Value.okWide Try.prog W .any base t v := hval0
  have hW' := hW
  obtain ⟨p, q, hA0, hV, rfl, _, _⟩ := hW
  have hA : DataW.TrodAll enc Try.prog W 0 (fun _ => true) true Try.f7.params.toList args.toList ds p := hA0
  rw [Try.params7] at hA hval
  obtain ⟨v0, vs0, d0, ds0, p0, q0, hargs, rfl, rfl, h0, r0⟩ := trodAll_cons hA
  obtain ⟨rfl, rfl, rfl⟩ := trodAll_nil r0
  obtain rfl : args = #[v0] := by cases args; simp_all
  obtain ⟨rfl, rfl⟩ := trodVars_none hV
  have k0 := h0
  have lt0 : ∀ x ∈ p0, x.block < W.heap.size := by obtain ⟨m, hm⟩ := k0; exact DataW.trod_lt m _ _ _ hm
  obtain ⟨f0, n0, w0⟩ := open_ents (hval 0 22 v0 rfl rfl) h0
  clear hA0 hval0
  refine (lawRound w0).mono fun e W' ⟨he, bel⟩ => ?_
  subst he
  exact ⟨_, rfl, _, _, _, [], _, [], hW', trodAll_mk1 (shut_bool Try.underlying4 _), (trodAll_cons_mk (Below.trod laidOut (by kernel_rfl) (of_decide_eq_true (by kernel_rfl)) k0 bel lt0) trodAll_mk0), rfl, bel.frame _, fun h => by cases h⟩
theorem dirRound_over : Rows.dirRoundRow.holds Try.pinned (OpenSpec.ofChange Rows.dirRoundSpec) :=
  OpenClaim.holds_of_wide 7 Try.f7 rfl rfl rfl rfl rfl rfl rfl ⟨rfl, rfl, rfl, rfl, rfl⟩ rfl rfl rfl rfl rfl (by kernel_rfl) Try.func7 (by kernel_rfl)
    (of_decide_eq_true (by kernel_rfl)) (by unfold Func.isWrapper; first | (rw [if_pos (by decide +kernel)]; kernel_rfl) | (rw [if_neg (by decide +kernel)]; exact ⟨rfl, rfl⟩))
    (fun os started H enc _ => dirRound_lifted os started H enc)
/-- THE STATEMENT. -/
theorem dirRound_holds : Rows.DirRoundSaid := dirRound_over
end Go.Proofs.Ythhcgdmpbihdnaa
