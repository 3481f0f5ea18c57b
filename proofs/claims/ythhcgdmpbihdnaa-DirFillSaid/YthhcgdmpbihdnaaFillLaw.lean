/-
  DirFill: for any names the law returns true: what is set at its Place is found there, up to 16 names; then they are all told. No condition.
-/
import Derived.Test.YthhcgdmpbihdnaaOpenT
namespace Go.Proofs.Ythhcgdmpbihdnaa
open Go.ChangeShapes Go.WideShapes Go.ChangeAt Go.RowKit Go.Deep
set_option maxRecDepth 100000 in
set_option maxHeartbeats 8000000 in
theorem lawFill {w : World} {v : Value} {ns : Nat → ByteArray} {n : Nat} (h : Txt w v ns n) :
    Calls Try.prog 8 #[v] w fun e w' => e = .returned (.bool true) ∧ Below w.heap.size w w' := by
  obtain ⟨A, cap, rfl, hn, hsz, hcell⟩ := h
  have HSZ := Lib.hid hsz
  have HCELL := Lib.hid hcell
  clear hsz hcell
  go_enter Try.func8, Try.ntmps8
  go_wp2
  rw [zero26]
  have k1 := heap_alloc_new w (.cells (tabv fun _ => ent0) 26)
  have hb0 : Below w.heap.size w (w.alloc (.cells (tabv fun _ => ent0) 26)) := (Below.refl _ w).alloc (Nat.le_refl _) _
  generalize w.alloc (.cells (tabv fun _ => ent0) 26) = w1 at *
  go_loopw [4, 5, 6, 7, 8, 9, 10] (fun y i _ _ _ _ _ wr => ∃ (k : Nat) (f : Nat → Ent) (H : List ByteArray), (∀ h ∈ H, h.size ≤ 9223372036854775807) ∧ k ≤ n ∧ k ≤ 20 ∧ i = .int .i64 k ∧ H.length ≤ k ∧ wr.heap[w.heap.size]? = some (.cells (tabv f) 26 (0, 0)) ∧
      wr.ownsRow (w.heap.size + 1) 9 1 y H.length (H.map Value.string) ∧ Inv f H ∧ Below w.heap.size w wr) (fun _ i _ _ _ _ _ _ => 20 - (intOf i).toNat)
  case atStart => exact ⟨0, _, [], (fun h hh => by cases hh), Nat.zero_le _, Nat.zero_le _, rfl, Nat.zero_le _, k1, World.ownsRow_nil _ _ _ _, Inv.start, hb0⟩
  case round =>
    clear k1 hb0
    obtain ⟨k, f, H, hHs, hkn, hk20, rfl, hHk, ht, hown, hinv, hbel⟩ := hrel
    have HBEL := Lib.hid hbel
    have HOWN := Lib.hid hown
    have HI := Lib.hid hinv
    have HHS0 := Lib.hid hHs
    clear hHs
    have hsw : w.heap.size + 1 ≤ wr.heap.size := blk_lt ht
    have hlt := blk_lt ht
    obtain ⟨Ah, ch, rfl, hAh⟩ := own_shape hown
    have HAH := Lib.hid hAh
    clear hbel hown hinv hAh
    by_cases hlk : k < n ∧ k < 20
    · obtain ⟨hl1, hl2⟩ := hlk
      have hd1 : decide ((k : Int) < (n : Int)) = true := decide_eq_true (by omega)
      have hd2 : decide ((k : Int) < 20) = true := decide_eq_true (by omega)
      obtain ⟨b, off, rfl, hbw, hc⟩ := HCELL.out (by omega)
      have c0 := (HBEL.out.cell (p := ⟨b, off + k, none⟩) hbw).trans (hc k hl1)
      have hs := HSZ.out k
      clear hc
      generalize ns k = s at *
      have HSH := Lib.hid fun W => short_any s hs W
      have hss := Nat.le_trans (shrt_size s) (show 20 ≤ 9223372036854775807 by decide)
      generalize shrt s = t at *
      have HMAY := Lib.hid fun W => rNamesMay_any t hss W
      cases hm : mayN t
      · rw [hm] at HMAY
        clear hm
        go_wp2_with (first
          | (go_at_call 11; refine (HSH.out _).mono ?_; rintro e w2 ⟨rfl, rfl⟩)
          | (go_at_call 27; refine (HMAY.out _).mono ?_; rintro e w2 ⟨rfl, rfl⟩))
        exact ⟨⟨k + 1, f, H, HHS0.out, by omega, by omega, by go_num, by omega, ht, HOWN.out, HI.out, HBEL.out⟩, by simp [intOf]; omega⟩
      · rw [hm] at HMAY
        have hne := mayN_some hm
        have HNE := Lib.hid hne
        have HFD := Lib.hid fun W => find_any f t hss W
        have hfb := fnd_bd (isNm f t) (hash t)
        have hfd : find f t = fnd (isNm f t) (hash t) := rfl
        rw [← hfd] at hfb
        clear hm hne hfd
        by_cases hfind : 0 ≤ find f t
        · generalize find f t = r at *
          go_wp2_with (first
            | (go_at_call 11; refine (HSH.out _).mono ?_; rintro e w2 ⟨rfl, rfl⟩)
            | (go_at_call 27; refine (HMAY.out _).mono ?_; rintro e w2 ⟨rfl, rfl⟩)
            | ((with_reducible refine ld26w ?_ ?_ ht ?_); exact rfl; exact rfl)
            | (go_at_call 12; refine (HFD.out _).mono ?_; rintro e w3 ⟨rfl, hb3⟩; have HB3 := Lib.hid (below_then HBEL.out hb3); have t3 := blk_below hb3 hlt ht; have HO3 := Lib.hid (own_below HOWN.out hb3); clear hb3))
          exact ⟨⟨k + 1, f, H, HHS0.out, by omega, by omega, by go_num, by omega, t3, HO3.out, HI.out, HB3.out⟩, by simp [intOf]; omega⟩
        · have hneg : find f t < 0 := by omega
          have HPL := Lib.hid fun W => place_any f t hss W
          generalize find f t = r at *
          clear hfind
          rcases HI.out.place t with ⟨hp, h16⟩ | ⟨j, hj, hj0, hp, h16⟩
          · rw [hp] at HPL
            have heq : ((H.length : Int) == 16) = true := by rw [h16]; rfl
            have HH := Lib.hid h16
            clear hp h16
            go_wp2_with (first
              | (go_at_call 11; refine (HSH.out _).mono ?_; rintro e w2 ⟨rfl, rfl⟩)
              | (go_at_call 27; refine (HMAY.out _).mono ?_; rintro e w2 ⟨rfl, rfl⟩)
              | ((with_reducible refine ld26w ?_ ?_ ht ?_); exact rfl; exact rfl)
              | (go_at_call 12; refine (HFD.out _).mono ?_; rintro e w3 ⟨rfl, hb3⟩; have HB3 := Lib.hid (below_then HBEL.out hb3); have t3 := blk_below hb3 hlt ht; have hl3 := blk_lt t3; have HO3 := Lib.hid (own_below HOWN.out hb3); clear hb3 ht)
              | ((with_reducible refine ld26 ?_ t3 ?_); exact rfl)
              | (go_at_call 14; refine (HPL.out _).mono ?_; rintro e w4 ⟨rfl, hb4⟩; have HB4 := Lib.hid (below_then HB3.out hb4); have t4 := blk_below hb4 hl3 t3; have HO4 := Lib.hid (own_below HO3.out hb4); clear hb4))
            exact ⟨⟨k + 1, f, H, HHS0.out, by omega, by omega, by go_num, by omega, t4, HO4.out, HI.out, HB4.out⟩, by simp [intOf]; omega⟩
          · rw [hp] at HPL
            have heq : ((H.length : Int) == 16) = false := by simp; omega
            have HI2 := Lib.hid (HI.out.set HNE.out hj hj0 (1 + (k : Int) % 32))
            have HSET : Hid (∀ W, Calls Try.prog 17 #[.agg (tabv f), .int .i64 (j : Nat), .agg #[.string t, .int .i64 (1 + (k : Int) % 32)]] W fun r w' => r = .returned (.agg (tabv (upd f j ⟨t, 1 + (k : Int) % 32⟩))) ∧ Below W.heap.size W w') := Lib.hid fun W => set_yes f j hj t (1 + (k : Int) % 32) W
            have HZS := Lib.hid (tabv_size f)
            have HHL : Hid (H.map Value.string ++ [Value.string t] = (H ++ [t]).map Value.string) := Lib.hid (by simp)
            have HH16 := Lib.hid h16
            have HHS : Hid (∀ h ∈ H ++ [t], h.size ≤ 9223372036854775807) := Lib.hid fun h hh => by
              rcases List.mem_append.1 hh with hh | hh
              · exact HHS0.out h hh
              · simp at hh; subst hh; exact hss
            clear hp hj0
            generalize hF : upd f j ⟨t, 1 + (k : Int) % 32⟩ = F at *
            have HF := Lib.hid hF
            clear hF
            go_wp2_with (first
              | (go_at_call 11; refine (HSH.out _).mono ?_; rintro e w2 ⟨rfl, rfl⟩)
              | (go_at_call 27; refine (HMAY.out _).mono ?_; rintro e w2 ⟨rfl, rfl⟩)
              | ((with_reducible refine ld26w ?_ ?_ ht ?_); exact rfl; exact rfl)
              | (go_at_call 12; refine (HFD.out _).mono ?_; rintro e w3 ⟨rfl, hb3⟩; have HB3 := Lib.hid (below_then HBEL.out hb3); have t3 := blk_below hb3 hlt ht; have hl3 := blk_lt t3; have HO3 := Lib.hid (own_below HOWN.out hb3); clear hb3 ht)
              | ((with_reducible refine ld26 (x := .tmp 3) (d := some 36) ?_ t3 ?_); exact rfl)
              | (go_at_call 14; refine (HPL.out _).mono ?_; rintro e w4 ⟨rfl, hb4⟩; have HB4 := Lib.hid (below_then HB3.out hb4); have t4 := blk_below hb4 hl3 t3; have hl4 := blk_lt t4; have HO4 := Lib.hid (own_below HO3.out hb4); clear hb4 t3)
              | ((with_reducible refine ld26 (x := .tmp 3) (d := some 47) ?_ t4 ?_); exact rfl)
              | (go_at_call 17; refine (HSET.out _).mono ?_; rintro e w5 ⟨rfl, hb5⟩; have HB5 := Lib.hid (below_then HB4.out hb5); have t5 := blk_below hb5 hl4 t4; have HO5 := Lib.hid (own_below HO4.out hb5); have hs5 := blk_lt t5; clear hb5 t4)
              | ((with_reducible refine st26 (f := F) ?_ ?_ t5 ?_ ?_); exact rfl; exact rfl; exact HZS.out; have t6 := setRow_heap w5 w.heap.size _ (tabv F) 26 (0, 0) t5; have HO6 := Lib.hid (own_setRow HO5.out (by omega) t5 (tabv F)); have HB6 := Lib.hid (below_setRow' HB5.out (Nat.le_refl _) (tabv F)); generalize w5.setRow w.heap.size (tabv F) = w6 at *; have hs6 : w.heap.size + 1 ≤ w6.heap.size := blk_lt t6; clear t5 hs5 hl4)
              | (at_builtin; refine wpl_apps rfl _ _ rfl rfl HO6.out rfl rfl (by omega) hs6 ?_; intro v7 w7 hown7 hgr7; have HO7 := Lib.hid hown7; have t7 := (hgr7.block w.heap.size (by omega) (fun e => by have := (HO6.out.lt _ e.symm).1; omega)).trans t6; have HB7 := Lib.hid (HB6.out.grown hgr7 (by omega) (fun b hb => by have := (HO6.out.lt b hb).1; omega)); obtain ⟨q7, cp7, rfl, hq1, hq2, _, hq4⟩ := own_at hown7 (by omega); have HQ4 := Lib.hid hq4; clear hgr7 hown7 t6 hq4))
            have hl7 := blk_lt t7
            go_loopw [9, 10] (fun y _ wx => ∃ q : Nat, q ≤ H.length + 1 ∧ y = .int .i64 q ∧ Below w7.heap.size w7 wx) (fun y _ _ => H.length + 1 - (intOf y).toNat)
            case atStart => exact ⟨0, Nat.zero_le _, rfl, Below.refl _ _⟩
            case round =>
              obtain ⟨q, hq, rfl, hbx⟩ := hrel
              have HBX := Lib.hid hbx
              have tx := blk_below hbx hl7 t7
              have hlx := blk_lt tx
              clear hbx
              by_cases hql : q < H.length + 1
              · have hdq : ((q : Nat) : Int) < ((H.length + 1 : Nat) : Int) := by omega
                have hmem : (H ++ [t])[q]? = some ((H ++ [t])[q]'(by simp; omega)) := List.getElem?_eq_getElem _
                have hc := (HQ4.out q hql)
                rw [HHL.out, List.getElem?_map, hmem] at hc
                have hfound := HI2.out.found (List.mem_of_getElem? hmem)
                generalize (H ++ [t])[q]'(by simp; omega) = hh at *
                obtain ⟨x, hx, hfx, hnm⟩ := hfound
                have hc' : w7.cell? ⟨q7, q, none⟩ = some (.string hh) := hc
                have hcx := (HBX.out.cell (p := ⟨q7, q, none⟩) hq2).trans hc'
                have hqx : q7 < wr.heap.size := by have := HBX.out.size; omega
                have hcg : ∀ d os, (Go.Sort.grow (redrawn wr d) os).cell? ⟨q7, q, none⟩ = some (.string hh) := fun d os => ((below_regrown wr d os).cell (p := ⟨q7, q, none⟩) hqx).trans hcx
                have HFQ : Hid (∀ W, Calls Try.prog 12 #[.agg (tabv F), .string hh] W fun e w' => e = .returned (.int .i64 (x : Nat)) ∧ Below W.heap.size W w') := Lib.hid fun W => by
                  have hsz : hh.size ≤ 9223372036854775807 := HHS.out hh (List.mem_of_getElem? hmem)
                  have h := find_any F hh hsz W
                  rw [hfx] at h
                  exact h
                have HT8 := Lib.hid (fun d os => blk_below (below_regrown wr d os) hlx tx)
                have tnm := tabv_nm F x hx
                rw [hnm] at tnm
                have HTN := Lib.hid tnm
                have HQX := Lib.hid (And.intro hcx hqx)
                clear hmem hc hc' hfx hnm tnm
                go_wp2
                refine wp_region_quiet_below (by kernel_rfl) (by kernel_rfl) ?_
                refine wpq_load26 rfl _ rfl rfl tx ?_
                first | go_big_quiet_step (fail) | quiet_step (fail)
                first | go_big_quiet_step (fail) | quiet_step (fail)
                first | go_big_quiet_step (fail) | quiet_step (fail)
                first | go_big_quiet_step (fail) | quiet_step (fail)
                first | go_big_quiet_step ((go_at_call 12; exact Calls.regrown_of (HFQ.out _))) | quiet_step ((go_at_call 12; exact Calls.regrown_of (HFQ.out _)))
                first | go_big_quiet_step (fail) | quiet_step (fail)
                refine wpQuiet_nil ?_
                intro w8 hw8
                have hb8 := near_iff.1 hw8
                have t8 := blk_below hb8 hlx tx
                have HB8 := Lib.hid (HBX.out.trans (hb8.mono HBX.out.size))
                have e0 := (hb8.cell (p := ⟨q7, q, none⟩) HQX.out.2).trans HQX.out.1
                have e1 := blk_cell t8 HTN.out
                have hxi : ((x : Nat) : Int) < 16 := by omega
                have hxd : decide (((x : Nat) : Int) < 0) = false := decide_eq_false (by omega)
                clear hw8 hb8 hcg
                go_wp2
                go_quiet (fail)
                go_wp2
                exact ⟨⟨q + 1, by omega, by go_num, below_drewN HB8.out _⟩, by simp [intOf]; omega⟩
              · obtain rfl : q = H.length + 1 := by omega
                have hnl : ¬ (((H.length + 1 : Nat) : Int) < ((H.length + 1 : Nat) : Int)) := by omega
                go_wp2
                exact ⟨⟨k + 1, F, H ++ [t], HHS.out, by omega, by omega, by go_num, by simp; omega, tx, by rw [← HHL.out]; simpa using own_below HO7.out HBX.out, HI2.out, HB7.out.trans (HBX.out.mono HB7.out.size)⟩, by simp [intOf]; omega⟩
    · have hcnt := HI.out.cnt
      have HCNT := Lib.hid hcnt
      clear hcnt
      have HNM := Lib.hid fun W => names_any f W
      have hd : ¬ k < n ∨ (k < n ∧ ¬ ((k : Int) < 20)) := by
        by_cases h1 : k < n
        · exact .inr ⟨h1, by omega⟩
        · exact .inl h1
      clear hlk
      rcases hd with hd1 | ⟨hd1, hd2⟩
      all_goals
        go_wp2_with ((with_reducible refine ld26 ?_ ht ?_); exact rfl)
        refine (HNM.out _).mono ?_
        rintro e w2 ⟨v2, rfl, ho2, hb2⟩
        obtain ⟨A2, c2, rfl, _⟩ := own_shape ho2
        have HB2 := Lib.hid (below_then HBEL.out hb2)
        have heq : (((nms f 16).length : Int) == (H.length : Int)) = true := by rw [HCNT.out]; simp
        generalize (nms f 16).length = L at *
        clear hb2 ho2
        go_wp2_with fail
        refine (lives_any _).mono ?_
        rintro e w3 ⟨rfl, hb3⟩
        have HB3 := Lib.hid (below_then HB2.out hb3)
        clear hb3
        go_wp2
        go_ret
        exact ⟨rfl, HB3.out⟩
/-! ### THE ROW -/
set_option maxRecDepth 100000 in
theorem dirFill_lifted (os : Os) (started : os.Started) (H : Type) (enc : TypeId × Value → H) :
    ReturnsInHanded {} Try.checked os 8 .any (Rows.dirFillSpec.pre6 enc Try.prog Try.f8 Rows.dirFillRow.domain false) (Rows.dirFillSpec.post enc Try.prog Try.f8 false true false false) := by
  refine returnsInHanded_of_change (C := Try.checked) own started (by kernel_rfl) Try.func8
    (ChangeSpec.witness6 (enc := enc) (C := Try.checked) false ⟨#[], #[.slice none 0 0], []⟩ 8 (by kernel_rfl) (by kernel_rfl) (by kernel_rfl) (by kernel_rfl)) ?_
  intro W base args ds gs before hval0 hW _ _
  have hval : ∀ (j : Nat) t v, Try.f8.params[j]? = some t → args[j]? = some v → Value.okWide Try.prog W .any base t v := hval0
  have hW' := hW
  obtain ⟨p, q, hA0, hV, rfl, _, _⟩ := hW
  have hA : DataW.TrodAll enc Try.prog W 0 (fun _ => true) true Try.f8.params.toList args.toList ds p := hA0
  rw [Try.params8] at hA hval
  obtain ⟨v0, vs0, d0, ds0, p0, q0, hargs, rfl, rfl, h0, r0⟩ := trodAll_cons hA
  obtain ⟨rfl, rfl, rfl⟩ := trodAll_nil r0
  obtain rfl : args = #[v0] := by cases args; simp_all
  obtain ⟨rfl, rfl⟩ := trodVars_none hV
  have k0 := h0
  have lt0 : ∀ x ∈ p0, x.block < W.heap.size := by obtain ⟨m, hm⟩ := k0; exact DataW.trod_lt m _ _ _ hm
  obtain ⟨f0, n0, w0⟩ := open_txt (hval 0 52 v0 rfl rfl) h0
  clear hA0 hval0
  refine (lawFill w0).mono fun e W' ⟨he, bel⟩ => ?_
  subst he
  exact ⟨_, rfl, _, _, _, [], _, [], hW', trodAll_mk1 (shut_bool Try.underlying4 _), (trodAll_cons_mk (Below.trod laidOut (by kernel_rfl) (of_decide_eq_true (by kernel_rfl)) k0 bel lt0) trodAll_mk0), rfl, bel.frame _, fun h => by cases h⟩
theorem dirFill_over : Rows.dirFillRow.holds Try.pinned (OpenSpec.ofChange Rows.dirFillSpec) :=
  OpenClaim.holds_of_wide 8 Try.f8 rfl rfl rfl rfl rfl rfl rfl ⟨rfl, rfl, rfl, rfl, rfl⟩ rfl rfl rfl rfl rfl (by kernel_rfl) Try.func8 (by kernel_rfl)
    (of_decide_eq_true (by kernel_rfl)) (by unfold Func.isWrapper; first | (rw [if_pos (by decide +kernel)]; kernel_rfl) | (rw [if_neg (by decide +kernel)]; exact ⟨rfl, rfl⟩))
    (fun os started H enc _ => dirFill_lifted os started H enc)
/-- THE STATEMENT. -/
theorem dirFill_holds : Rows.DirFillSaid := dirFill_over
end Go.Proofs.Ythhcgdmpbihdnaa
