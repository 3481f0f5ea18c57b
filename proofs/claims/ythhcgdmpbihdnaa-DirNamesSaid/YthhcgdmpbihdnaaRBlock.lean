/-
  The reference's Block; Same of bytes.
-/
import Derived.Test.YthhcgdmpbihdnaaBlock
namespace Go.Proofs.Ythhcgdmpbihdnaa
open Go.RowKit Go.Deep
def lenV : Value → Nat
  | .slice _ n _ => n
  | _ => 0
theorem bl_zero2 (a b : Nat) : bl [a, b] = [.int .u8 (a : Nat), .int .u8 (b : Nat)] := rfl
theorem wp_appx {o : Oper} {a : Act} {K : Act → World → Prop} {Q : Exit → Act → World → Prop} {w : World} {B : Nat}
    (s x : Operand) (ho : o.op = .call { callee := .builtin .append, args := #[s, x], argTypes := #[39, 39] }) {v : Value} {n : Nat} {xs : List Value} {m : Nat} {cs : List Value} (hcs : cs.length = m) (h1 : ∀ u ∈ cs, u.oneCell' = true)
    (hs : a.eval s = v) (hown : w.ownsRow B 5 1 v n xs) (hx : a.eval x = .slice (some ⟨w.heap.size, 0, none⟩) m m) (hn : n + m < 1000000) (hB : B ≤ w.heap.size)
    (h : ∀ v' w', w'.ownsRow B 5 1 v' (n + m) (xs ++ cs) → w.grownBy w' v.ownBlock → K (a.put o.dst v') w') : o.wp Try.prog a (w.alloc (.cells cs.toArray 5)) K Q := by
  obtain ⟨i0, hi, hz0, hz, hb⟩ := info_parts info5
  obtain ⟨v', w', hr, h1, h2, _⟩ := run_append_own (P := Try.prog) (w.alloc (.cells cs.toArray 5)) B 39 o.type 5 i0 _ 1 1 Try.underlying39 hi hz0 hz hb rfl (by decide) v n xs (hown.alloc _) ⟨w.heap.size, 0, none⟩ m m cs (by omega) (fun j y hj => by
    rw [add_lit', Nat.zero_add]
    exact blk_cell (heap_alloc_new _ _) (by simpa using hj)) h1 (by unfold maxLen; omega) (by omega) (by simp; omega)
  unfold Oper.wp execOp
  simp only [ho, resolve, invoke, builtin, Sem.run_bind, Sem.run_pure, Result.andThen_ok, List.map_toArray, List.map_cons, List.map_nil, hs, hx, hr]
  exact h v' w' h1 (only_trans (World.grownBy_alloc w _ _) h2)
set_option maxRecDepth 100000 in
set_option maxHeartbeats 1000000 in
theorem rblock_in {w : World} {v : Value} {f : Nat → Ent} (hr : Rw w v f 16) (hf : ∀ i, (f i).nm.size ≤ 9223372036854775807) (k : Nat) (hk : k < 4) : Calls Try.prog 23 #[v, .int .i64 k] w (BlkPost f k w) := by
  obtain ⟨g, cap, cur, rfl, hg, hc1, hc2, hc3, hc4⟩ := hr
  have HGET := Lib.hid (rw_get hc4)
  have hgl := blk_lt hg
  have hk4 : (k : Int) ≤ 3 := by omega
  have hkd : decide (3 < (k : Int)) = false := decide_eq_false (by omega)
  have hkd0 : decide ((k : Int) < 0) = false := decide_eq_false (by omega)
  have HHF := Lib.hid hf
  unfold maxLen at hc2
  clear hc3 hc4 hf
  go_enter Try.func23, Try.ntmps23
  go_wp2
  go_loopw [6, 7, 8] (fun y i _ wr => ∃ j : Nat, j ≤ 4 ∧ i = .int .i64 (4 * (k : Int) + j) ∧ wr.ownsRow w.heap.size 5 1 y (bts f (4 * k) j).length (bl (bts f (4 * k) j)) ∧ okE f (4 * k) j = true ∧ Below w.heap.size w wr) (fun _ i _ _ => (4 * k + 4) - (intOf i).toNat)
  case atStart => exact ⟨0, Nat.zero_le _, by simp, World.ownsRow_nil _ _ _ _, rfl, Below.refl _ _⟩
  case round =>
    obtain ⟨j, hj, rfl, hown, hok, hbel⟩ := hrel
    have hl := bts_len f (4 * k) j hok
    rw [hl] at hown
    have hb := blk_below hbel hgl hg
    have hsz2 := hbel.size
    have HBEL := Lib.hid hbel
    have HOWN := Lib.hid hown
    have HOK := Lib.hid hok
    have HL := Lib.hid hl
    clear hbel hown hok hl
    by_cases hlt : j < 4
    · have hd1 : 4 * (k : Int) + (j : Int) < 4 * (k : Int) + 4 := by omega
      have c0 := blk_cell hb ((HGET.out ((4 * k + j) * 2) (by omega)).trans (ecs_nm f 16 (4 * k + j) (by omega)))
      have c1 := blk_cell hb ((HGET.out ((4 * k + j) * 2 + 1) (by omega)).trans (ecs_ino f 16 (4 * k + j) (by omega)))
      have hm := HHF.out (4 * k + j)
      have HMAY := Lib.hid fun W => rmay_any (f (4 * k + j)) hm W
      have HNO := Lib.hid fun h => okE_no f (4 * k) j h 4 hlt
      have HOK2 : Hid (mayE (f (4 * k + j)) = true → okE f (4 * k) (j + 1) = true) := Lib.hid fun h => by rw [okE, HOK.out, h]; rfl
      have HBT : Hid (bts f (4 * k) (j + 1) = bts f (4 * k) j ++ eb (f (4 * k + j))) := Lib.hid rfl
      have hbd : Hid (mayE (f (4 * k + j)) = true → _) := Lib.hid mayE_bd
      generalize hE : f (4 * k + j) = E at *
      obtain ⟨s, n⟩ := E
      simp only at c0 c1 HMAY hm
      have hidx : (4 * (k : Int) + (j : Int)).toNat = 4 * k + j := by omega
      have hi0 : 0 ≤ 4 * (k : Int) + (j : Int) := by omega
      have hi1 : 4 * (k : Int) + (j : Int) < 16 := by omega
      go_wp2_with fail
      refine (HMAY.out _).mono ?_
      rintro e w2 ⟨rfl, hb2⟩
      have x2 := blk_below hb2 (blk_lt hb) hb
      have HB2 := Lib.hid (below_then HBEL.out hb2)
      have HO2 := Lib.hid (own_below HOWN.out hb2)
      have hs2 := hb2.size
      have hgl2 := blk_lt x2
      clear hb2
      cases hmb : mayE ⟨s, n⟩
      · have HR := Lib.hid (HNO.out hmb)
        clear hmb c0 c1
        go_wp2
        go_ret2
        exact .inr ⟨HR.out, rfl, HB2.out⟩
      · obtain ⟨n0, n32, s12⟩ := hbd.out hmb
        obtain ⟨m, rfl⟩ := Int.eq_ofNat_of_zero_le n0
        have HOK3 := Lib.hid (HOK2.out hmb)
        have HBT3 : Hid (bts f (4 * k) (j + 1) = bts f (4 * k) j ++ ([m, s.size] ++ sb s ++ List.replicate (14 - s.size) 0)) := Lib.hid (by rw [HBT.out]; simp [eb])
        have d0 := blk_cell x2 ((HGET.out ((4 * k + j) * 2) (by omega)).trans (ecs_nm f 16 (4 * k + j) (by omega)))
        have d1 := blk_cell x2 ((HGET.out ((4 * k + j) * 2 + 1) (by omega)).trans (ecs_ino f 16 (4 * k + j) (by omega)))
        rw [hE] at d0 d1
        simp only at d0 d1
        generalize bts f (4 * k) j = l at *
        have hlen := HL.out
        have HLEN := Lib.hid hlen
        have HEE := Lib.hid hE
        have hw1 : IntKind.u8.wrap (m : Int) = m := by rw [IntKind.wrap_u8']; omega
        have hw2 : IntKind.u8.wrap (s.size : Int) = s.size := by rw [IntKind.wrap_u8']; omega
        clear hmb c0 c1 HNO HOK2 HBT hbd HMAY hlen hE
        obtain ⟨y0, hy0⟩ : ∃ y0, y0 = u6 := ⟨_, rfl⟩
        subst hy0
        go_wp2_with fail
        refine wp_region_any (by kernel_rfl) ?_
        change wpAny _ _ _ _ _ _ _ (World.drew w2)
        refine wpAny_take (i := 0) (v := y0) rfl (by kernel_rfl) (by kernel_rfl) (by kernel_rfl) (fun _ _ _ h => h) (Or.inl ⟨by rfl, fun w => by go_simp⟩) ?_
        refine wpAny_take (i := 1) (v := .slice (some ⟨g, 0, none⟩) 16 cap) rfl (by kernel_rfl) (by kernel_rfl) (by kernel_rfl) (fun _ _ _ h => h) (Or.inl ⟨by rfl, fun w => by go_simp⟩) ?_
        refine wpAny_take (i := 2) (v := .int .i64 (4 * (k : Int) + (j : Int))) rfl (by kernel_rfl) (by kernel_rfl) (by kernel_rfl) (fun _ _ _ h => h) (Or.inl ⟨by rfl, fun w => by go_simp⟩) ?_
        refine wpAny_take (i := 3) (v := .pointer (some ⟨g, (4 * k + j) * 2, none⟩)) rfl (by kernel_rfl) (by kernel_rfl) (by kernel_rfl) (fun _ _ _ h => h) (Or.inl ⟨by rfl, fun w => by go_simp⟩) ?_
        refine wpAny_take (i := 4) (v := .pointer (some ⟨g, (4 * k + j) * 2 + 1, none⟩)) rfl (by kernel_rfl) (by kernel_rfl) (by kernel_rfl) (fun _ _ _ h => h) (Or.inl ⟨by rfl, fun w => by go_simp⟩) ?_
        refine wpAny_take (i := 7) (v := .slice (some ⟨g, 0, none⟩) 16 cap) rfl (by kernel_rfl) (by kernel_rfl) (by kernel_rfl) (fun _ _ _ h => h) (Or.inl ⟨by rfl, fun w => by go_simp⟩) ?_
        refine wpAny_take (i := 8) (v := .int .i64 (4 * (k : Int) + (j : Int))) rfl (by kernel_rfl) (by kernel_rfl) (by kernel_rfl) (fun _ _ _ h => h) (Or.inl ⟨by rfl, fun w => by go_simp⟩) ?_
        refine wpAny_take (i := 9) (v := .pointer (some ⟨g, (4 * k + j) * 2, none⟩)) rfl (by kernel_rfl) (by kernel_rfl) (by kernel_rfl) (fun _ _ _ h => h) (Or.inl ⟨by rfl, fun w => by go_simp⟩) ?_
        refine wpAny_take (i := 10) (v := .pointer (some ⟨g, (4 * k + j) * 2, none⟩)) rfl (by kernel_rfl) (by kernel_rfl) (by kernel_rfl) (fun _ _ _ h => h) (Or.inl ⟨by rfl, fun w => by go_simp⟩) ?_
        have d0' : w2.drew.cell? ⟨g, (4 * k + j) * 2, none⟩ = some (.string s) := d0
        have d1' : w2.drew.cell? ⟨g, (4 * k + j) * 2 + 1, none⟩ = some (.int .i64 (m : Nat)) := d1
        have x2' : w2.drew.heap[g]? = some (.cells cur 24 (0, 0)) := x2
        have HB2' := Lib.hid (show Below w.heap.size w w2.drew from HB2.out.drew)
        have HO2' : Hid (w2.drew.ownsRow w.heap.size 5 1 y0 (16 * j) (bl l)) := Lib.hid (own_below HO2.out ((Below.refl _ _).drew))
        have hs2' : w2.heap.size ≤ w2.drew.heap.size := Nat.le_refl _
        clear HO2
        have HO2 := HO2'
        clear HO2'
        generalize w2.drew = w2d at *
        refine wpAny_ready (rs := [5, 11]) (by kernel_rfl) (by simp) ?_
        refine AllReady.cons rfl (fun K hK => ?_) (AllReady.cons rfl (fun K hK => ?_) AllReady.nil)
        all_goals
          go_simp
          refine hK _ _ ?_
          clear hK K
        refine wpAny_take (i := 6) (v := .int .u8 (m : Nat)) rfl (by kernel_rfl) (by kernel_rfl) (by kernel_rfl) (fun _ _ _ h => h) (Or.inl ⟨by rfl, fun w => by go_simp⟩) ?_
        refine wpAny_one 11 _ (by kernel_rfl) rfl rfl (fun K hK => ?_)
        go_simp
        refine hK _ _ ?_
        clear hK K
        refine wpAny_take (i := 12) (v := .int .i64 (s.size : Nat)) rfl (by kernel_rfl) (by kernel_rfl) (by kernel_rfl) (fun _ _ _ h => h) (Or.inl ⟨by rfl, fun w => by go_simp⟩) ?_
        refine wpAny_take (i := 13) (v := .int .u8 (s.size : Nat)) rfl (by kernel_rfl) (by kernel_rfl) (by kernel_rfl) (fun _ _ _ h => h) (Or.inl ⟨by rfl, fun w => by go_simp⟩) ?_
        rotate_left
        refine wpAny_take (i := 12) (v := .int .i64 (s.size : Nat)) rfl (by kernel_rfl) (by kernel_rfl) (by kernel_rfl) (fun _ _ _ h => h) (Or.inl ⟨by rfl, fun w => by go_simp⟩) ?_
        refine wpAny_take (i := 13) (v := .int .u8 (s.size : Nat)) rfl (by kernel_rfl) (by kernel_rfl) (by kernel_rfl) (fun _ _ _ h => h) (Or.inl ⟨by rfl, fun w => by go_simp⟩) ?_
        refine wpAny_one 5 _ (by kernel_rfl) rfl rfl (fun K hK => ?_)
        go_simp
        refine hK _ _ ?_
        clear hK K
        refine wpAny_take (i := 6) (v := .int .u8 (m : Nat)) rfl (by kernel_rfl) (by kernel_rfl) (by kernel_rfl) (fun _ _ _ h => h) (Or.inl ⟨by rfl, fun w => by go_simp⟩) ?_
        all_goals
          refine wpAny_one 14 _ (by kernel_rfl) rfl rfl (fun K hK => ?_)
          go_simp
          refine hK _ _ ?_
          clear hK K
          refine wpAny_one 15 _ (by kernel_rfl) rfl rfl (fun K hK => ?_)
          refine wp_appx (m := 2) (cs := [.int .u8 (m : Nat), .int .u8 (s.size : Nat)]) _ _ rfl rfl (by intro u hu; simp at hu; rcases hu with rfl | rfl <;> rfl) rfl HO2.out rfl (by omega) (by omega) ?_
          intro v3 w3 ho3 hg3
          refine hK _ _ ?_
          clear hK K
          refine wpAny_one 16 _ (by kernel_rfl) rfl rfl (fun K hK => ?_)
          go_simp
          refine hK _ _ ?_
          clear hK K
          refine wpAny_done (by kernel_rfl) ?_ _
          have x3 := (hg3.block g (by omega) (fun e => by have := (HO2.out.lt g e.symm).1; omega)).trans x2'
          have HB3 := Lib.hid (HB2'.out.grown hg3 (by omega) (fun b hb => (HO2.out.lt b hb).1))
          have hs3 := hg3.size
          have e0 := blk_cell x3 ((HGET.out ((4 * k + j) * 2) (by omega)).trans (ecs_nm f 16 (4 * k + j) (by omega)))
          rw [HEE.out] at e0
          simp only at e0
          obtain ⟨q3, cap3, rfl, _, _, _, _⟩ := own_at ho3 (by omega)
          have HO3 := Lib.hid ho3
          obtain ⟨i0, hi5, hz5, hsz5, hby5⟩ := info_parts info5
          have HI5 := Lib.hid (And.intro hi5 (And.intro hz5 (And.intro hsz5 hby5)))
          clear ho3 hg3 hi5 hz5 hsz5 hby5
          go_wp2_with (at_builtin; refine Lib.wpList_append_own_string _ rfl _ _ 39 9 rfl w.heap.size 5 i0 Try.underlying39 Try.underlying9 HI5.out.1 HI5.out.2.1 HI5.out.2.2.1 HI5.out.2.2.2 _ (16 * j + 2) _ rfl HO3.out s rfl (by unfold maxLen; omega) (by omega) (by omega) ?_; intro v5 w5 ho5 hg5 _; obtain ⟨q5, cap5, rfl, _, _, _, _⟩ := own_at ho5 (by omega); have HB5 := Lib.hid (HB3.out.grown hg5 (by omega) (fun b hb => (HO3.out.lt b hb).1)); have HO5 := Lib.hid ho5; clear hg5 ho5)
          clear e0 x3 d0' d1' d0 d1
          go_loopw [6] (fun y wx => ∃ z : Nat, z ≤ 14 - s.size ∧ wx.ownsRow w.heap.size 5 1 y (16 * j + 2 + s.size + z) (bl (l ++ ([m, s.size] ++ sb s ++ List.replicate z 0))) ∧ Below w.heap.size w wx) (fun y _ => 16 * j + 16 - lenV y)
          case atStart =>
            refine ⟨0, Nat.zero_le _, ?_, HB5.out⟩
            have h5 := HO5.out
            rw [sb_cells, ← bl_zero2, ← bl_app, ← bl_app] at h5
            simpa using h5
          case round =>
            obtain ⟨z, hz, hown, hbel⟩ := hrel
            obtain ⟨q, cp, rfl, _, _, _, _⟩ := own_at hown (by omega)
            have HOW := Lib.hid hown
            have HBW := Lib.hid hbel
            have hsw := hbel.size
            clear hown hbel
            by_cases hz2 : z < 14 - s.size
            · have hmod : ((16 * j + 2 + s.size + z : Nat) : Int) % 16 = 2 + (s.size : Int) + z := by omega
              generalize hL : 16 * j + 2 + s.size + z = L at *
              have hne : (((L : Nat) : Int) % 16 == 0) = false := by simp; omega
              have hne2 : (((L : Nat) : Int) % 16 != 0) = true := by simp; omega
              have HL2 := Lib.hid hL
              have HM := Lib.hid hmod
              clear hmod hL
              go_wp2_with (at_builtin; refine wpl_appx (m := 1) (cs := [.int .u8 0]) rfl _ _ rfl rfl (by intro u hu; simp at hu; subst hu; rfl) rfl HOW.out rfl (by have := HL2.out; omega) hsw ?_; intro v7 w7 ho7 hg7; have HO7 := Lib.hid ho7; have HB7 := Lib.hid (HBW.out.grown hg7 hsw (fun b hb => (HOW.out.lt b hb).1)); obtain ⟨q7, cp7, rfl, _, _, _, _⟩ := own_at ho7 (by omega); clear ho7 hg7)
              refine ⟨⟨z + 1, by omega, ?_, HB7.out⟩, by have := HL2.out; simp [lenV]; omega⟩
              have h7 := HO7.out
              have hb1 : bl (l ++ ([m, s.size] ++ sb s ++ List.replicate (z + 1) 0)) = bl (l ++ ([m, s.size] ++ sb s ++ List.replicate z 0)) ++ [.int .u8 0] := by
                simp [bl, List.replicate_succ']
              rw [hb1, show 16 * j + 2 + s.size + (z + 1) = L + 1 by have := HL2.out; omega]
              exact h7
            · obtain rfl : z = 14 - s.size := by omega
              have hmod : ((16 * j + 2 + s.size + (14 - s.size) : Nat) : Int) % 16 = 0 := by omega
              generalize hL : 16 * j + 2 + s.size + (14 - s.size) = L at *
              have hne : (((L : Nat) : Int) % 16 == 0) = true := by simp; omega
              have hne2 : (((L : Nat) : Int) % 16 != 0) = false := by simp; omega
              have HL2 := Lib.hid hL
              clear hmod hL
              go_wp2
              refine ⟨⟨j + 1, by omega, int_eq (by omega), ?_, HOK3.out, HBW.out⟩, by simp [intOf]; omega⟩
              rw [HBT3.out]
              have hln : (l ++ ([m, s.size] ++ sb s ++ List.replicate (14 - s.size) 0)).length = L := by rw [← HL2.out]; simp [HLEN.out, sb_len]; omega
              rw [hln]
              exact HOW.out
    · obtain rfl : j = 4 := by omega
      have hd1 : ¬ (4 * (k : Int) + ((4 : Nat) : Int) < 4 * (k : Int) + 4) := by omega
      go_wp2
      go_ret2
      exact .inl ⟨HOK.out, _, rfl, HOWN.out, HBEL.out⟩
theorem rblock_out (v : Value) (k : Int) (hk : ¬ (0 ≤ k ∧ k < 4)) (w : World) : Calls Try.prog 23 #[v, .int .i64 k] w fun e w' => e = .returned (.tuple #[.slice none 0 0, .int .i64 1]) ∧ Below w.heap.size w w' := by
  have hor : k < 0 ∨ (0 ≤ k ∧ 3 < k) := by omega
  clear hk
  rcases hor with h | ⟨h, h2⟩
  all_goals
    go_enter Try.func23, Try.ntmps23
    go_wp2
    go_ret2
    exact ⟨rfl, Below.refl _ _⟩
set_option maxHeartbeats 1000000 in
theorem sameB_yes {w : World} {v v' : Value} {l : List Nat} (h1 : Byt w v l) (h2 : Byt w v' l) (hl : l.length < 1000) : Calls Try.prog 24 #[v, v'] w fun e w' => e = .returned (.bool true) ∧ Below w.heap.size w w' := by
  obtain ⟨A1, cap1, rfl, _, _, _, ha⟩ := h1
  obtain ⟨A2, cap2, rfl, _, _, _, hb⟩ := h2
  have HA := Lib.hid ha
  have HB := Lib.hid hb
  clear ha hb
  generalize hn : l.length = n at *
  have HN := Lib.hid hn
  clear hn
  go_enter Try.func24, Try.ntmps24
  go_wp2
  go_loopw [5] (fun i wr => ∃ k : Nat, k ≤ n ∧ i = .int .i64 k ∧ Below w.heap.size w wr) (fun i _ => n - (intOf i).toNat)
  case atStart => exact ⟨0, Nat.zero_le _, rfl, Below.refl _ _⟩
  case round =>
    obtain ⟨k, hk, rfl, hbel⟩ := hrel
    have HBEL := Lib.hid hbel
    clear hbel
    by_cases hlt : k < n
    · obtain ⟨b1, o1, rfl, l1, c1⟩ := HA.out (by omega)
      obtain ⟨b2, o2, rfl, l2, c2⟩ := HB.out (by omega)
      have d1 := (HBEL.out.cell (p := ⟨b1, o1 + k, none⟩) l1).trans (c1 k hlt)
      have d2 := (HBEL.out.cell (p := ⟨b2, o2 + k, none⟩) l2).trans (c2 k hlt)
      have hd : ((k : Nat) : Int) < n := by omega
      clear c1 c2
      generalize l.getD k 0 = x at *
      go_wp2
      go_quiet (fail)
      go_wp2
      exact ⟨⟨k + 1, by omega, by go_num, below_drewN HBEL.out _⟩, by simp [intOf]; omega⟩
    · obtain rfl : k = n := by omega
      go_wp2
      go_ret
      exact ⟨rfl, HBEL.out⟩
end Go.Proofs.Ythhcgdmpbihdnaa
