/-
  The reference's names: put in one by one.
-/
import Derived.Test.YthhcgdmpbihdnaaIns
import Derived.Test.YthhcgdmpbihdnaaSame
import Derived.Test.YthhcgdmpbihdnaaRef
namespace Go.Proofs.Ythhcgdmpbihdnaa
open Go.RowKit Go.Deep
theorem bless : ∀ (x y : List UInt8), Op.bytesLess x y = decide (x < y)
  | [], [] => by simp [Op.bytesLess]
  | _ :: _, [] => by simp [Op.bytesLess]
  | [], _ :: _ => by simp [Op.bytesLess]
  | a :: x, b :: y => by
    rw [Op.bytesLess, bless x y]
    simp only [List.cons_lt_cons_iff]
    by_cases h1 : a < b <;> by_cases h2 : a = b <;> by_cases h3 : x < y <;> simp [h1, h2, h3]
theorem bless_str (s t : ByteArray) : Op.bytesLess s.toList t.toList = decide (s.data.toList < t.data.toList) := by rw [bless, ByteArray.toList_eq, ByteArray.toList_eq]
set_option maxRecDepth 100000 in
set_option maxHeartbeats 1000000 in
theorem rnames_any {w : World} {v : Value} {f : Nat → Ent} (hr : Rw w v f 16) :
    Calls Try.prog 30 #[v] w fun e w' => ∃ v', e = .returned v' ∧ w'.ownsRow w.heap.size 9 1 v' (outs f 16).length ((outs f 16).map encStr) ∧ Below w.heap.size w w' := by
  obtain ⟨g, cap, cur, rfl, hg, hc1, hc2, hc3, hc4⟩ := hr
  have hget := rw_get hc4
  have HGET := Lib.hid hget
  have hgl := blk_lt hg
  have HC := Lib.hid (And.intro hc3 hc4)
  clear hget hc3 hc4
  have h0 : outs f 0 = [] := by simp [outs, nms]
  have H0 := Lib.hid h0
  clear h0
  go_enter Try.func30, Try.ntmps30
  go_wp2
  go_loopw [3, 4, 5, 6, 7] (fun o i _ _ _ wo => ∃ k : Nat, k ≤ 16 ∧ i = .int .i64 k ∧ wo.ownsRow w.heap.size 9 1 o (outs f k).length ((outs f k).map encStr) ∧ Below w.heap.size w wo) (fun _ i _ _ _ _ => 16 - (intOf i).toNat)
  case atStart => exact ⟨0, Nat.zero_le _, rfl, by rw [H0.out]; exact World.ownsRow_nil _ _ _ _, Below.refl _ _⟩
  case round =>
    obtain ⟨wo, hwo⟩ : ∃ wo, wo = wr := ⟨wr, rfl⟩
    subst hwo
    obtain ⟨k, hk, rfl, hown, hbel⟩ := hrel
    have hsw := hbel.size
    have hg' := blk_below hbel hgl hg
    have HBEL := Lib.hid hbel
    have HOWN := Lib.hid hown
    clear hbel hown
    by_cases hlt : k < 16
    · have hcf0 : wo.cell? ⟨g, k * 2, none⟩ = some (.string (f k).nm) := by
        rw [cell_of_row _ _ _ _ _ _ hg', HGET.out _ (by omega), ecs_nm f 16 _ hlt]
      have hgw : g < wo.heap.size := blk_lt hg'
      have hst := outs_succ f k
      have hol := outs_len f k
      have HE := Lib.hid (enc_nm (f k).nm)
      generalize (f k).nm = x at *
      cases hem : x.toList.isEmpty
      · rw [hem] at hst
        have HST := Lib.hid hst
        have HCF := Lib.hid fun W (h : Below wo.heap.size wo W) => (h.cell (p := ⟨g, k * 2, none⟩) hgw).trans hcf0
        clear hst
        obtain ⟨q0, cq, rfl, hq0⟩ := own_shape HOWN.out
        have HQ0 := Lib.hid hq0
        clear hq0
        generalize hO : outs f k = O at *
        go_wp2
        go_loopw [5, 6, 7] (fun nx p q wx => ∃ j : Nat, j ≤ O.length ∧ q = .int .i64 j ∧ p = .bool (rnd x.data.toList O j).2 ∧ wx.ownsRow wo.heap.size 9 1 nx (rnd x.data.toList O j).1.length ((rnd x.data.toList O j).1.map encStr) ∧ Below wo.heap.size wo wx) (fun _ _ q _ => O.length - (intOf q).toNat)
        case atStart => exact ⟨0, Nat.zero_le _, rfl, rfl, World.ownsRow_nil _ _ _ _, Below.refl _ _⟩
        case round =>
          obtain ⟨j, hj, rfl, rfl, hown, hbx⟩ := hrel
          have HBX := Lib.hid hbx
          have HOX := Lib.hid hown
          clear hbx hown
          by_cases hjl : j < O.length
          · obtain ⟨b0, rfl, hb1, hb2, hb3⟩ := HQ0.out (by omega)
            have hmem : O[j]? = some (O[j]'hjl) := List.getElem?_eq_getElem _
            have hrs := rnd_succ x.data.toList O j _ hmem
            have hlen := rnd_len x.data.toList O j hj
            have hcy := hb3 j hjl
            rw [List.getElem?_map, hmem] at hcy
            generalize O[j]'hjl = Y at *
            have hcy' : wo.cell? ⟨b0, j, none⟩ = some (.string ⟨Y.toArray⟩) := hcy
            have HEY : Hid (encStr Y = .string ⟨Y.toArray⟩) := Lib.hid rfl
            have hYd : (⟨Y.toArray⟩ : ByteArray).data.toList = Y := rfl
            generalize (⟨Y.toArray⟩ : ByteArray) = y at *
            have HCY := Lib.hid fun W (h : Below wo.heap.size wo W) => (h.cell (p := ⟨b0, j, none⟩) hb2).trans hcy'
            have hcx := HCF.out _ HBX.out
            have hcyx := HCY.out _ HBX.out
            have HRS := Lib.hid hrs
            have HLT := Lib.hid (bless_str x y)
            clear hmem hrs hcy hcy' hb3
            generalize hR : rnd x.data.toList O j = R at *
            obtain ⟨R1, R2⟩ := R
            simp only at hlen HOX
            cases R2
            · simp at hlen
              cases hbl : Op.bytesLess x.toList y.toList
              · have hnl : ¬ x.data.toList < Y := by have h := HLT.out; rw [hbl] at h; rw [← hYd]; simpa using h.symm
                have HR1 : Hid (rnd x.data.toList O (j + 1) = (R1 ++ [Y], false)) := Lib.hid (by rw [HRS.out]; simp [stp, hnl])
                go_wp2
                go_quiet (fail)
                have HB1 := Lib.hid (below_drewN HBX.out nq)
                have HO1 := Lib.hid (own_below HOX.out (below_drewN (Below.refl _ _) nq))
                have hc1 := HCY.out _ HB1.out
                have hd1 := HCF.out _ HB1.out
                clear hcx hcyx
                generalize wr.drewN nq = w1 at *
                go_wp2_with (at_builtin; refine wpl_app 52 9 (.string { data := #[] }) 16 Try.underlying52 info9 rfl (by decide) rfl _ _ rfl rfl HO1.out HB1.out HB1.out.size rfl rfl (by omega) ?_; intro v2 w2 hown2 hb2 _; have HO2 := Lib.hid hown2; have HB2 := Lib.hid hb2; clear hown2 hb2)
                exact ⟨⟨j + 1, by omega, by go_num, by rw [HR1.out], by rw [HR1.out]; simp only [List.length_append, List.length_cons, List.length_nil, List.map_append, List.map_cons, List.map_nil, HEY.out]; simpa using HO2.out, HB2.out⟩, by simp [intOf]; omega⟩
              · have hl : x.data.toList < Y := by have h := HLT.out; rw [hbl] at h; rw [← hYd]; simpa using h.symm
                have HR1 : Hid (rnd x.data.toList O (j + 1) = (R1 ++ [x.data.toList, Y], true)) := Lib.hid (by rw [HRS.out]; simp [stp, hl])
                go_wp2
                go_quiet (fail)
                have HB1 := Lib.hid (below_drewN HBX.out nq)
                have HO1 := Lib.hid (own_below HOX.out (below_drewN (Below.refl _ _) nq))
                have hc1 := HCY.out _ HB1.out
                have hd1 := HCF.out _ HB1.out
                clear hcx hcyx
                generalize wr.drewN nq = w1 at *
                go_wp2_with (first | (at_builtin; refine wpl_app 52 9 (.string { data := #[] }) 16 Try.underlying52 info9 rfl (by decide) rfl _ _ rfl rfl HO1.out HB1.out HB1.out.size rfl rfl (by omega) ?_; intro v2 w2 hown2 hb2 _; have HO2 := Lib.hid hown2; have HB2 := Lib.hid hb2; have hc2 := HCY.out _ HB2.out; clear hown2 hb2) | (at_builtin; refine wpl_app 52 9 (.string { data := #[] }) 16 Try.underlying52 info9 rfl (by decide) rfl _ _ rfl rfl HO2.out HB2.out HB2.out.size rfl rfl (by omega) ?_; intro v3 w3 hown3 hb3 _; have HO3 := Lib.hid hown3; have HB3 := Lib.hid hb3; clear hown3 hb3))
                exact ⟨⟨j + 1, by omega, by go_num, by rw [HR1.out], by rw [HR1.out]; simp only [List.length_append, List.length_cons, List.length_nil, List.map_append, List.map_cons, List.map_nil, HEY.out]; simpa using HO3.out, HB3.out⟩, by simp [intOf]; omega⟩
            · simp at hlen
              have HR1 : Hid (rnd x.data.toList O (j + 1) = (R1 ++ [Y], true)) := Lib.hid (by rw [HRS.out]; simp [stp])
              go_wp2
              go_quiet (fail)
              have HB1 := Lib.hid (below_drewN HBX.out nq)
              have HO1 := Lib.hid (own_below HOX.out (below_drewN (Below.refl _ _) nq))
              have hc1 := HCY.out _ HB1.out
              have hd1 := HCF.out _ HB1.out
              clear hcx hcyx
              generalize wr.drewN nq = w1 at *
              go_wp2_with (at_builtin; refine wpl_app 52 9 (.string { data := #[] }) 16 Try.underlying52 info9 rfl (by decide) rfl _ _ rfl rfl HO1.out HB1.out HB1.out.size rfl rfl (by omega) ?_; intro v2 w2 hown2 hb2 _; have HO2 := Lib.hid hown2; have HB2 := Lib.hid hb2; clear hown2 hb2)
              exact ⟨⟨j + 1, by omega, by go_num, by rw [HR1.out], by rw [HR1.out]; simp only [List.length_append, List.length_cons, List.length_nil, List.map_append, List.map_cons, List.map_nil, HEY.out]; simpa using HO2.out, HB2.out⟩, by simp [intOf]; omega⟩
          · obtain rfl : j = O.length := by omega
            have hfin := fin_rnd x.data.toList O
            have hlen := rnd_len x.data.toList O O.length (Nat.le_refl _)
            have hcx := HCF.out _ HBX.out
            have hnl : ¬ ((O.length : Int) < (O.length : Int)) := by omega
            generalize hR : rnd x.data.toList O O.length = R at *
            obtain ⟨R1, R2⟩ := R
            simp only at hlen HOX
            cases R2
            · simp at hlen
              have HF : Hid (outs f (k + 1) = R1 ++ [x.data.toList]) := Lib.hid (by rw [HST.out, ← hfin]; simp [fin])
              clear hfin
              go_wp2_with (at_builtin; refine wpl_app 52 9 (.string { data := #[] }) 16 Try.underlying52 info9 rfl (by decide) rfl _ _ rfl rfl HOX.out HBX.out HBX.out.size rfl rfl (by omega) ?_; intro v2 w2 hown2 hb2 _; have HO2 := Lib.hid hown2; have HB2 := Lib.hid hb2; clear hown2 hb2)
              exact ⟨⟨k + 1, by omega, by go_num, by rw [HF.out]; simp only [List.length_append, List.length_cons, List.length_nil, List.map_append, List.map_cons, List.map_nil]; exact own_mono HO2.out hsw, HBEL.out.trans (HB2.out.mono hsw)⟩, by simp [intOf]; omega⟩
            · simp at hlen
              have HF : Hid (outs f (k + 1) = R1) := Lib.hid (by rw [HST.out, ← hfin]; simp [fin])
              clear hfin
              go_wp2
              exact ⟨⟨k + 1, by omega, by go_num, by rw [HF.out]; exact own_mono HOX.out hsw, HBEL.out.trans (HBX.out.mono hsw)⟩, by simp [intOf]; omega⟩
      · rw [hem] at hst
        have HST := Lib.hid hst
        clear hst
        go_wp2
        exact ⟨⟨k + 1, by omega, by go_num, by rw [HST.out]; exact HOWN.out, HBEL.out⟩, by simp [intOf]; omega⟩
    · obtain rfl : k = 16 := by omega
      go_wp2
      go_ret
      exact ⟨_, rfl, HOWN.out, HBEL.out⟩
end Go.Proofs.Ythhcgdmpbihdnaa
