/-
  LeaseTogether answers true at every list of deeds, and leaves what came in as it was. No condition.
-/
import Derived.Test.YtpjgcpnjfopolaaAllW
import Derived.Test.YtpjgcpnjfopolaaOverLaw
import Derived.Deep.CutBlock
namespace Go.Proofs.Ytpjgcpnjfopolaa
open Go.ChangeShapes Go.WideShapes Go.ChangeAt Go.RowKit Go.Deep
/-- Grants of an inode go together. -/
def Comp (s : Tab) : Prop := ∀ i c1 c2 p1 p2, c1 ≠ c2 → s.g i c1 = some p1 → s.g i c2 = some p2 → p1.1 = false
theorem comp0 : Comp s0 := fun _ _ _ _ _ _ h => by cases h
theorem Comp.sub {s s' : Tab} (h : Comp s) (hs : ∀ i c p, s'.g i c = some p → s.g i c = some p) : Comp s' := fun i c1 c2 p1 p2 hne h1 h2 => h i c1 c2 p1 p2 hne (hs _ _ _ h1) (hs _ _ _ h2)
theorem Comp.ask {s : Tab} (h : Comp s) (hok : s.Ok) (now c i : Int) (own : Bool) : Comp (ask s now c i own).2.2 := by
  unfold Go.Proofs.Ytpjgcpnjfopolaa.ask
  split
  · exact h
  · split
    · rename_i ho
      split
      · exact h
      · have key : ∀ k p, k ≠ c → s.g i k = some p → own = false ∧ p.1 = false := fun k p hk hg => by
          unfold oth at ho
          rw [List.filter_eq_nil_iff] at ho
          have := ho k (mem_clients.2 (hok.g _ _ _ hg).2)
          unfold othB at this
          rw [hg] at this
          cases own <;> cases hp : p.1 <;> simp_all
        have hg' : ((if s.wc i = c then s.setW i 0 0 else s).setG i c (some (own, now + 64))).g = upd s.g i c (some (own, now + 64)) := by
          split <;> rfl
        intro i' c1 c2 p1 p2 hne h1 h2
        rw [hg'] at h1 h2
        unfold upd at h1 h2
        by_cases e1 : i' = i ∧ c1 = c
        · rw [if_pos e1] at h1
          injection h1 with h1
          rw [if_neg (fun e => hne (e1.2.trans e.2.symm)), e1.1] at h2
          rw [← h1]
          exact (key c2 p2 (fun e => hne (e1.2.trans e.symm)) h2).1
        · rw [if_neg e1] at h1
          by_cases e2 : i' = i ∧ c2 = c
          · rw [e2.1] at h1
            exact (key c1 p1 (fun e => hne (e.trans e2.2.symm)) h1).2
          · rw [if_neg e2] at h2
            exact h i' c1 c2 p1 p2 hne h1 h2
    · split
      · exact h
      · exact h.sub fun _ _ _ h => h
theorem Comp.stp {s : Tab} (h : Comp s) (hok : s.Ok) (k now c i : Int) (own : Bool) : Comp (stp s k now c i own) := by
  unfold Go.Proofs.Ytpjgcpnjfopolaa.stp
  split
  · exact h.ask hok now c i own
  · split
    · exact h.sub fun i' c' p hp => by
        unfold Tab.give upd at hp
        simp only at hp
        split at hp
        · cases hp
        · exact hp
    · split
      · exact h.sub fun i' c' p hp => by
          unfold Tab.drop at hp
          simp only at hp
          split at hp
          · cases hp
          · exact hp
      · exact h
theorem all_together {s : Tab} (h : Comp s) (hok : s.Ok) {j k : Nat} {x y : Hl} (hx : (allL s.g)[j]? = some x) (hy : (allL s.g)[k]? = some y) (hne : k < j) (hi : x.i = y.i) : x.own = false ∧ y.own = false ∧ x.c ≠ y.c := by
  have hup := List.pairwise_iff_getElem.1 (allL_up s.g)
  obtain ⟨hjl, ex⟩ := List.getElem?_eq_some_iff.1 hx
  obtain ⟨hkl, ey⟩ := List.getElem?_eq_some_iff.1 hy
  have hlt := hup k j hkl hjl hne
  rw [ex, ey] at hlt
  have hc : x.c ≠ y.c := by simp [ltH] at hlt; omega
  have gx := (mem_allL hok.g x).1 (List.mem_of_getElem? hx)
  have gy := (mem_allL hok.g y).1 (List.mem_of_getElem? hy)
  rw [hi] at gx
  exact ⟨h _ _ _ _ _ hc gx gy, h _ _ _ _ _ (Ne.symm hc) gy gx, hc⟩
/-- A row of grants, as cells. -/
theorem rowH_at {w : World} {B : Nat} {v : Value} {l : List Hl} (h : w.ownsRow B 40 4 v l.length (flatH l)) : ∃ A cap, v = .slice A l.length cap ∧ ∀ j x, l[j]? = some x → ∃ g, A = some ⟨g, 0, none⟩ ∧ B ≤ g ∧ g < w.heap.size ∧
    w.cell? ⟨g, j * 4, none⟩ = some (.int .i64 x.c) ∧ w.cell? ⟨g, j * 4 + 1, none⟩ = some (.int .i64 x.i) ∧ w.cell? ⟨g, j * 4 + 2, none⟩ = some (.bool x.own) ∧ w.cell? ⟨g, j * 4 + 3, none⟩ = some (.int .i64 x.til) := by
  rcases h.2 with ⟨rfl, h0⟩ | ⟨g, cap, cur, rfl, hb, hg, _⟩
  · have : l = [] := List.eq_nil_of_length_eq_zero h0
    subst this
    exact ⟨none, 0, rfl, fun j x hx => by simp at hx⟩
  · refine ⟨_, cap, rfl, fun j x hx => ⟨g, rfl, hb, blk_lt hg, ?_⟩⟩
    have hj := (List.getElem?_eq_some_iff.1 hx).1
    obtain ⟨f0, f1, f2, f3⟩ := flatH_get l j x hx
    exact ⟨by rw [h.cellAt _ (by omega), f0], by rw [h.cellAt _ (by omega), f1], by rw [h.cellAt _ (by omega), f2], by rw [h.cellAt _ (by omega), f3]⟩
set_option maxRecDepth 100000 in
set_option maxHeartbeats 8000000 in
theorem lawTogether (A : Option Addr) (n cap : Nat) (d : Nat → Dd) (w : World) (hd : Deeds w A n d) :
    Calls Try.prog 5 #[.slice A n cap] w fun e w' => e = .returned (.bool true) ∧ Below w.heap.size w w' := by
  have HD := Lib.hid hd
  clear hd
  go_enter Try.func5, Try.ntmps5
  go_wp2_with fail
  refine (new_any w).mono ?_
  rintro e w1 ⟨b, m, rfl, ht1, hlb, hlm, hb1⟩
  have H1 := Lib.hid (And.intro ht1 (And.intro hlb (And.intro hlm hb1)))
  clear ht1 hlb hlm hb1
  go_wp2_with fail
  refine (rnew_any w1).mono ?_
  rintro e w2 ⟨b', g, x, y, rfl, ht2, hl2, hb2⟩
  have HT := Lib.hid (two_start H1.out.1 H1.out.2.1 H1.out.2.2.1 H1.out.2.2.2 ht2 hl2 hb2)
  clear ht2 hl2 hb2
  go_wp2_with fail
  go_loopw [5] (fun z wr => ∃ (k : Nat) (s : Tab), k ≤ 60 ∧ k ≤ n ∧ z = .int .i64 k ∧ Comp s ∧ Two w wr b m b' g x y s s) (fun z _ => 60 - (intOf z).toNat)
  case atStart => exact ⟨0, s0, by omega, by omega, rfl, comp0, HT.out⟩
  case round =>
    obtain ⟨k, s, hk, hkn, rfl, hcm, ht⟩ := hrel
    have HTK := Lib.hid ht
    have HCM := Lib.hid (fun a0 a1 a2 a3 a4 => hcm.stp ht.p.ok a0 a1 a2 a3 a4)
    clear ht hcm
    by_cases hin : k < n ∧ k < 60
    · obtain ⟨hlt, h60⟩ := hin
      have hlt' : (k : Int) < (n : Int) := by omega
      have h60' : (k : Int) < 60 := by omega
      obtain ⟨bd, off, rfl, hbw, hcell⟩ := HD.out (by omega)
      obtain ⟨d0, d1, d2, d3, d4⟩ := hcell k hlt
      have e0 := (HTK.out.bel.cell (p := ⟨bd, off + k * 5, none⟩) hbw).trans d0
      have e1 := (HTK.out.bel.cell (p := ⟨bd, off + k * 5 + 1, none⟩) hbw).trans d1
      have e2 := (HTK.out.bel.cell (p := ⟨bd, off + k * 5 + 2, none⟩) hbw).trans d2
      have e3 := (HTK.out.bel.cell (p := ⟨bd, off + k * 5 + 3, none⟩) hbw).trans d3
      have e4 := (HTK.out.bel.cell (p := ⟨bd, off + k * 5 + 4, none⟩) hbw).trans d4
      have HDO := Lib.hid (does_any HTK.out (d k).k (d k).now (d k).c (d k).i (d k).own)
      have HC2 := Lib.hid (HCM.out (d k).k (d k).now (d k).c (d k).i (d k).own)
      clear hcell d0 d1 d2 d3 d4 HCM
      generalize stp s (d k).k (d k).now (d k).c (d k).i (d k).own = s2 at *
      generalize (d k).k = a0 at *
      generalize (d k).now = a1 at *
      generalize (d k).c = a2 at *
      generalize (d k).i = a3 at *
      generalize (d k).own = a4 at *
      go_wp2_with fail
      refine (HDO.out).mono ?_
      rintro e w3 ⟨rfl, ht3⟩
      have HT3 := Lib.hid ht3
      have HAL := Lib.hid (all_any ht3.p)
      clear ht3 HDO e0 e1 e2 e3 e4
      go_wp2_with fail
      refine (HAL.out).mono ?_
      rintro e w4 ⟨v, rfl, ho4, hb4⟩
      have HT4 := Lib.hid (HT3.out.below hb4)
      obtain ⟨Av, cv, rfl, hat⟩ := rowH_at ho4
      have HAT := Lib.hid hat
      have HLL := Lib.hid (allL_len (g := s2.g))
      clear ho4 hb4 hat HAL
      generalize hnl : (allL s2.g).length = nl at *
      have HNL := Lib.hid hnl
      clear hnl
      have hnl2 : nl ≤ 256 := HLL.out
      go_wp2_with fail
      go_loopw [7] (fun z wr => ∃ j : Nat, j ≤ nl ∧ z = .int .i64 j ∧ Below w4.heap.size w4 wr) (fun z _ => nl - (intOf z).toNat)
      case atStart => exact ⟨0, by omega, rfl, Below.refl _ _⟩
      case round =>
        obtain ⟨j, hj, rfl, hbj⟩ := hrel
        have HBJ := Lib.hid hbj
        clear hbj
        by_cases hjl : j < nl
        · have hjl' : (j : Int) < (nl : Int) := by omega
          go_wp2_with fail
          obtain ⟨wo, hwo⟩ : ∃ wo, wo = wr := ⟨wr, rfl⟩
          subst hwo
          go_loopw [8] (fun z wr => ∃ i : Nat, i ≤ j ∧ z = .int .i64 i ∧ Below w4.heap.size w4 wr) (fun z _ => j - (intOf z).toNat)
          case atStart => exact ⟨0, by omega, rfl, HBJ.out⟩
          case round =>
            obtain ⟨i, hi, rfl, hbi⟩ := hrel
            have HBI := Lib.hid hbi
            clear hbi
            by_cases hij : i < j
            · have hij' : (i : Int) < (j : Int) := by omega
              obtain ⟨X, hX⟩ : ∃ X, (allL s2.g)[j]? = some X := ⟨_, List.getElem?_eq_getElem (by rw [HNL.out]; exact hjl)⟩
              obtain ⟨Y, hY⟩ : ∃ Y, (allL s2.g)[i]? = some Y := ⟨_, List.getElem?_eq_getElem (by rw [HNL.out]; omega)⟩
              obtain ⟨g4, rfl, _, hg4, x0, x1, x2, _⟩ := HAT.out j X hX
              obtain ⟨g5, hg5, _, _, y0, y1, y2, _⟩ := HAT.out i Y hY
              injection hg5 with hg5
              injection hg5 with hg5
              subst hg5
              have u0 := (HBI.out.cell (p := ⟨g4, j * 4, none⟩) hg4).trans x0
              have u1 := (HBI.out.cell (p := ⟨g4, j * 4 + 1, none⟩) hg4).trans x1
              have u2 := (HBI.out.cell (p := ⟨g4, j * 4 + 2, none⟩) hg4).trans x2
              have v0 := (HBI.out.cell (p := ⟨g4, i * 4, none⟩) hg4).trans y0
              have v1 := (HBI.out.cell (p := ⟨g4, i * 4 + 1, none⟩) hg4).trans y1
              have v2 := (HBI.out.cell (p := ⟨g4, i * 4 + 2, none⟩) hg4).trans y2
              have HTG := Lib.hid (fun h => all_together HC2.out HT4.out.p.ok hX hY hij h)
              have hinl : (i : Int) < (nl : Int) := by omega
              clear x0 x1 x2 y0 y1 y2 hX hY
              by_cases hxy : X.i = Y.i
              · obtain ⟨t0, t1, t2⟩ := HTG.out hxy
                have q0 : (X.i == Y.i) = true := by simpa using hxy
                have q1 : (X.c == Y.c) = false := by simpa using t2
                rw [t0] at u2
                rw [t1] at v2
                clear t0 t1 t2 hxy HTG
                generalize X.i = Xi at *
                generalize Y.i = Yi at *
                generalize X.c = Xc at *
                generalize Y.c = Yc at *
                go_wp2_with fail
                go_quiet (fail)
                go_wp2_with fail
                exact ⟨⟨i + 1, by omega, by go_num, below_drewN HBI.out _⟩, by simp [intOf]; omega⟩
              · have q0 : (X.i == Y.i) = false := by simpa using hxy
                clear hxy HTG
                generalize X.i = Xi at *
                generalize Y.i = Yi at *
                go_wp2_with fail
                go_quiet (fail)
                go_wp2_with fail
                exact ⟨⟨i + 1, by omega, by go_num, below_drewN HBI.out _⟩, by simp [intOf]; omega⟩
            · obtain rfl : i = j := by omega
              have hij' : ¬ (i : Int) < (i : Int) := by omega
              go_wp2_with fail
              exact ⟨⟨i + 1, by omega, by go_num, HBI.out⟩, by simp [intOf]; omega⟩
        · obtain rfl : j = nl := by omega
          have hjl' : ¬ (j : Int) < (j : Int) := by omega
          go_wp2_with fail
          exact ⟨⟨k + 1, s2, by omega, by omega, by go_num, HC2.out, HT4.out.below HBJ.out⟩, by simp [intOf]; omega⟩
    · have hor : ¬ (k : Int) < (n : Int) ∨ ((k : Int) < (n : Int) ∧ ¬ (k : Int) < 60) := by omega
      clear hin
      rcases hor with hx1 | ⟨hx1, hx2⟩
      all_goals
        go_wp2_with (go_at_call 11; refine (lives_any _).mono ?_; rintro e w6 ⟨rfl, hb6⟩; have HB6 := Lib.hid hb6; clear hb6)
        go_ret
        exact ⟨rfl, below_then HTK.out.bel HB6.out⟩
/-! ### THE ROW -/
set_option maxRecDepth 100000 in
theorem leaseTogether_lifted (os : Os) (started : os.Started) (H : Type) (enc : TypeId × Value → H) :
    ReturnsInHanded {} Try.checked os 5 .any (Rows.leaseTogetherSpec.pre6 enc Try.prog Try.f5 Rows.leaseTogetherRow.domain false) (Rows.leaseTogetherSpec.post enc Try.prog Try.f5 false true false false) := by
  refine returnsInHanded_of_change (C := Try.checked) own started (by kernel_rfl) Try.func5
    (ChangeSpec.witness6 (enc := enc) (C := Try.checked) false ⟨#[], #[.slice none 0 0], []⟩ 8 (by kernel_rfl) (by kernel_rfl) (by kernel_rfl) (by kernel_rfl)) ?_
  intro W base args ds gs before hval0 hW _ _
  have hval : ∀ (j : Nat) t v, Try.f5.params[j]? = some t → args[j]? = some v → Value.okWide Try.prog W .any base t v := hval0
  have hW' := hW
  obtain ⟨p, q, hA0, hV, rfl, _, _⟩ := hW
  have hA : DataW.TrodAll enc Try.prog W 0 (fun _ => true) true Try.f5.params.toList args.toList ds p := hA0
  rw [Try.params5] at hA hval
  obtain ⟨v0, vs0, d0, ds0, p0, q0, hargs, rfl, rfl, h0, r0⟩ := trodAll_cons hA
  obtain ⟨rfl, rfl, rfl⟩ := trodAll_nil r0
  obtain rfl : args = #[v0] := by cases args; simp_all
  obtain ⟨rfl, rfl⟩ := trodVars_none hV
  have k0 := h0
  have lt0 : ∀ x ∈ p0, x.block < W.heap.size := by obtain ⟨m, hm⟩ := k0; exact DataW.trod_lt m _ _ _ hm
  obtain ⟨A0, n0, c0, dd0, rfl, w0⟩ := open_deeds (hval 0 22 v0 rfl rfl) h0
  clear hA0 hval0
  refine (lawTogether A0 n0 c0 dd0 W w0).mono fun e W' ⟨he, bel⟩ => ?_
  subst he
  exact ⟨_, rfl, _, _, _, [], _, [], hW', trodAll_mk1 (shut_bool Try.underlying4 _), (trodAll_cons_mk (Below.trod laidOut (by kernel_rfl) (of_decide_eq_true (by kernel_rfl)) k0 bel lt0) trodAll_mk0), rfl, bel.frame _, fun h => by cases h⟩
theorem leaseTogether_over : Rows.leaseTogetherRow.holds Try.pinned (OpenSpec.ofChange Rows.leaseTogetherSpec) :=
  OpenClaim.holds_of_wide 5 Try.f5 rfl rfl rfl rfl rfl rfl rfl ⟨rfl, rfl, rfl, rfl, rfl⟩ rfl rfl rfl rfl rfl (by kernel_rfl) Try.func5 (by kernel_rfl)
    (of_decide_eq_true (by kernel_rfl)) (by unfold Func.isWrapper; first | (rw [if_pos (by decide +kernel)]; kernel_rfl) | (rw [if_neg (by decide +kernel)]; exact ⟨rfl, rfl⟩))
    (fun os started H enc _ => leaseTogether_lifted os started H enc)
/-- THE STATEMENT. -/
theorem leaseTogether_holds : Rows.LeaseTogetherSaid := leaseTogether_over
end Go.Proofs.Ytpjgcpnjfopolaa
