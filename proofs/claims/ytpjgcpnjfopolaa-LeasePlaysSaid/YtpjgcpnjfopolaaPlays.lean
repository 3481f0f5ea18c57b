/-
  LeasePlays answers true at every list of deeds, and leaves what came in as it was. No condition.
-/
import Derived.Test.YtpjgcpnjfopolaaLike
namespace Go.Proofs.Ytpjgcpnjfopolaa
open Go.ChangeShapes Go.WideShapes Go.ChangeAt Go.RowKit Go.Deep
set_option maxRecDepth 100000 in
set_option maxHeartbeats 8000000 in
theorem lawPlays (A : Option Addr) (n cap : Nat) (d : Nat → Dd) (w : World) (hd : Deeds w A n d) :
    Calls Try.prog 6 #[.slice A n cap] w fun e w' => e = .returned (.bool true) ∧ Below w.heap.size w w' := by
  have HD := Lib.hid hd
  clear hd
  go_enter Try.func6, Try.ntmps6
  go_wp2_with fail
  refine (new_any w).mono ?_
  rintro e w1 ⟨b, m, rfl, ht1, hlb, hlm, hb1⟩
  have H1 := Lib.hid (And.intro ht1 (And.intro hlb (And.intro hlm hb1)))
  clear ht1 hlb hlm hb1
  go_wp2_with fail
  refine (rnew_any w1).mono ?_
  rintro e w2 ⟨b', g, x, y, rfl, ht2, hl2, hb2⟩
  have HT := Lib.hid (two_start H1.out.1 H1.out.2.1 H1.out.2.2.1 H1.out.2.2.2 ht2 hl2 hb2)
  clear ht2 hl2 hb2
  go_wp2_with fail
  go_loopw [5] (fun z wr => ∃ (k : Nat) (s : Tab), k ≤ 40 ∧ k ≤ n ∧ z = .int .i64 k ∧ Two w wr b m b' g x y s s) (fun z _ => 40 - (intOf z).toNat)
  case atStart => exact ⟨0, s0, by omega, by omega, rfl, HT.out⟩
  case round =>
    obtain ⟨k, s, hk, hkn, rfl, ht⟩ := hrel
    have HTK := Lib.hid ht
    clear ht
    by_cases hin : k < n ∧ k < 40
    · obtain ⟨hlt, h60⟩ := hin
      have hlt' : (k : Int) < (n : Int) := by omega
      have h60' : (k : Int) < 40 := by omega
      obtain ⟨bd, off, rfl, hbw, hcell⟩ := HD.out (by omega)
      obtain ⟨d0, d1, d2, d3, d4⟩ := hcell k hlt
      have e0 := (HTK.out.bel.cell (p := ⟨bd, off + k * 5, none⟩) hbw).trans d0
      have e1 := (HTK.out.bel.cell (p := ⟨bd, off + k * 5 + 1, none⟩) hbw).trans d1
      have e2 := (HTK.out.bel.cell (p := ⟨bd, off + k * 5 + 2, none⟩) hbw).trans d2
      have e3 := (HTK.out.bel.cell (p := ⟨bd, off + k * 5 + 3, none⟩) hbw).trans d3
      have e4 := (HTK.out.bel.cell (p := ⟨bd, off + k * 5 + 4, none⟩) hbw).trans d4
      have HDO := Lib.hid (does_any HTK.out (d k).k (d k).now (d k).c (d k).i (d k).own)
      clear hcell d0 d1 d2 d3 d4
      generalize stp s (d k).k (d k).now (d k).c (d k).i (d k).own = s2 at *
      generalize (d k).k = a0 at *
      generalize (d k).now = a1 at *
      generalize (d k).c = a2 at *
      generalize (d k).i = a3 at *
      generalize (d k).own = a4 at *
      go_wp2_with fail
      refine (HDO.out).mono ?_
      rintro e w3 ⟨rfl, ht3⟩
      have HT3 := Lib.hid ht3
      have HLK := Lib.hid (like_any ht3)
      clear ht3 HDO e0 e1 e2 e3 e4
      go_wp2_with fail
      refine (HLK.out).mono ?_
      rintro e w4 ⟨rfl, hb4⟩
      have HT4 := Lib.hid (HT3.out.below hb4)
      clear hb4 HLK
      go_wp2_with fail
      exact ⟨⟨k + 1, s2, by omega, by omega, by go_num, HT4.out⟩, by simp [intOf]; omega⟩
    · have hor : ¬ (k : Int) < (n : Int) ∨ ((k : Int) < (n : Int) ∧ ¬ (k : Int) < 40) := by omega
      clear hin
      rcases hor with hx1 | ⟨hx1, hx2⟩
      all_goals
        go_wp2_with (go_at_call 11; refine (lives_any _).mono ?_; rintro e w6 ⟨rfl, hb6⟩; have HB6 := Lib.hid hb6; clear hb6)
        go_ret
        exact ⟨rfl, below_then HTK.out.bel HB6.out⟩
/-! ### THE ROW -/
set_option maxRecDepth 100000 in
theorem leasePlays_lifted (os : Os) (started : os.Started) (H : Type) (enc : TypeId × Value → H) :
    ReturnsInHanded {} Try.checked os 6 .any (Rows.leasePlaysSpec.pre6 enc Try.prog Try.f6 Rows.leasePlaysRow.domain false) (Rows.leasePlaysSpec.post enc Try.prog Try.f6 false true false false) := by
  refine returnsInHanded_of_change (C := Try.checked) own started (by kernel_rfl) Try.func6
    (ChangeSpec.witness6 (enc := enc) (C := Try.checked) false ⟨#[], #[.slice none 0 0], []⟩ 8 (by kernel_rfl) (by kernel_rfl) (by kernel_rfl) (by kernel_rfl)) ?_
  intro W base args ds gs before hval0 hW _ _
  have hval : ∀ (j : Nat) t v, Try.f6.params[j]? = some t → args[j]? = some v → Value.okWide Try.prog W .any base t v := hval0
  have hW' := hW
  obtain ⟨p, q, hA0, hV, rfl, _, _⟩ := hW
  have hA : DataW.TrodAll enc Try.prog W 0 (fun _ => true) true Try.f6.params.toList args.toList ds p := hA0
  rw [Try.params6] at hA hval
  obtain ⟨v0, vs0, d0, ds0, p0, q0, hargs, rfl, rfl, h0, r0⟩ := trodAll_cons hA
  obtain ⟨rfl, rfl, rfl⟩ := trodAll_nil r0
  obtain rfl : args = #[v0] := by cases args; simp_all
  obtain ⟨rfl, rfl⟩ := trodVars_none hV
  have k0 := h0
  have lt0 : ∀ x ∈ p0, x.block < W.heap.size := by obtain ⟨m, hm⟩ := k0; exact DataW.trod_lt m _ _ _ hm
  obtain ⟨A0, n0, c0, dd0, rfl, w0⟩ := open_deeds (hval 0 22 v0 rfl rfl) h0
  clear hA0 hval0
  refine (lawPlays A0 n0 c0 dd0 W w0).mono fun e W' ⟨he, bel⟩ => ?_
  subst he
  exact ⟨_, rfl, _, _, _, [], _, [], hW', trodAll_mk1 (shut_bool Try.underlying4 _), (trodAll_cons_mk (Below.trod laidOut (by kernel_rfl) (of_decide_eq_true (by kernel_rfl)) k0 bel lt0) trodAll_mk0), rfl, bel.frame _, fun h => by cases h⟩
theorem leasePlays_over : Rows.leasePlaysRow.holds Try.pinned (OpenSpec.ofChange Rows.leasePlaysSpec) :=
  OpenClaim.holds_of_wide 6 Try.f6 rfl rfl rfl rfl rfl rfl rfl ⟨rfl, rfl, rfl, rfl, rfl⟩ rfl rfl rfl rfl rfl (by kernel_rfl) Try.func6 (by kernel_rfl)
    (of_decide_eq_true (by kernel_rfl)) (by unfold Func.isWrapper; first | (rw [if_pos (by decide +kernel)]; kernel_rfl) | (rw [if_neg (by decide +kernel)]; exact ⟨rfl, rfl⟩))
    (fun os started H enc _ => leasePlays_lifted os started H enc)
/-- THE STATEMENT. -/
theorem leasePlays_holds : Rows.LeasePlaysSaid := leasePlays_over
end Go.Proofs.Ytpjgcpnjfopolaa
