/-
  LeaseOver answers true at every list of deeds and every tick, and leaves what came in as it was. No condition.
-/
import Derived.Test.YtpjgcpnjfopolaaOpen
namespace Go.Proofs.Ytpjgcpnjfopolaa
open Go.ChangeShapes Go.WideShapes Go.ChangeAt Go.RowKit Go.Deep
/-- The two tables at the start. -/
theorem two_start {w0 w1 w2 : World} {b m b' g x y : Nat} (h1 : TP w1 b m s0) (hb : w0.heap.size ≤ b) (hm : w0.heap.size ≤ m) (k1 : Below w0.heap.size w0 w1) (h2 : TR w2 b' g x y s0) (hl : ∀ k, RK b' g x y k → w1.heap.size ≤ k) (k2 : Below w1.heap.size w1 w2) :
    Two w0 w2 b m b' g x y s0 s0 :=
  ⟨h1.below k2, h2, fun k hk hk' => by have := h1.ltk hk; have := hl k hk'; omega, fun k hk => by rcases hk with rfl | rfl <;> assumption, fun k hk => by have := hl k hk; have := k1.size; omega, below_then k1 k2⟩
theorem ovr_len (g : Int → Int → Option (Bool × Int)) (now : Int) : (ovr g now).length ≤ 8 := by
  unfold ovr
  exact Nat.le_trans (List.length_filter_le _ _) (by decide)
set_option maxRecDepth 100000 in
set_option maxHeartbeats 4000000 in
theorem lawOver (A : Option Addr) (n cap : Nat) (d : Nat → Dd) (now : Int) (w : World) (hd : Deeds w A n d) :
    Calls Try.prog 4 #[.slice A n cap, .int .i64 now] w fun e w' => e = .returned (.bool true) ∧ Below w.heap.size w w' := by
  have HD := Lib.hid hd
  clear hd
  go_enter Try.func4, Try.ntmps4
  go_wp2_with fail
  refine (new_any w).mono ?_
  rintro e w1 ⟨b, m, rfl, ht1, hlb, hlm, hb1⟩
  have H1 := Lib.hid (And.intro ht1 (And.intro hlb (And.intro hlm hb1)))
  clear ht1 hlb hlm hb1
  go_wp2_with fail
  refine (rnew_any w1).mono ?_
  rintro e w2 ⟨b', g, x, y, rfl, ht2, hl2, hb2⟩
  have HT := Lib.hid (two_start H1.out.1 H1.out.2.1 H1.out.2.2.1 H1.out.2.2.2 ht2 hl2 hb2)
  clear ht2 hl2 hb2
  go_wp2_with fail
  go_loopw [7] (fun z wr => ∃ (k : Nat) (s : Tab), k ≤ 30 ∧ k ≤ n ∧ z = .int .i64 k ∧ Two w wr b m b' g x y s s) (fun z _ => 30 - (intOf z).toNat)
  case atStart => exact ⟨0, s0, by omega, by omega, rfl, HT.out⟩
  case round =>
    obtain ⟨k, s, hk, hkn, rfl, ht⟩ := hrel
    have HTK := Lib.hid ht
    clear ht
    by_cases hlt : k < n
    · have hlt' : (k : Int) < (n : Int) := by omega
      by_cases h30 : k < 30
      · obtain ⟨bd, off, rfl, hbw, hcell⟩ := HD.out (by omega)
        obtain ⟨d0, d1, d2, d3, d4⟩ := hcell k hlt
        have e0 := (HTK.out.bel.cell (p := ⟨bd, off + k * 5, none⟩) hbw).trans d0
        have e1 := (HTK.out.bel.cell (p := ⟨bd, off + k * 5 + 1, none⟩) hbw).trans d1
        have e2 := (HTK.out.bel.cell (p := ⟨bd, off + k * 5 + 2, none⟩) hbw).trans d2
        have e3 := (HTK.out.bel.cell (p := ⟨bd, off + k * 5 + 3, none⟩) hbw).trans d3
        have e4 := (HTK.out.bel.cell (p := ⟨bd, off + k * 5 + 4, none⟩) hbw).trans d4
        have HDO := Lib.hid (does_any HTK.out (d k).k (d k).now (d k).c (d k).i (d k).own)
        clear hcell d0 d1 d2 d3 d4
        generalize (d k).k = a0 at *
        generalize (d k).now = a1 at *
        generalize (d k).c = a2 at *
        generalize (d k).i = a3 at *
        generalize (d k).own = a4 at *
        go_wp2_with (go_at_call 10; refine (HDO.out).mono ?_; rintro e w3 ⟨rfl, ht3⟩; have HT3 := Lib.hid ht3; clear ht3)
        exact ⟨⟨k + 1, _, by omega, by omega, by go_num, HT3.out⟩, by simp [intOf]; omega⟩
      · have h30' : ¬ (k : Int) < 30 := by omega
        have HOV := Lib.hid (over_any HTK.out.p now)
        go_wp2_with fail
        refine (HOV.out).mono ?_
        rintro e w3 ⟨v3, rfl, ho3, hb3⟩
        have HT3 := Lib.hid (HTK.out.below hb3)
        have HO3 := Lib.hid ho3
        have HRO := Lib.hid (rover_any HT3.out.r now)
        obtain ⟨A3, q3, rfl, _⟩ := own_shape ho3
        clear ho3 hb3
        go_wp2_with fail
        refine (HRO.out).mono ?_
        rintro e w4 ⟨v4, rfl, ho4, hb4⟩
        have HT4 := Lib.hid (HT3.out.below hb4)
        have HSA := Lib.hid (sameI_yes (by rw [List.length_map]; exact own_below HO3.out hb4) (by rw [List.length_map]; exact ho4) (fun j hj => by
          rw [List.getElem?_map, List.getElem?_eq_getElem (by simpa using hj)]
          exact ⟨_, rfl⟩) (by rw [List.length_map]; have := ovr_len s.g now; omega))
        obtain ⟨A4, q4, rfl, _⟩ := own_shape ho4
        clear ho4 hb4
        generalize (ovr s.g now).length = nn at *
        go_wp2_with fail
        refine (HSA.out).mono ?_
        rintro e w5 ⟨rfl, hb5⟩
        have HT5 := Lib.hid (HT4.out.below hb5)
        clear hb5
        go_wp2_with (go_at_call 11; refine (lives_any _).mono ?_; rintro e w6 ⟨rfl, hb6⟩; have HB6 := Lib.hid hb6; clear hb6)
        go_ret
        exact ⟨rfl, below_then HT5.out.bel HB6.out⟩
    · have hlt' : ¬ (k : Int) < (n : Int) := by omega
      have HOV := Lib.hid (over_any HTK.out.p now)
      go_wp2_with fail
      refine (HOV.out).mono ?_
      rintro e w3 ⟨v3, rfl, ho3, hb3⟩
      have HT3 := Lib.hid (HTK.out.below hb3)
      have HO3 := Lib.hid ho3
      have HRO := Lib.hid (rover_any HT3.out.r now)
      obtain ⟨A3, q3, rfl, _⟩ := own_shape ho3
      clear ho3 hb3
      go_wp2_with fail
      refine (HRO.out).mono ?_
      rintro e w4 ⟨v4, rfl, ho4, hb4⟩
      have HT4 := Lib.hid (HT3.out.below hb4)
      have HSA := Lib.hid (sameI_yes (by rw [List.length_map]; exact own_below HO3.out hb4) (by rw [List.length_map]; exact ho4) (fun j hj => by
        rw [List.getElem?_map, List.getElem?_eq_getElem (by simpa using hj)]
        exact ⟨_, rfl⟩) (by rw [List.length_map]; have := ovr_len s.g now; omega))
      obtain ⟨A4, q4, rfl, _⟩ := own_shape ho4
      clear ho4 hb4
      generalize (ovr s.g now).length = nn at *
      go_wp2_with fail
      refine (HSA.out).mono ?_
      rintro e w5 ⟨rfl, hb5⟩
      have HT5 := Lib.hid (HT4.out.below hb5)
      clear hb5
      go_wp2_with (go_at_call 11; refine (lives_any _).mono ?_; rintro e w6 ⟨rfl, hb6⟩; have HB6 := Lib.hid hb6; clear hb6)
      go_ret
      exact ⟨rfl, below_then HT5.out.bel HB6.out⟩
/-! ### THE ROW -/
set_option maxRecDepth 100000 in
theorem leaseOver_lifted (os : Os) (started : os.Started) (H : Type) (enc : TypeId × Value → H) :
    ReturnsInHanded {} Try.checked os 4 .any (Rows.leaseOverSpec.pre6 enc Try.prog Try.f4 Rows.leaseOverRow.domain false) (Rows.leaseOverSpec.post enc Try.prog Try.f4 false true false false) := by
  refine returnsInHanded_of_change (C := Try.checked) own started (by kernel_rfl) Try.func4
    (ChangeSpec.witness6 (enc := enc) (C := Try.checked) false ⟨#[], #[.slice none 0 0, .int .i64 0], []⟩ 8 (by kernel_rfl) (by kernel_rfl) (by kernel_rfl) (by kernel_rfl)) ?_
  intro W base args ds gs before hval0 hW _ _
  have hval : ∀ (j : Nat) t v, Try.f4.params[j]? = some t → args[j]? = some v → Value.okWide Try.prog W .any base t v := hval0
  have hW' := hW
  obtain ⟨p, q, hA0, hV, rfl, _, _⟩ := hW
  have hA : DataW.TrodAll enc Try.prog W 0 (fun _ => true) true Try.f4.params.toList args.toList ds p := hA0
  rw [Try.params4] at hA hval
  obtain ⟨v0, vs0, d0, ds0, p0, q0, hargs, rfl, rfl, h0, r0⟩ := trodAll_cons hA
  obtain ⟨v1, vs1, d1, ds1, p1, q1, rfl, rfl, rfl, h1, r1⟩ := trodAll_cons r0
  obtain ⟨rfl, rfl, rfl⟩ := trodAll_nil r1
  obtain rfl : args = #[v0, v1] := by cases args; simp_all
  obtain ⟨rfl, rfl⟩ := trodVars_none hV
  have k0 := h0
  have lt0 : ∀ x ∈ p0, x.block < W.heap.size := by obtain ⟨m, hm⟩ := k0; exact DataW.trod_lt m _ _ _ hm
  obtain ⟨A0, n0, c0, dd0, rfl, w0⟩ := open_deeds (hval 0 22 v0 rfl rfl) h0
  obtain ⟨a1, rfl, rfl, rfl, w1⟩ := open_int Try.underlying3 (hval 1 3 v1 rfl rfl) h1
  clear hA0 hval0
  refine (lawOver A0 n0 c0 dd0 a1 W w0).mono fun e W' ⟨he, bel⟩ => ?_
  subst he
  exact ⟨_, rfl, _, _, _, [], _, [], hW', trodAll_mk1 (shut_bool Try.underlying4 _), (trodAll_cons_mk (Below.trod laidOut (by kernel_rfl) (of_decide_eq_true (by kernel_rfl)) k0 bel lt0) (trodAll_cons_mk (shut_int Try.underlying3 w1) trodAll_mk0)), rfl, bel.frame _, fun h => by cases h⟩
theorem leaseOver_over : Rows.leaseOverRow.holds Try.pinned (OpenSpec.ofChange Rows.leaseOverSpec) :=
  OpenClaim.holds_of_wide 4 Try.f4 rfl rfl rfl rfl rfl rfl rfl ⟨rfl, rfl, rfl, rfl, rfl⟩ rfl rfl rfl rfl rfl (by kernel_rfl) Try.func4 (by kernel_rfl)
    (of_decide_eq_true (by kernel_rfl)) (by unfold Func.isWrapper; first | (rw [if_pos (by decide +kernel)]; kernel_rfl) | (rw [if_neg (by decide +kernel)]; exact ⟨rfl, rfl⟩))
    (fun os started H enc _ => leaseOver_lifted os started H enc)
/-- THE STATEMENT. -/
theorem leaseOver_holds : Rows.LeaseOverSaid := leaseOver_over
end Go.Proofs.Ytpjgcpnjfopolaa
