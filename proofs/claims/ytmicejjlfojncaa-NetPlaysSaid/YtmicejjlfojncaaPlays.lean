/-
  NetPlays answers true at every list of deeds, and leaves what came in as it was. No condition.
-/
import Derived.Test.YtmicejjlfojncaaLike
import Derived.Deep.Slices
import Derived.Deep.Fields
import Derived.ChangeSame
namespace Go.Proofs.Ytmicejjlfojncaa
open Go.ChangeShapes Go.WideShapes Go.ChangeAt Go.RowKit Go.Deep
/-- Deeds that came in. -/
def Deeds (w : World) (A : Option Addr) (n : Nat) (dk dn : Nat → Int) (dy : Nat → Value) : Prop :=
  0 < n → ∃ b off, A = some ⟨b, off, none⟩ ∧ b < w.heap.size ∧ ∀ i, i < n → w.cell? ⟨b, off + i * 3, none⟩ = some (.int .i64 (dk i)) ∧ w.cell? ⟨b, off + i * 3 + 1, none⟩ = some (.int .i64 (dn i)) ∧
    w.cell? ⟨b, off + i * 3 + 2, none⟩ = some (dy i) ∧ ∃ s, Byt w (dy i) s
set_option maxRecDepth 100000 in
set_option maxHeartbeats 4000000 in
theorem lawPlays (A : Option Addr) (n cap : Nat) (dk dn : Nat → Int) (dy : Nat → Value) (w : World) (hd : Deeds w A n dk dn dy) :
    Calls Try.prog 5 #[.slice A n cap] w fun e w' => e = .returned (.bool true) ∧ Below w.heap.size w w' := by

  have HD := Lib.hid hd
  clear hd
  go_enter Try.func5, Try.ntmps5
  go_wp2_with fail
  refine (new_any w).mono ?_
  rintro e w1 ⟨c, rfl, hB1, hc1, hb1⟩
  have hcw : c < w1.heap.size := hB1.lt rfl
  have HP := Lib.hid (show Pair w (w1.alloc (.cells #[.slice none 0 0] 38)) (fun x => x = c) (fun x => x = w1.heap.size) c w1.heap.size [] [] from
    ⟨hB1.below ((Below.refl _ _).alloc (Nat.le_refl _) _), RBag.new w1, fun x hx hx' => by subst hx; omega, fun x hx => by subst hx; exact hc1, fun x hx => by subst hx; exact hb1.size, below_then hb1 ((Below.refl _ _).alloc (Nat.le_refl _) _)⟩)
  clear hB1 hc1 hb1
  go_wp2_with fail
  clear hcw
  generalize w1.heap.size = c' at *
  generalize w1.alloc (.cells #[.slice none 0 0] 38) = w2 at *
  go_loopw [5] (fun y wr => ∃ (k : Nat) (K K' : Nat → Prop) (l : List (Int × List Nat)), k ≤ 60 ∧ k ≤ n ∧ y = .int .i64 k ∧ l.length ≤ k ∧ Pair w wr K K' c c' l l) (fun y _ => 60 - (intOf y).toNat)
  case atStart => exact ⟨0, _, _, [], by omega, by omega, rfl, Nat.le_refl _, HP.out⟩
  case round =>
    obtain ⟨k, K1, K1', l, hk, hkn, rfl, hl, hp⟩ := hrel
    have HPK := Lib.hid (And.intro hp hl)
    clear hp hl
    by_cases hlt : k < n
    · have hlt' : (k : Int) < (n : Int) := by omega
      by_cases h60 : k < 60
      · obtain ⟨b, off, rfl, hbw, hcell⟩ := HD.out (by omega)
        obtain ⟨d0, d1, d2, s, hs⟩ := hcell k hlt
        have e0 := (HPK.out.1.bel.cell (p := ⟨b, off + k * 3, none⟩) hbw).trans d0
        have e1 := (HPK.out.1.bel.cell (p := ⟨b, off + k * 3 + 1, none⟩) hbw).trans d1
        have e2 := (HPK.out.1.bel.cell (p := ⟨b, off + k * 3 + 2, none⟩) hbw).trans d2
        have HDO := Lib.hid (does_any HPK.out.1 (by have := HPK.out.2; omega) (dk k) (dn k) hs)
        clear hcell d0 d1 d2 hs
        generalize dk k = dkk at *
        generalize dn k = dnk at *
        generalize dy k = dyk at *
        go_wp2_with (go_at_call 12; refine (HDO.out).mono ?_; rintro e w3 ⟨rfl, K2, K2', l2, hp2, hl2⟩; have HP2 := Lib.hid (And.intro hp2 hl2); clear hp2 hl2)
        exact ⟨⟨k + 1, _, _, l2, by omega, by omega, by go_num, by have := HP2.out.2; have := HPK.out.2; omega, HP2.out.1⟩, by simp [intOf]; omega⟩
      · have HLK := Lib.hid (like_any HPK.out.1 (by have := HPK.out.2; omega))
        have h60' : ¬ (k : Int) < 60 := by omega
        go_wp2_with (first
          | (go_at_call 13; refine (HLK.out).mono ?_; rintro e w3 ⟨rfl, hb3⟩; have HB3 := Lib.hid hb3; clear hb3)
          | (go_at_call 10; refine (lives_any _).mono ?_; rintro e w4 ⟨rfl, hb4⟩; have HB4 := Lib.hid hb4; clear hb4))
        go_ret
        exact ⟨rfl, below_then HB3.out HB4.out⟩
    · have HLK := Lib.hid (like_any HPK.out.1 (by have := HPK.out.2; omega))
      have hlt' : ¬ (k : Int) < (n : Int) := by omega
      go_wp2_with (first
        | (go_at_call 13; refine (HLK.out).mono ?_; rintro e w3 ⟨rfl, hb3⟩; have HB3 := Lib.hid hb3; clear hb3)
        | (go_at_call 10; refine (lives_any _).mono ?_; rintro e w4 ⟨rfl, hb4⟩; have HB4 := Lib.hid hb4; clear hb4))
      go_ret
      exact ⟨rfl, below_then HB3.out HB4.out⟩
theorem byt_row2 {w : World} {A : Option Addr} {n cap : Nat} {zs : List Int} (h : IsRow .u8 w A n cap zs) : ∃ l, Byt w (.slice A n cap) l := by
  by_cases h0 : 0 < n
  · obtain ⟨b, off, rfl, h1, h2, h3, f, hf, hc⟩ := h.bytes h0
    refine ⟨(List.range n).map f, some ⟨b, off, none⟩, cap, by simp, by simpa using h1, h2, (fun h => by cases h), fun _ => ⟨b, off, rfl, h3, fun j hj => ?_⟩⟩
    have hj' : j < n := by simpa using hj
    rw [hc j hj']
    simp [hj']
  · obtain rfl : n = 0 := by omega
    rcases h with ⟨rfl, _, rfl, _⟩ | ⟨x, rfl, h1, h2, _⟩
    · exact ⟨[], Byt.nil w⟩
    · exact ⟨[], some x, cap, rfl, h1, h2, (fun h => by cases h), fun h => absurd h (Nat.lt_irrefl 0)⟩
theorem trod_byt {H : Type} {enc : TypeId × Value → H} {W : World} {base : Nat} {sp : Nat → Bool} {held : Bool} {fuel : Nat} {v : Value} {x : DataW H × List MemPlace}
    (h : DataW.trod enc Try.prog W base sp held fuel 22 [v] = some x) : ∃ l, Byt W v l := by
  rcases open_ints Try.underlying22 Try.underlying5 (by kernel_rfl) h with ⟨hcs, _⟩ | ⟨x, l, c, zs, hcs, _, hl, hm, hz, _, hcell, hwz⟩
  · injection hcs with hcs _
    exact ⟨[], by rw [hcs]; exact Byt.nil W⟩
  · injection hcs with hcs _
    subst hcs
    have hz' : l ≤ zs.length := by rw [hz]; split <;> omega
    have hzm : zs.length ≤ maxLen := by rw [hz]; split <;> omega
    obtain ⟨l', hl'⟩ := byt_row2 (zs := zs) (.inr ⟨x, rfl, hz', hzm, rfl, hcell, hwz⟩)
    obtain ⟨A', cap', e, k1, k2, k3, k4⟩ := hl'
    injection e with e1 e2 e3
    subst e1
    exact ⟨l', some x, c, by rw [e2], by omega, hm, (fun h => by cases h), k4⟩
/-- The deeds, opened to their cells. -/
theorem open_deeds {H : Type} {enc : TypeId × Value → H} {W : World} {b0 : Nat} {sp : Nat → Bool} {held : Bool} {v : Value} {d : DataW H} {p : List MemPlace}
    (hv : Value.okWide Try.prog W .any b0 34 v) (h : DataW.Trod enc Try.prog W 0 sp held 34 v d p) : ∃ A n cap dk dn dy, v = .slice A n cap ∧ n ≤ cap ∧ cap ≤ maxLen ∧ Deeds W A n dk dn dy := by
  obtain ⟨A, n, cap, rfl⟩ := okWide_slice Try.underlying34 hv
  obtain ⟨fuel, hf⟩ := h
  rcases open_slice Try.underlying34 hf with ⟨hcs, _⟩ | ⟨⟨b, off, spot⟩, len, cap', m, n', D, Pl, hcs, _, hl, hm, hmm, _, hx⟩
  · simp [Value.cells] at hcs
    obtain ⟨rfl, rfl, rfl⟩ := hcs
    exact ⟨none, 0, 0, fun _ => 0, fun _ => 0, fun _ => .nilFunc, rfl, Nat.le_refl _, by unfold maxLen; omega, fun h => by omega⟩
  · simp [Value.cells] at hcs
    obtain ⟨rfl, rfl, rfl⟩ := hcs
    have hlm : n ≤ m := by rw [hmm]; split <;> omega
    have hC : Try.prog.cellsOf 41 = 3 := by kernel_rfl
    rw [hC] at hx
    have each : ∀ i, i < n → ∃ q : Int × Int × Value, W.cell? ((⟨b, off, spot⟩ : Addr).add (i * 3)) = some (.int .i64 q.1) ∧ W.cell? ((⟨b, off, spot⟩ : Addr).add (i * 3 + 1)) = some (.int .i64 q.2.1) ∧
        W.cell? ((⟨b, off, spot⟩ : Addr).add (i * 3 + 2)) = some q.2.2 ∧ ∃ s, Byt W q.2.2 s := fun i hi => by
      obtain ⟨cs', hc, ht⟩ := hx i (by omega)
      obtain ⟨ys, n2, _, _, hlen, hyl, hfs⟩ := DataW.trod_struct Try.underlying41 ht
      rw [hC] at hlen
      obtain ⟨_, hcl, hat⟩ := World.cells?_some hc
      match cs', hlen, ys, hyl with
      | [v0, v1, v2], _, [y0, y1, y2], _ =>
        have c3 : Try.prog.cellsOf 3 = 1 := by kernel_rfl
        have c22 : Try.prog.cellsOf 22 = 1 := by kernel_rfl
        have t0 : DataW.trod enc Try.prog W 0 sp held n2 3 (([v0, v1, v2].drop 0).take (Try.prog.cellsOf 3)) = some y0 := hfs 0 _ rfl
        have t1 : DataW.trod enc Try.prog W 0 sp held n2 3 (([v0, v1, v2].drop 1).take (Try.prog.cellsOf 3)) = some y1 := hfs 1 _ rfl
        have t2 : DataW.trod enc Try.prog W 0 sp held n2 22 (([v0, v1, v2].drop 2).take (Try.prog.cellsOf 22)) = some y2 := hfs 2 _ rfl
        rw [c3] at t0 t1
        rw [c22] at t2
        obtain ⟨z0, e0, _, _⟩ := DataW.trod_int Try.underlying3 t0
        obtain ⟨z1, e1, _, _⟩ := DataW.trod_int Try.underlying3 t1
        obtain ⟨s, hs⟩ := trod_byt (v := v2) t2
        injection e0 with e0 _
        injection e1 with e1 _
        have k0 := hat 0 (by omega)
        have k1 := hat 1 (by omega)
        have k2 := hat 2 (by omega)
        rw [add_add] at k0 k1 k2
        exact ⟨(z0, z1, v2), by rw [← e0]; exact k0, by rw [← e1]; exact k1, k2, s, hs⟩
    obtain ⟨q, hq⟩ : ∃ q : Nat → Int × Int × Value, ∀ i, i < n → W.cell? ((⟨b, off, spot⟩ : Addr).add (i * 3)) = some (.int .i64 (q i).1) ∧ W.cell? ((⟨b, off, spot⟩ : Addr).add (i * 3 + 1)) = some (.int .i64 (q i).2.1) ∧
        W.cell? ((⟨b, off, spot⟩ : Addr).add (i * 3 + 2)) = some (q i).2.2 ∧ ∃ s, Byt W (q i).2.2 s :=
      ⟨fun i => if h : i < n then Classical.choose (each i h) else (0, 0, .nilFunc), fun i hi => by simp only [hi, dif_pos]; exact Classical.choose_spec (each i hi)⟩
    refine ⟨some ⟨b, off, spot⟩, n, cap, fun i => (q i).1, fun i => (q i).2.1, fun i => (q i).2.2, rfl, hl, hm, fun h0 => ?_⟩
    have c0 := (hq 0 h0).1
    have hs : spot = none := by simpa [Addr.add] using World.cell?_spot c0
    subst hs
    refine ⟨b, off, rfl, World.block_lt_of_cell? _ _ (by simpa [Addr.add] using c0), fun i hi => ?_⟩
    have hadd : ∀ j, (⟨b, off, none⟩ : Addr).add j = ⟨b, off + j, none⟩ := fun j => by unfold Addr.add; split <;> simp_all
    obtain ⟨h1, h2, h3, h4⟩ := hq i hi
    rw [hadd] at h1 h2 h3
    exact ⟨h1, h2, h3, h4⟩
/-! ### THE ROW -/
set_option maxRecDepth 100000 in
theorem netPlays_lifted (os : Os) (started : os.Started) (H : Type) (enc : TypeId × Value → H) :
    ReturnsInHanded {} Try.checked os 5 .any (Rows.netPlaysSpec.pre6 enc Try.prog Try.f5 Rows.netPlaysRow.domain false) (Rows.netPlaysSpec.post enc Try.prog Try.f5 false true false false) := by
  refine returnsInHanded_of_change (C := Try.checked) own started (by kernel_rfl) Try.func5
    (ChangeSpec.witness6 (enc := enc) (C := Try.checked) false ⟨#[], #[.slice none 0 0], []⟩ 8 (by kernel_rfl) (by kernel_rfl) (by kernel_rfl) (by kernel_rfl)) ?_
  intro W base args ds gs before hval0 hW _ _
  have hval : ∀ (j : Nat) t v, Try.f5.params[j]? = some t → args[j]? = some v → Value.okWide Try.prog W .any base t v := hval0
  have hW' := hW
  obtain ⟨p, q, hA0, hV, rfl, _, _⟩ := hW
  have hA : DataW.TrodAll enc Try.prog W 0 (fun _ => true) true Try.f5.params.toList args.toList ds p := hA0
  rw [Try.params5] at hA hval
  obtain ⟨v0, vs0, d0, ds0, p0, q0, hargs, rfl, rfl, h0, r0⟩ := trodAll_cons hA
  obtain ⟨rfl, rfl, rfl⟩ := trodAll_nil r0
  obtain rfl : args = #[v0] := by cases args; simp_all
  obtain ⟨rfl, rfl⟩ := trodVars_none hV
  have k0 := h0
  have lt0 : ∀ x ∈ p0, x.block < W.heap.size := by obtain ⟨m, hm⟩ := k0; exact DataW.trod_lt m _ _ _ hm
  obtain ⟨A0, n0, c0, dk0, dn0, dy0, rfl, _, _, w0⟩ := open_deeds (hval 0 34 v0 rfl rfl) h0
  clear hA0 hval0
  refine (lawPlays A0 n0 c0 dk0 dn0 dy0 W w0).mono fun e W' ⟨he, bel⟩ => ?_
  subst he
  exact ⟨_, rfl, _, _, _, [], _, [], hW', trodAll_mk1 (shut_bool Try.underlying4 _), (trodAll_cons_mk (Below.trod laidOut (by kernel_rfl) (of_decide_eq_true (by kernel_rfl)) k0 bel lt0) trodAll_mk0), rfl, bel.frame _, fun h => by cases h⟩
theorem netPlays_over : Rows.netPlaysRow.holds Try.pinned (OpenSpec.ofChange Rows.netPlaysSpec) :=
  OpenClaim.holds_of_wide 5 Try.f5 rfl rfl rfl rfl rfl rfl rfl ⟨rfl, rfl, rfl, rfl, rfl⟩ rfl rfl rfl rfl rfl (by kernel_rfl) Try.func5 (by kernel_rfl)
    (of_decide_eq_true (by kernel_rfl)) (by unfold Func.isWrapper; first | (rw [if_pos (by decide +kernel)]; kernel_rfl) | (rw [if_neg (by decide +kernel)]; exact ⟨rfl, rfl⟩))
    (fun os started H enc _ => netPlays_lifted os started H enc)
/-- THE STATEMENT. -/
theorem netPlays_holds : Rows.NetPlaysSaid := netPlays_over
end Go.Proofs.Ytmicejjlfojncaa
