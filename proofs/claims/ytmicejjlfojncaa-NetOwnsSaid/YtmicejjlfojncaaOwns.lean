/-
  NetOwns: for any bytes the law returns true: what is handed in stays, and what is told is new. No condition.
-/
import Derived.Test.YtmicejjlfojncaaLives
namespace Go.Proofs.Ytmicejjlfojncaa
open Go.ChangeShapes Go.WideShapes Go.ChangeAt Go.RowKit Go.Deep
theorem byt_of_row {w : World} {A : Option Addr} {n cap : Nat} {zs : List Int} (h : IsRow .u8 w A n cap zs) : ∃ l, Byt w (.slice A n cap) l := by
  by_cases h0 : 0 < n
  · obtain ⟨b, off, rfl, h1, h2, h3, f, hf, hc⟩ := h.bytes h0
    refine ⟨(List.range n).map f, some ⟨b, off, none⟩, cap, by simp, by simpa using h1, h2, (fun h => by cases h), fun _ => ⟨b, off, rfl, h3, fun j hj => ?_⟩⟩
    have hj' : j < n := by simpa using hj
    rw [hc j hj']
    simp [hj']
  · obtain rfl : n = 0 := by omega
    refine ⟨[], A, cap, rfl, Nat.zero_le _, ?_, ?_, fun h => absurd h (Nat.lt_irrefl 0)⟩
    · rcases h with ⟨_, _, h, _⟩ | ⟨_, _, _, h, _⟩
      · rw [h]; exact Nat.zero_le _
      · exact h
    · intro hA
      rcases h with ⟨_, _, h, _⟩ | ⟨_, h, _⟩
      · exact h
      · rw [hA] at h; cases h
theorem open_byt {H : Type} {enc : TypeId × Value → H} {W : World} {b0 : Nat} {sp : Nat → Bool} {held : Bool} {v : Value} {d : DataW H} {p : List MemPlace}
    (hv : Value.okWide Try.prog W .any b0 22 v) (h : DataW.Trod enc Try.prog W 0 sp held 22 v d p) : ∃ l, Byt W v l := by
  obtain ⟨A0, n0, c0, rfl⟩ := okWide_slice Try.underlying22 hv
  obtain ⟨fuel, hf⟩ := h
  rcases open_ints Try.underlying22 Try.underlying5 (by kernel_rfl) hf with ⟨hcs, _⟩ | ⟨x, l, c, zs, hcs, _, hl, hm, hz, _, hcell, hwz⟩
  · simp [Value.cells] at hcs
    obtain ⟨rfl, rfl, rfl⟩ := hcs
    exact ⟨[], Byt.nil W⟩
  · simp [Value.cells] at hcs
    obtain ⟨rfl, rfl, rfl⟩ := hcs
    have hz' : n0 ≤ zs.length := by rw [hz]; split <;> omega
    have hzm : zs.length ≤ maxLen := by rw [hz]; split <;> omega
    obtain ⟨l, hl'⟩ := byt_of_row (zs := zs) (.inr ⟨x, rfl, hz', hzm, rfl, hcell, hwz⟩)
    obtain ⟨A', cap', e, k1, k2, k3, k4⟩ := hl'
    injection e with e1 e2 e3
    subst e1
    exact ⟨l, some x, c0, by rw [e2], by omega, hm, (fun h => by cases h), k4⟩
theorem Byt.cut {w : World} {A : Option Addr} {cap m : Nat} {l : List Nat} (h : Byt w (.slice A l.length cap) l) (hm : m ≤ l.length) : Byt w (.slice A m cap) (l.take m) := by
  obtain ⟨A', cap', e, h1, h2, h3, h4⟩ := h
  injection e with e1 e2 e3
  subst e1 e3
  have hl : (l.take m).length = m := by simp; omega
  refine ⟨A, cap, by rw [hl], by omega, h2, h3, fun h0 => ?_⟩
  obtain ⟨b, off, e, hb, hc⟩ := h4 (by omega)
  refine ⟨b, off, e, hb, fun j hj => ?_⟩
  rw [hl] at hj
  rw [hc j (by omega)]
  simp [hj]
theorem own_fr {S : Nat → Prop} {w w' : World} {B : Nat} {e : TypeId} {size : Nat} {v : Value} {n : Nat} {xs : List Value} (h : w.ownsRow B e size v n xs) (k : Fr S w w') (hs : ∀ b, v.ownBlock = some b → ¬ S b) : w'.ownsRow B e size v n xs := by
  refine ⟨h.1, ?_⟩
  rcases h.2 with h0 | ⟨g, cap, cur, rfl, hb, hg, r⟩
  · exact .inl h0
  · exact .inr ⟨g, cap, cur, rfl, hb, k.blk (hs g rfl) hg, r⟩
theorem Had.other {S : Nat → Prop} {w0 w w' : World} {K : Nat → Prop} {c : Nat} {l : List (Int × List Nat)} (h : Had w0 w K c l) (k : Fr S w w') (h1 : ∀ x, K x → ¬ S x) (h2 : ∀ x, S x → w0.heap.size ≤ x) : Had w0 w' K c l :=
  ⟨h.bag.fr k h1, h.low, h.bel.trans (k.below h.bel.size h2)⟩
/-- A row of bytes that may be written. -/
def Wr (w : World) (A : Option Addr) (n : Nat) : Prop := 0 < n → ∃ g cur, A = some ⟨g, 0, none⟩ ∧ w.heap[g]? = some (.cells cur 5 (0, 0)) ∧ n ≤ cur.size
theorem Wr.own {w : World} {B : Nat} {A : Option Addr} {n c : Nat} {xs : List Value} (h : w.ownsRow B 5 1 (.slice A n c) n xs) : Wr w A n := fun h0 => by
  rcases h.2 with ⟨_, h1⟩ | ⟨g, cap, cur, e, hb, hg, hc, h5, h6, h7⟩
  · omega
  · injection e with e1
    exact ⟨g, cur, e1, hg, by omega⟩
theorem Wr.set {w : World} {A : Option Addr} {n g i : Nat} (h : Wr w A n) (e : A = some ⟨g, 0, none⟩) (u : Value) : Wr (w.setCell ⟨g, i, none⟩ u) A n := fun h0 => by
  obtain ⟨g', cur, e', hg, hn⟩ := h h0
  rw [e'] at e
  injection e with e
  injection e with e
  subst e
  exact ⟨g', _, e', setRow_cell w g' _ _ _ i hg, by simpa using hn⟩
set_option maxRecDepth 100000 in
set_option maxHeartbeats 16000000 in
theorem lawOwns (v : Value) (l : List Nat) (w : World) (h : Byt w v l) : Calls Try.prog 3 #[v] w fun e w' => e = .returned (.bool true) ∧ Below w.heap.size w w' := by
  have h' := h
  obtain ⟨A, cap, rfl, h1, h2, h3, h4⟩ := h
  have hor : 50 < l.length ∨ l.length ≤ 50 := by omega
  unfold maxLen at h2
  rcases hor with hl | hl
  · obtain ⟨b, off, rfl, hb, hc⟩ := h4 (by omega)
    have hy := h'.cut (m := 50) (by omega)
    have hln : (l.take 50).length = 50 := by simp; omega
    have HY := Lib.hid hy
    have HLN := Lib.hid hln
    clear hc hy h' h4 hln hb
    generalize l.take 50 = l' at *
    go_enter Try.func3, Try.ntmps3
    go_wp2_with fail
    refine (new_any _).mono ?_
    rintro e w1 ⟨c, rfl, hB1, hc1, hb1⟩
    obtain ⟨n, hLEN⟩ : ∃ n, l'.length = n := ⟨_, rfl⟩
    have hn50 : n ≤ 50 := by have := HLN.out; omega
    have H1 := Lib.hid (show Had w w1 (fun x => x = c) c [] from ⟨hB1, fun x hx => by rw [hx]; exact hc1, hb1⟩)
    have hcw : c < w1.heap.size := hB1.lt rfl
    have HY1 := Lib.hid (HY.out.below hb1)
    clear hB1 hb1
    go_wp2_with (at_builtin; refine wpl_appb (n := 0) (xs := []) (B := w1.heap.size) rfl _ _ rfl rfl (World.ownsRow_nil _ _ _ _) (Below.refl _ _) (Nat.le_refl _) rfl HY1.out (by omega) ?_; intro vo w2 hown hbel hB' hgr)
    rw [Nat.zero_add, hLEN, List.nil_append] at hown
    obtain ⟨Ao, co, rfl, _⟩ := own_shape hown
    have hlo := hown.lt
    have H2 := Lib.hid (H1.out.below hbel)
    have HO2 := Lib.hid hown
    have hyo : Byt w2 (.slice Ao n co) l' := byt_own (by rw [hLEN]; exact hown)
    clear hgr
    refine (send_any H2.out.bag 3 hyo (by omega)).mono ?_
    rintro e w3 ⟨rfl, K3, hB3, hF3, hK3⟩
    have H3 := Lib.hid (show Had w w3 K3 c [(3, l')] from H2.out.turned hB3 hF3 hK3)
    have HW3 := Lib.hid (Wr.own (own_fr hown hF3 fun b hb hk => by have := (hlo b hb).1; subst hk; omega))
    have HD3 := Lib.hid (show ∀ x, K3 x → ¬ Value.ownBlock (.slice Ao n co) = some x from fun x hx e => by
      have h5 := hlo x e
      rcases hK3 x hx with h6 | h6
      · subst h6; omega
      · omega)
    have HL3 := Lib.hid (show ∀ x, Value.ownBlock (.slice Ao n co) = some x → w.heap.size ≤ x from fun x e => by
      have h5 := hlo x e
      have := H1.out.bel.size
      omega)
    clear hB3 hF3 hK3 hown hyo hbel hB' hlo
    go_wp2_with fail
    go_loopw [5] (fun y wr => ∃ i : Nat, i ≤ n ∧ y = .int .i64 i ∧ Wr wr Ao n ∧ Fr (fun x => Value.ownBlock (.slice Ao n co) = some x) w3 wr) (fun y _ => n - (intOf y).toNat)
    case atStart => exact ⟨0, Nat.zero_le _, rfl, HW3.out, Fr.refl _ _⟩
    case round =>
      obtain ⟨i, hi, rfl, hwr, hfr⟩ := hrel
      by_cases hlt : i < n
      · have hd : decide ((i : Int) < (n : Int)) = true := by simp; omega
        obtain ⟨g, cur, hA, hg, hcs⟩ := hwr (by omega)
        have hset := hwr.set (i := i) hA (.int .u8 77)
        have hfs := hfr.setCell (b := g) (i := i) (.inl (by rw [hA]; rfl)) (.int .u8 77)
        obtain ⟨old, hold⟩ : ∃ o, cur[i]? = some o := ⟨cur[i], by simp⟩
        have hcell : wr.cell? ⟨g, i, none⟩ = some old := blk_cell hg hold
        have hfro := frozen_of_row wr g i _ _ hg
        rw [hA] at hset hfs
        have HSET := Lib.hid (And.intro hset hfs)
        clear hset hfs hwr hfr hg hcs hold
        rw [hA]
        go_wp2_with fail
        exact ⟨⟨i + 1, by omega, by go_num, HSET.out.1, HSET.out.2⟩, by simp [intOf]; omega⟩
      · obtain rfl : n = i := by omega
        have hd : decide ((n : Int) < (n : Int)) = false := by simp
        have H4 := Lib.hid (H3.out.other hfr HD3.out HL3.out)
        clear hwr hfr
        generalize hw4 : wr = w4 at *
        clear hw4
        go_wp2_with fail
        refine (take_in H4.out.bag 0 (by simp) true).mono ?_
        rintro e w5 ⟨vp, rfl, hyp, hypb, hB5, hF5, hop⟩
        have H5 := Lib.hid (show Had w w5 K3 c [(3, l')] from H4.out.turned hB5 hF5 fun x hx => .inl hx)
        have hyp' : Byt w5 vp l' := hyp
        have hop' : w5.ownsRow w4.heap.size 5 1 vp l'.length (bl l') := hop
        rw [hLEN] at hop'
        obtain ⟨Ap, cp, rfl, _⟩ := own_shape hop'
        have hlp := hop'.lt
        have r5 : (convert 22 9 (.slice Ap n cp)).run Try.prog w5 = .ok (.string (str l')) w5 := run_str hyp'
        have HW5 := Lib.hid (Wr.own hop')
        have HD5 := Lib.hid (show ∀ x, K3 x → ¬ Value.ownBlock (.slice Ap n cp) = some x from fun x hx e => by
          have h5 := hlp x e
          have h6 := H4.out.bag.lt hx
          omega)
        have HL5 := Lib.hid (show ∀ x, Value.ownBlock (.slice Ap n cp) = some x → w.heap.size ≤ x from fun x e => by
          have h5 := hlp x e
          have := H4.out.bel.size
          omega)
        clear hyp hypb hB5 hF5 hop hyp' hop' hlp
        go_wp2_with fail
        go_loopw [10] (fun y wr => ∃ i : Nat, i ≤ n ∧ y = .int .i64 i ∧ Wr wr Ap n ∧ Fr (fun x => Value.ownBlock (.slice Ap n cp) = some x) w5 wr) (fun y _ => n - (intOf y).toNat)
        case atStart => exact ⟨0, Nat.zero_le _, rfl, HW5.out, Fr.refl _ _⟩
        case round =>
          obtain ⟨i, hi, rfl, hwr, hfr⟩ := hrel
          by_cases hlt : i < n
          · have hd : decide ((i : Int) < (n : Int)) = true := by simp; omega
            obtain ⟨g, cur, hA, hg, hcs⟩ := hwr (by omega)
            have hset := hwr.set (i := i) hA (.int .u8 9)
            have hfs := hfr.setCell (b := g) (i := i) (.inl (by rw [hA]; rfl)) (.int .u8 9)
            obtain ⟨old, hold⟩ : ∃ o, cur[i]? = some o := ⟨cur[i], by simp⟩
            have hcell : wr.cell? ⟨g, i, none⟩ = some old := blk_cell hg hold
            have hfro := frozen_of_row wr g i _ _ hg
            rw [hA] at hset hfs
            have HSET := Lib.hid (And.intro hset hfs)
            clear hset hfs hwr hfr hg hcs hold
            rw [hA]
            go_wp2_with fail
            exact ⟨⟨i + 1, by omega, by go_num, HSET.out.1, HSET.out.2⟩, by simp [intOf]; omega⟩
          · obtain rfl : n = i := by omega
            have hd : decide ((n : Int) < (n : Int)) = false := by simp
            have H6 := Lib.hid (H5.out.other hfr HD5.out HL5.out)
            clear hwr hfr
            generalize hw6 : wr = w6 at *
            clear hw6
            go_wp2_with fail
            refine (take_in H6.out.bag 0 (by simp) false).mono ?_
            rintro e w7 ⟨vq, rfl, hyq, hyqb, hB7, hF7, hoq⟩
            have H7 := Lib.hid (show Had w w7 K3 c [] from H6.out.turned hB7 hF7 fun x hx => .inl hx)
            have hyq' : Byt w7 vq l' := hyq
            have hyz : Byt w7 _ l' := HY.out.below H7.out.bel
            have r7 := run_str hyz
            have hoq' : w7.ownsRow w6.heap.size 5 1 vq l'.length (bl l') := hoq
            rw [hLEN] at hoq'
            obtain ⟨Aq, cq, rfl, _⟩ := own_shape hoq'
            have r8 : (convert 22 9 (.slice Aq n cq)).run Try.prog w7 = .ok (.string (str l')) w7 := run_str hyq'
            have HLEN := Lib.hid (len_any H7.out.bag)
            clear hyq hyqb hB7 hF7 hoq hyq' hyz hoq' r5
            generalize str l' = S at *
            have hSS : (S.toList == S.toList) = true := by simp
            go_wp2_with (first | (go_at_call 9; refine (HLEN.out).mono ?_; rintro e w8 ⟨rfl, rfl⟩) | (go_at_call 10; refine (lives_any _).mono ?_; rintro e w9 ⟨rfl, hb9⟩))
            go_ret
            exact ⟨rfl, below_then H7.out.bel hb9⟩
  · have HY := Lib.hid h'
    clear h' h4
    generalize hLEN : l.length = n at *
    go_enter Try.func3, Try.ntmps3
    go_wp2_with fail
    refine (new_any _).mono ?_
    rintro e w1 ⟨c, rfl, hB1, hc1, hb1⟩
    have H1 := Lib.hid (show Had w w1 (fun x => x = c) c [] from ⟨hB1, fun x hx => by rw [hx]; exact hc1, hb1⟩)
    have hcw : c < w1.heap.size := hB1.lt rfl
    have HY1 := Lib.hid (HY.out.below hb1)
    clear hB1 hb1
    go_wp2_with (at_builtin; refine wpl_appb (n := 0) (xs := []) (B := w1.heap.size) rfl _ _ rfl rfl (World.ownsRow_nil _ _ _ _) (Below.refl _ _) (Nat.le_refl _) rfl HY1.out (by omega) ?_; intro vo w2 hown hbel hB' hgr)
    rw [Nat.zero_add, hLEN, List.nil_append] at hown
    obtain ⟨Ao, co, rfl, _⟩ := own_shape hown
    have hlo := hown.lt
    have H2 := Lib.hid (H1.out.below hbel)
    have HO2 := Lib.hid hown
    have hyo : Byt w2 (.slice Ao n co) l := byt_own (by rw [hLEN]; exact hown)
    clear hgr
    refine (send_any H2.out.bag 3 hyo (by omega)).mono ?_
    rintro e w3 ⟨rfl, K3, hB3, hF3, hK3⟩
    have H3 := Lib.hid (show Had w w3 K3 c [(3, l)] from H2.out.turned hB3 hF3 hK3)
    have HW3 := Lib.hid (Wr.own (own_fr hown hF3 fun b hb hk => by have := (hlo b hb).1; subst hk; omega))
    have HD3 := Lib.hid (show ∀ x, K3 x → ¬ Value.ownBlock (.slice Ao n co) = some x from fun x hx e => by
      have h5 := hlo x e
      rcases hK3 x hx with h6 | h6
      · subst h6; omega
      · omega)
    have HL3 := Lib.hid (show ∀ x, Value.ownBlock (.slice Ao n co) = some x → w.heap.size ≤ x from fun x e => by
      have h5 := hlo x e
      have := H1.out.bel.size
      omega)
    clear hB3 hF3 hK3 hown hyo hbel hB' hlo
    go_wp2_with fail
    go_loopw [5] (fun y wr => ∃ i : Nat, i ≤ n ∧ y = .int .i64 i ∧ Wr wr Ao n ∧ Fr (fun x => Value.ownBlock (.slice Ao n co) = some x) w3 wr) (fun y _ => n - (intOf y).toNat)
    case atStart => exact ⟨0, Nat.zero_le _, rfl, HW3.out, Fr.refl _ _⟩
    case round =>
      obtain ⟨i, hi, rfl, hwr, hfr⟩ := hrel
      by_cases hlt : i < n
      · have hd : decide ((i : Int) < (n : Int)) = true := by simp; omega
        obtain ⟨g, cur, hA, hg, hcs⟩ := hwr (by omega)
        have hset := hwr.set (i := i) hA (.int .u8 77)
        have hfs := hfr.setCell (b := g) (i := i) (.inl (by rw [hA]; rfl)) (.int .u8 77)
        obtain ⟨old, hold⟩ : ∃ o, cur[i]? = some o := ⟨cur[i], by simp⟩
        have hcell : wr.cell? ⟨g, i, none⟩ = some old := blk_cell hg hold
        have hfro := frozen_of_row wr g i _ _ hg
        rw [hA] at hset hfs
        have HSET := Lib.hid (And.intro hset hfs)
        clear hset hfs hwr hfr hg hcs hold
        rw [hA]
        go_wp2_with fail
        exact ⟨⟨i + 1, by omega, by go_num, HSET.out.1, HSET.out.2⟩, by simp [intOf]; omega⟩
      · obtain rfl : n = i := by omega
        have hd : decide ((n : Int) < (n : Int)) = false := by simp
        have H4 := Lib.hid (H3.out.other hfr HD3.out HL3.out)
        clear hwr hfr
        generalize hw4 : wr = w4 at *
        clear hw4
        go_wp2_with fail
        refine (take_in H4.out.bag 0 (by simp) true).mono ?_
        rintro e w5 ⟨vp, rfl, hyp, hypb, hB5, hF5, hop⟩
        have H5 := Lib.hid (show Had w w5 K3 c [(3, l)] from H4.out.turned hB5 hF5 fun x hx => .inl hx)
        have hyp' : Byt w5 vp l := hyp
        have hop' : w5.ownsRow w4.heap.size 5 1 vp l.length (bl l) := hop
        rw [hLEN] at hop'
        obtain ⟨Ap, cp, rfl, _⟩ := own_shape hop'
        have hlp := hop'.lt
        have r5 : (convert 22 9 (.slice Ap n cp)).run Try.prog w5 = .ok (.string (str l)) w5 := run_str hyp'
        have HW5 := Lib.hid (Wr.own hop')
        have HD5 := Lib.hid (show ∀ x, K3 x → ¬ Value.ownBlock (.slice Ap n cp) = some x from fun x hx e => by
          have h5 := hlp x e
          have h6 := H4.out.bag.lt hx
          omega)
        have HL5 := Lib.hid (show ∀ x, Value.ownBlock (.slice Ap n cp) = some x → w.heap.size ≤ x from fun x e => by
          have h5 := hlp x e
          have := H4.out.bel.size
          omega)
        clear hyp hypb hB5 hF5 hop hyp' hop' hlp
        go_wp2_with fail
        go_loopw [10] (fun y wr => ∃ i : Nat, i ≤ n ∧ y = .int .i64 i ∧ Wr wr Ap n ∧ Fr (fun x => Value.ownBlock (.slice Ap n cp) = some x) w5 wr) (fun y _ => n - (intOf y).toNat)
        case atStart => exact ⟨0, Nat.zero_le _, rfl, HW5.out, Fr.refl _ _⟩
        case round =>
          obtain ⟨i, hi, rfl, hwr, hfr⟩ := hrel
          by_cases hlt : i < n
          · have hd : decide ((i : Int) < (n : Int)) = true := by simp; omega
            obtain ⟨g, cur, hA, hg, hcs⟩ := hwr (by omega)
            have hset := hwr.set (i := i) hA (.int .u8 9)
            have hfs := hfr.setCell (b := g) (i := i) (.inl (by rw [hA]; rfl)) (.int .u8 9)
            obtain ⟨old, hold⟩ : ∃ o, cur[i]? = some o := ⟨cur[i], by simp⟩
            have hcell : wr.cell? ⟨g, i, none⟩ = some old := blk_cell hg hold
            have hfro := frozen_of_row wr g i _ _ hg
            rw [hA] at hset hfs
            have HSET := Lib.hid (And.intro hset hfs)
            clear hset hfs hwr hfr hg hcs hold
            rw [hA]
            go_wp2_with fail
            exact ⟨⟨i + 1, by omega, by go_num, HSET.out.1, HSET.out.2⟩, by simp [intOf]; omega⟩
          · obtain rfl : n = i := by omega
            have hd : decide ((n : Int) < (n : Int)) = false := by simp
            have H6 := Lib.hid (H5.out.other hfr HD5.out HL5.out)
            clear hwr hfr
            generalize hw6 : wr = w6 at *
            clear hw6
            go_wp2_with fail
            refine (take_in H6.out.bag 0 (by simp) false).mono ?_
            rintro e w7 ⟨vq, rfl, hyq, hyqb, hB7, hF7, hoq⟩
            have H7 := Lib.hid (show Had w w7 K3 c [] from H6.out.turned hB7 hF7 fun x hx => .inl hx)
            have hyq' : Byt w7 vq l := hyq
            have hyz : Byt w7 _ l := HY.out.below H7.out.bel
            have r7 := run_str hyz
            have hoq' : w7.ownsRow w6.heap.size 5 1 vq l.length (bl l) := hoq
            rw [hLEN] at hoq'
            obtain ⟨Aq, cq, rfl, _⟩ := own_shape hoq'
            have r8 : (convert 22 9 (.slice Aq n cq)).run Try.prog w7 = .ok (.string (str l)) w7 := run_str hyq'
            have HLEN := Lib.hid (len_any H7.out.bag)
            clear hyq hyqb hB7 hF7 hoq hyq' hyz hoq' r5
            generalize str l = S at *
            have hSS : (S.toList == S.toList) = true := by simp
            go_wp2_with (first | (go_at_call 9; refine (HLEN.out).mono ?_; rintro e w8 ⟨rfl, rfl⟩) | (go_at_call 10; refine (lives_any _).mono ?_; rintro e w9 ⟨rfl, hb9⟩))
            go_ret
            exact ⟨rfl, below_then H7.out.bel hb9⟩
/-! ### THE ROW -/
set_option maxRecDepth 100000 in
theorem netOwns_lifted (os : Os) (started : os.Started) (H : Type) (enc : TypeId × Value → H) :
    ReturnsInHanded {} Try.checked os 3 .any (Rows.netOwnsSpec.pre6 enc Try.prog Try.f3 Rows.netOwnsRow.domain false) (Rows.netOwnsSpec.post enc Try.prog Try.f3 false true false false) := by
  refine returnsInHanded_of_change (C := Try.checked) own started (by kernel_rfl) Try.func3
    (ChangeSpec.witness6 (enc := enc) (C := Try.checked) false ⟨#[], #[.slice none 0 0], []⟩ 8 (by kernel_rfl) (by kernel_rfl) (by kernel_rfl) (by kernel_rfl)) ?_
  intro W base args ds gs before hval0 hW _ _
  have hval : ∀ (j : Nat) t v, Try.f3.params[j]? = some t → args[j]? = some v → Value.okWide Try.prog W .any base t v := hval0
  have hW' := hW
  obtain ⟨p, q, hA0, hV, rfl, _, _⟩ := hW
  have hA : DataW.TrodAll enc Try.prog W 0 (fun _ => true) true Try.f3.params.toList args.toList ds p := hA0
  rw [Try.params3] at hA hval
  obtain ⟨v0, vs0, d0, ds0, p0, q0, hargs, rfl, rfl, h0, r0⟩ := trodAll_cons hA
  obtain ⟨rfl, rfl, rfl⟩ := trodAll_nil r0
  obtain rfl : args = #[v0] := by cases args; simp_all
  obtain ⟨rfl, rfl⟩ := trodVars_none hV
  have k0 := h0
  have lt0 : ∀ x ∈ p0, x.block < W.heap.size := by obtain ⟨m, hm⟩ := k0; exact DataW.trod_lt m _ _ _ hm
  obtain ⟨z0, w0⟩ := open_byt (hval 0 22 v0 rfl rfl) h0
  clear hA0 hval0
  refine (lawOwns v0 z0 W w0).mono fun e W' ⟨he, bel⟩ => ?_
  subst he
  exact ⟨_, rfl, _, _, _, [], _, [], hW', trodAll_mk1 (shut_bool Try.underlying4 _), (trodAll_cons_mk (Below.trod laidOut (by kernel_rfl) (of_decide_eq_true (by kernel_rfl)) k0 bel lt0) trodAll_mk0), rfl, bel.frame _, fun h => by cases h⟩
theorem netOwns_over : Rows.netOwnsRow.holds Try.pinned (OpenSpec.ofChange Rows.netOwnsSpec) :=
  OpenClaim.holds_of_wide 3 Try.f3 rfl rfl rfl rfl rfl rfl rfl ⟨rfl, rfl, rfl, rfl, rfl⟩ rfl rfl rfl rfl rfl (by kernel_rfl) Try.func3 (by kernel_rfl)
    (of_decide_eq_true (by kernel_rfl)) (by unfold Func.isWrapper; first | (rw [if_pos (by decide +kernel)]; kernel_rfl) | (rw [if_neg (by decide +kernel)]; exact ⟨rfl, rfl⟩))
    (fun os started H enc _ => netOwns_lifted os started H enc)
/-- THE STATEMENT. -/
theorem netOwns_holds : Rows.NetOwnsSaid := netOwns_over
end Go.Proofs.Ytmicejjlfojncaa
