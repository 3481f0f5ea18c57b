/-
  Drop.
-/
import Derived.Test.YtpjgcpnjfopolaaAsk2
namespace Go.Proofs.Ytpjgcpnjfopolaa
open Go.RowKit Go.Deep
def Tab.drop (s : Tab) (c : Int) : Tab := { s with g := fun i k => if k = c then none else s.g i k, wc := fun j => if s.wc j = c then 0 else s.wc j }
theorem Tab.Ok.drop {s : Tab} (h : s.Ok) (c : Int) : (s.drop c).Ok := ⟨fun i k p hp => by
  unfold Tab.drop at hp
  simp only at hp
  split at hp
  · cases hp
  · exact h.g i k p hp, fun j => by
  unfold Tab.drop
  simp only
  split
  · exact ⟨Int.le_refl _, (by decide : (0 : Int) ≤ 8)⟩
  · exact h.wc j, by
  unfold Tab.drop
  simp only [h.z]
  split <;> rfl⟩
theorem TP.congr {w : World} {b m : Nat} {s s' : Tab} (h : TP w b m s) (hok : s'.Ok) (hg : s'.g = s.g) (hw : ∀ i : Nat, i ≤ 32 → s'.wc i = s.wc i ∧ (s.wc i ≠ 0 → s'.wt i = s.wt i)) : TP w b m s' := by
  obtain ⟨arr, ha, h1, h2, h3⟩ := h.tab
  obtain ⟨es, clock, hm, hr⟩ := h.map
  refine ⟨hok, ⟨arr, ha, h1, h2, fun i hi => ?_⟩, ⟨es, clock, hm, by rw [hg]; exact hr⟩, h.ne⟩
  obtain ⟨h4, t, h5, h6⟩ := h3 i hi
  obtain ⟨h7, h8⟩ := hw i hi
  refine ⟨by rw [h7]; exact h4, t, h5, fun h => ?_⟩
  rw [h7] at h
  rw [h8 h]
  exact h6 h
/-- While Drop ranges over the map. -/
structure Drp (w wr : World) (m : Nat) (s : Tab) (c : Int) (clock : Nat) (es : List Ent) (seen : List Nat) (g : Int → Int → Option (Bool × Int)) : Prop where
  it : Iter wr m w.heap.size es clock seen
  rep : Rep es clock g
  others : ∀ i k, k ≠ c → g i k = s.g i k
  met : ∀ e ∈ es, e.born ∈ seen → e.c ≠ c
  fr : Fr (fun x => x = m) w wr
theorem Drp.next {w wr w' : World} {m clock : Nat} {s : Tab} {c : Int} {es : List Ent} {seen : List Nat} {g : Int → Int → Option (Bool × Int)} (h : Drp w wr m s c clock es seen g) {e : Ent} (he : e ∈ es) (hi : Iter w' m w.heap.size es clock (seen ++ [e.born])) (hg : wr.grownBy w' (some w.heap.size)) (hne : e.c ≠ c) : Drp w w' m s c clock es (seen ++ [e.born]) g :=
  ⟨hi, h.rep, h.others, fun x hx hb => by
    rcases List.mem_append.1 hb with hb | hb
    · exact h.met x hx hb
    · simp at hb
      rw [same_of_born h.rep.nodup hx he hb]
      exact hne, ⟨hg.os.trans h.fr.os, hg.tape.trans h.fr.tape, hg.output.trans h.fr.output, Nat.le_trans h.fr.size hg.size, fun k hk hn => (hg.block k (Nat.lt_of_lt_of_le hk h.fr.size) (by simp; omega)).trans (h.fr.block k hk hn)⟩⟩
theorem Drp.below {w wr w' : World} {m clock : Nat} {s : Tab} {c : Int} {es : List Ent} {seen : List Nat} {g : Int → Int → Option (Bool × Int)} (h : Drp w wr m s c clock es seen g) (hb : Below wr.heap.size wr w') : Drp w w' m s c clock es seen g :=
  ⟨h.it.kept (row := none) ⟨hb.os, hb.tape, hb.output, hb.size, fun k hk _ => hb.block k hk⟩ (by simp) (by simp), h.rep, h.others, h.met, h.fr.trans (Fr.of_below hb)⟩
/-- .. an entry is struck out, after it came up. -/
theorem Drp.strike {w wr w2 w3 w4 : World} {m clock : Nat} {s : Tab} {c : Int} {es es' : List Ent} {seen : List Nat} {g : Int → Int → Option (Bool × Int)} (h : Drp w wr m s c clock es seen g) {e : Ent} (he : e ∈ es) (hi : Iter w2 m w.heap.size es clock (seen ++ [e.born])) (hg : wr.grownBy w2 (some w.heap.size))
    (hb : Below w2.heap.size w2 w3) (hec : e.c = c) (hm : MapAt w4 m es' clock) (hr : Rep es' clock (upd g e.i e.c none)) (hg4 : w3.grownBy w4 (some m)) (hes : ∀ x, x ∈ es' ↔ x ∈ es ∧ ¬ (x.i = e.i ∧ x.c = e.c)) : Drp w w4 m s c clock es' (seen ++ [e.born]) (upd g e.i e.c none) := by
  have hi3 := hi.kept (row := none) ⟨hb.os, hb.tape, hb.output, hb.size, fun k hk _ => hb.block k hk⟩ (by simp) (by simp)
  refine ⟨⟨hm, (hg4.block _ (blk_lt hi3.it) (by simpa using hi3.ne)).trans hi3.it, hi3.ne⟩, hr, fun i k hk => ?_, fun x hx hxb => ?_, ?_⟩
  · unfold upd
    rw [if_neg fun e2 => hk (e2.2.trans hec)]
    exact h.others i k hk
  · obtain ⟨hx1, hx2⟩ := (hes x).1 hx
    rcases List.mem_append.1 hxb with hb' | hb'
    · exact h.met x hx1 hb'
    · simp at hb'
      have := same_of_born h.rep.nodup hx1 he hb'
      subst this
      exact absurd ⟨rfl, rfl⟩ hx2
  · have f2 : Fr (fun x => x = m) w w2 := ⟨hg.os.trans h.fr.os, hg.tape.trans h.fr.tape, hg.output.trans h.fr.output, Nat.le_trans h.fr.size hg.size, fun k hk hn => (hg.block k (Nat.lt_of_lt_of_le hk h.fr.size) (by simp; omega)).trans (h.fr.block k hk hn)⟩
    exact (f2.trans (Fr.of_below hb)).trans (Fr.of_grown hg4 fun x hx => by injection hx with hx; exact hx.symm)
theorem lft_sub {es es' : List Ent} (seen : List Nat) (h : es'.Sublist es) : lft es' seen ≤ lft es seen := (h.filter _).length_le
/-- When all has come up, no grant of the client is left. -/
theorem Drp.done {w wr : World} {m clock : Nat} {s : Tab} {c : Int} {es : List Ent} {seen : List Nat} {g : Int → Int → Option (Bool × Int)} (h : Drp w wr m s c clock es seen g) (hall : ∀ e ∈ es, e.born ∈ seen) : g = (s.drop c).g := by
  funext i k
  unfold Tab.drop
  simp only
  split
  · rename_i e
    subst e
    cases hg : g i k with
    | none => rfl
    | some p =>
      obtain ⟨e, he, h1, h2⟩ := h.rep.full i k p hg
      exact absurd h2 (h.met e he (hall e he))
  · rename_i e
    exact h.others i k e
/-- Drop, when the first k waits have been looked at. -/
def mid (s : Tab) (c : Int) (k : Nat) : Tab := ⟨(s.drop c).g, fun j => if j < k ∧ s.wc j = c then 0 else s.wc j, s.wt⟩
theorem mid_ok {s : Tab} (h : s.Ok) (c : Int) (k : Nat) : (mid s c k).Ok := ⟨(h.drop c).g, fun j => by
  unfold mid
  simp only
  split
  · exact ⟨Int.le_refl _, (by decide : (0 : Int) ≤ 8)⟩
  · exact h.wc j, by
  unfold mid
  simp only [h.z]
  split <;> rfl⟩
theorem mid_at (s : Tab) (c : Int) (k : Nat) : (mid s c k).wc k = s.wc k := by
  unfold mid
  simp only
  rw [if_neg (by omega)]
theorem mid_keep {w : World} {b m k : Nat} {s : Tab} {c : Int} (hok : s.Ok) (h : TP w b m (mid s c k)) (hc : s.wc k ≠ c) : TP w b m (mid s c (k + 1)) := by
  refine h.congr (mid_ok hok c (k + 1)) rfl fun i _ => ?_
  unfold mid
  simp only
  by_cases h1 : i < k
  · by_cases h2 : s.wc i = c
    · rw [if_pos ⟨by omega, h2⟩, if_pos ⟨by omega, h2⟩]; simp
    · rw [if_neg fun e => h2 e.2, if_neg fun e => h2 e.2]; simp
  · by_cases h2 : i = k
    · subst h2
      rw [if_neg fun e => hc e.2, if_neg fun e => hc e.2]; simp
    · rw [if_neg (by omega), if_neg (by omega)]; simp
theorem mid_cut {w : World} {b m k : Nat} {s : Tab} {c : Int} (hok : s.Ok) (h : TP w b m ((mid s c k).setW k 0 0)) (hc : s.wc k = c) : TP w b m (mid s c (k + 1)) := by
  refine h.congr (mid_ok hok c (k + 1)) rfl fun i _ => ?_
  unfold mid Tab.setW
  simp only
  by_cases h1 : i = k
  · subst h1
    rw [if_pos ⟨by omega, hc⟩, if_pos rfl]
    exact ⟨rfl, fun h => absurd rfl h⟩
  · have h1' : ¬ ((i : Int) = (k : Int)) := by omega
    rw [if_neg h1', if_neg h1']
    by_cases h2 : s.wc i = c
    · by_cases h3 : i < k
      · rw [if_pos ⟨by omega, h2⟩, if_pos ⟨by omega, h2⟩]; simp
      · rw [if_neg (by omega), if_neg (by omega)]; simp
    · rw [if_neg fun e => h2 e.2, if_neg fun e => h2 e.2]; simp
theorem mid_end {w : World} {b m : Nat} {s : Tab} {c : Int} (hok : s.Ok) (h : TP w b m (mid s c 33)) : TP w b m (s.drop c) := by
  refine h.congr (hok.drop c) rfl fun i hi => ?_
  unfold mid Tab.drop
  simp only
  by_cases h2 : s.wc i = c
  · rw [if_pos h2, if_pos ⟨by omega, h2⟩]; simp
  · rw [if_neg h2, if_neg fun e => h2 e.2]; simp
set_option maxRecDepth 100000 in
set_option maxHeartbeats 4000000 in
theorem drop_any {w : World} {b m : Nat} {s : Tab} (h : TP w b m s) (c : Int) : Calls Try.prog 13 #[.pointer (some ⟨b, 0, none⟩), .int .i64 c] w fun e w' =>
    e = .returned (.tuple #[]) ∧ TP w' b m (s.drop c) ∧ Fr (fun x => x = b ∨ x = m) w w' := by
  have HTP := Lib.hid h
  have hbl := h.lt.1
  have hbm := h.ne
  obtain ⟨arr, hb, ha⟩ := h.tab
  obtain ⟨es, clock, hm, hr⟩ := h.map
  have c0 := blk_cell hb ha.2.1
  have HB := Lib.hid (And.intro hb ha)
  have HM := Lib.hid hm
  have HR := Lib.hid hr
  clear hm hr hb ha h
  go_enter Try.func13, Try.ntmps13
  go_wp2_with (at_range; refine wpl_range rfl _ rfl rfl HM.out ?_; intro w1 hi1 hw1; have HC := Lib.hid (show Drp w w1 m s c clock es [] s.g from ⟨hi1, HR.out, fun _ _ _ => rfl, (fun _ _ h => by simp at h), by rw [hw1]; exact (Fr.refl _ _).alloc _⟩); clear hi1 hw1)
  go_frame
  go_loopw [4] (fun _ wr => ∃ es seen g, Drp w wr m s c clock es seen g) (fun _ wr => wr.rangeLeft m w.heap.size)
  case atStart => exact ⟨_, _, _, HC.out⟩
  case round =>
    obtain ⟨es1, seen, g, hd⟩ := hrel
    have HD := Lib.hid hd
    clear hd HC
    go_wp2_with (at_next; refine wpl_next rfl _ rfl rfl HD.out.it HD.out.rep ?_ ?_)
    · intro hall
      have HALL := Lib.hid (HD.out.done hall)
      clear hall
      have HT0 := Lib.hid (show TP wr b m (mid s c 0) from ⟨mid_ok HTP.out.ok c 0, ⟨arr, HD.out.fr.blk hbm HB.out.1, by
        obtain ⟨k1, k2, k3⟩ := HB.out.2
        refine ⟨k1, k2, fun i hi => ?_⟩
        obtain ⟨k4, t, k5, k6⟩ := k3 i hi
        have e : (mid s c 0).wc i = s.wc i := by unfold mid; simp only; rw [if_neg (by omega)]
        refine ⟨by rw [e]; exact k4, t, k5, fun h => k6 (by rw [e] at h; exact h)⟩⟩, ⟨es1, clock, HD.out.it.map, by have := HD.out.rep; rw [HALL.out] at this; exact this⟩, hbm⟩)
      have HF0 := Lib.hid (HD.out.fr.mono (T := fun x => x = b ∨ x = m) fun x hx => .inr hx)
      go_wp2_with fail
      obtain ⟨wo, hwo⟩ : ∃ wo, wo = wr := ⟨wr, rfl⟩
      subst hwo
      go_loopw [24] (fun y wr => ∃ k : Nat, k ≤ 33 ∧ y = .int .i64 k ∧ TP wr b m (mid s c k) ∧ Fr (fun x => x = b ∨ x = m) w wr) (fun y _ => 33 - (intOf y).toNat)
      case atStart => exact ⟨0, by omega, rfl, HT0.out, HF0.out⟩
      case round =>
        obtain ⟨k, hk, rfl, ht, hf⟩ := hrel
        have HT1 := Lib.hid ht
        have HF1 := Lib.hid hf
        by_cases hlt : k < 33
        · have hlt' : (k : Int) < 33 := by omega
          have hk0 : (0 : Int) ≤ (k : Int) := by omega
          obtain ⟨arr1, ha1, hw1⟩ := ht.tab
          obtain ⟨u0, t, u1, _⟩ := hw1.2.2 k (by omega)
          rw [mid_at] at u0
          have d1 := blk_cell ha1 u0
          have d2 := blk_cell ha1 u1
          have z1 := frozen_of_row wr b (1 + k * 2) _ _ ha1
          have z2 := frozen_of_row wr b (1 + k * 2 + 1) _ _ ha1
          clear ht hf ha1 hw1 u0 u1
          by_cases hc : s.wc k = c
          · have q : (s.wc (k : Int) == c) = true := by simpa using hc
            have HC2 := Lib.hid (mid_cut HTP.out.ok (HT1.out.setW k (by omega) 0 0 (Int.le_refl _) (by decide) (.inr rfl)) hc)
            have HF2 := Lib.hid ((HF1.out.setCell (b := b) (i := 1 + k * 2) (.inl (.inl rfl)) (.int .i64 0)).setCell (b := b) (i := 1 + k * 2 + 1) (.inl (.inl rfl)) (.int .i64 0))
            clear hc
            generalize s.wc (k : Int) = wck at *
            go_wp2_with fail
            exact ⟨⟨k + 1, by omega, by go_num, HC2.out, HF2.out⟩, by simp [intOf]; omega⟩
          · have q : (s.wc (k : Int) == c) = false := by simpa using hc
            have HC2 := Lib.hid (mid_keep HTP.out.ok HT1.out hc)
            clear hc
            generalize s.wc (k : Int) = wck at *
            go_wp2_with fail
            exact ⟨⟨k + 1, by omega, by go_num, HC2.out, HF1.out⟩, by simp [intOf]; omega⟩
        · obtain rfl : k = 33 := by omega
          have hlt' : ¬ ((33 : Nat) : Int) < 33 := by omega
          clear ht hf
          go_wp2_with fail
          go_end0
          exact ⟨rfl, mid_end HTP.out.ok HT1.out, HF1.out⟩
    · intro e w2 he hbn hi2 hg2 hs2 hlt2 hen
      have HI2 := Lib.hid (And.intro he (And.intro hi2 (And.intro hg2 hlt2)))
      have HSZ := Lib.hid hs2
      clear hbn hi2 hg2 hlt2 hs2
      by_cases hc : e.c = c
      · have q : (e.c == c) = true := by simpa using hc
        have HEC := Lib.hid hc
        clear hc
        have hbw : w2.heap[b]? = some (.cells arr 56 (0, 0)) := (HI2.out.2.2.1.block b (Nat.lt_of_lt_of_le hbl HD.out.fr.size) (by simp; omega)).trans (HD.out.fr.blk hbm HB.out.1)
        have hb1 : Below w2.heap.size w2 (World.drew (w2.alloc (.cells #[.int .i64 e.i, .int .i64 e.c] 62))) := ((Below.refl _ _).alloc (Nat.le_refl _) _).drew
        have hM3 : MapAt (World.drew (w2.alloc (.cells #[.int .i64 e.i, .int .i64 e.c] 62))) m es1 clock := blk_below (o := .map (es1.map Ent.me).toArray clock) hb1 (blk_lt (o := .map (es1.map Ent.me).toArray clock) HI2.out.2.1.map) HI2.out.2.1.map
        have hbx : (World.drew (w2.alloc (.cells #[.int .i64 e.i, .int .i64 e.c] 62))).heap[w2.heap.size]? = some (.cells #[.int .i64 e.i, .int .i64 e.c] 62) := heap_alloc_new _ _
        have hbb := blk_below hb1 (blk_lt hbw) hbw
        have hS3 : (World.drew (w2.alloc (.cells #[.int .i64 e.i, .int .i64 e.c] 62))).cell? ⟨b, 0, none⟩ = some (.map (some m)) ∧ (World.drew (w2.alloc (.cells #[.int .i64 e.i, .int .i64 e.c] 62))).cell? ⟨w2.heap.size, 0, none⟩ = some (.int .i64 e.i) ∧ (World.drew (w2.alloc (.cells #[.int .i64 e.i, .int .i64 e.c] 62))).cell? ⟨w2.heap.size, 1, none⟩ = some (.int .i64 e.c) := ⟨blk_cell hbb HB.out.2.2.1, blk_cell hbx rfl, blk_cell hbx rfl⟩
        have HMX := Lib.hid (And.intro hM3 (And.intro hbx (And.intro hbb hb1)))
        have HS3 := Lib.hid hS3
        clear hM3 hbx hbb hb1 hS3 hbw
        go_wp2_with fail
        refine wp_region_held (S := fun w' => w'.cell? ⟨b, 0, none⟩ = some (.map (some m)) ∧ w'.cell? ⟨w2.heap.size, 0, none⟩ = some (.int .i64 e.i) ∧ w'.cell? ⟨w2.heap.size, 1, none⟩ = some (.int .i64 e.c)) (by kernel_rfl) ?_
        change wpAnyH _ _ _ _ _ _ _ _ (World.drew _)
        have hS3 := HS3.out
        clear HS3
        generalize World.drew (w2.alloc (.cells #[.int .i64 e.i, .int .i64 e.c] 62)) = w3 at *
        generalize hB2 : w2.heap.size = B2 at *
        have HB2 := Lib.hid hB2
        clear hB2
        refine wpAnyH_take (i := 0) (v := .pointer (some ⟨b, 0, none⟩)) rfl (by kernel_rfl) (by kernel_rfl) (by kernel_rfl) (fun _ _ _ h => h) (Or.inl ⟨by rfl, fun w hS => by clear hS; go_simp⟩) hS3 ?_
        refine wpAnyH_take (i := 1) (v := .pointer (some ⟨b, 0, none⟩)) rfl (by kernel_rfl) (by kernel_rfl) (by kernel_rfl) (fun _ _ _ h => h) (Or.inl ⟨by rfl, fun w hS => by clear hS; go_simp⟩) hS3 ?_
        refine wpAnyH_take (i := 2) (v := .pointer (some ⟨b, 0, none⟩)) rfl (by kernel_rfl) (by kernel_rfl) (by kernel_rfl) (fun _ _ _ h => h) (Or.inl ⟨by rfl, fun w hS => by clear hS; go_simp⟩) hS3 ?_
        refine wpAnyH_take (i := 3) (v := .map (some m)) rfl (by kernel_rfl) (by kernel_rfl) (by kernel_rfl) (fun _ _ _ h => h) (Or.inl ⟨by rfl, fun w hS => by obtain ⟨k1, k2, k3⟩ := hS; go_simp⟩) hS3 ?_
        refine wpAnyH_take (i := 4) (v := .agg #[.int .i64 e.i, .int .i64 e.c]) rfl (by kernel_rfl) (by kernel_rfl) (by kernel_rfl) (fun _ _ _ h => h) (Or.inl ⟨by rfl, fun w hS => by obtain ⟨k1, k2, k3⟩ := hS; go_simp⟩) hS3 ?_
        obtain ⟨w4, es4, hdel, hm4, hr4, hgr4, hes4, hsub4⟩ := run_strike HMX.out.1 HD.out.rep e.i e.c 0
        have HW4 := Lib.hid (And.intro hm4 (And.intro hr4 (And.intro hgr4 (And.intro hes4 hsub4))))
        clear hm4 hr4 hgr4 hes4 hsub4
        refine wpAnyH_one 5 _ (by kernel_rfl) rfl rfl (fun K hK => ?_)
        go_simp
        have hf4 : Fr (fun x => x = m) w3 w4 := Fr.of_grown HW4.out.2.2.1 fun x hx => by injection hx with hx; exact hx.symm
        have hmB : B2 ≠ m := by have := blk_lt (o := .map (es1.map Ent.me).toArray clock) HI2.out.2.1.map; have := HB2.out; omega
        have hb4 := hf4.blk hbm HMX.out.2.2.1
        have hx4 := hf4.blk hmB HMX.out.2.1
        refine hK _ _ ⟨blk_cell hb4 HB.out.2.2.1, blk_cell hx4 rfl, blk_cell hx4 rfl⟩ ?_
        clear hK K
        refine wpAnyH_done (by kernel_rfl) ?_ _
        have HDS := Lib.hid (HD.out.strike HI2.out.1 HI2.out.2.1 HI2.out.2.2.1 (by rw [HB2.out]; exact HMX.out.2.2.2) HEC.out HW4.out.1 HW4.out.2.1 HW4.out.2.2.1 HW4.out.2.2.2.1)
        clear hf4 hb4 hx4 hdel hS3
        go_wp2_with fail
        refine ⟨⟨_, _, _, HDS.out⟩, ?_⟩
        have h1 := lft_sub (seen ++ [e.born]) HW4.out.2.2.2.2
        have h2 := HI2.out.2.2.2
        rw [HI2.out.2.1.left] at h2
        rw [HDS.out.it.left]
        omega
      · have q : (e.c == c) = false := by simpa using hc
        have HN := Lib.hid (HD.out.next he HI2.out.2.1 HI2.out.2.2.1 hc)
        clear hc he
        go_wp2_with fail
        have hn2 := HN.out.below ((Below.refl _ _).alloc (Nat.le_refl _) (.cells #[.int .i64 e.i, .int .i64 e.c] 62))
        exact ⟨⟨_, _, _, hn2⟩, by rw [hn2.it.left, ← HN.out.it.left]; exact HI2.out.2.2.2⟩
end Go.Proofs.Ytpjgcpnjfopolaa
