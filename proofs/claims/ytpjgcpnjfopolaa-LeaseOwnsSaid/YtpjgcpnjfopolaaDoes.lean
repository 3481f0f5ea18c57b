/-
  THE TWO TABLES side by side; does: one deed, of both.
-/
import Derived.Test.YtpjgcpnjfopolaaRAsk
namespace Go.Proofs.Ytpjgcpnjfopolaa
open Go.RowKit Go.Deep
set_option maxHeartbeats 1000000 in
theorem sameI_yes {w : World} {v v' : Value} {B B' : Nat} {xs : List Value} (h1 : w.ownsRow B 3 1 v xs.length xs) (h2 : w.ownsRow B' 3 1 v' xs.length xs) (hi : ∀ j, j < xs.length → ∃ z : Int, xs[j]? = some (.int .i64 z)) (hn : xs.length ≤ 1000) :
    Calls Try.prog 15 #[v, v'] w fun e w' => e = .returned (.bool true) ∧ Below w.heap.size w w' := by
  obtain ⟨A1, c1, rfl, hq1⟩ := own_shape h1
  obtain ⟨A2, c2, rfl, hq2⟩ := own_shape h2
  have HQ1 := Lib.hid hq1
  have HQ2 := Lib.hid hq2
  have HI := Lib.hid hi
  clear hq1 hq2 h1 h2 hi
  go_enter Try.func15, Try.ntmps15
  go_wp2
  go_loopw [5] (fun i wr => ∃ j : Nat, j ≤ xs.length ∧ i = .int .i64 j ∧ Below w.heap.size w wr) (fun i _ => xs.length - (intOf i).toNat)
  case atStart => exact ⟨0, Nat.zero_le _, rfl, Below.refl _ _⟩
  case round =>
    obtain ⟨j, hj, rfl, hb⟩ := hrel
    have HB := Lib.hid hb
    clear hb
    by_cases hlt : j < xs.length
    · obtain ⟨g1, rfl, _, k1, m1⟩ := HQ1.out (by omega)
      obtain ⟨g2, rfl, _, k2, m2⟩ := HQ2.out (by omega)
      obtain ⟨z, hz⟩ := HI.out j hlt
      have e1 := ((HB.out.cell (p := ⟨g1, j, none⟩) k1).trans (m1 j hlt)).trans hz
      have e2 := ((HB.out.cell (p := ⟨g2, j, none⟩) k2).trans (m2 j hlt)).trans hz
      have hd : ((j : Nat) : Int) < ((xs.length : Nat) : Int) := by omega
      clear hz m1 m2
      go_wp2
      go_quiet (fail)
      go_wp2
      exact ⟨⟨j + 1, by omega, by go_num, below_drewN HB.out _⟩, by simp [intOf]; omega⟩
    · obtain rfl : j = xs.length := by omega
      have hnl : ¬ ((xs.length : Int) < (xs.length : Int)) := by omega
      go_wp2
      go_ret
      exact ⟨rfl, HB.out⟩
def PK (b m : Nat) : Nat → Prop := fun k => k = b ∨ k = m
/-- The program's table and the reference's, in blocks of their own, since a world w0. -/
structure Two (w0 w : World) (b m b' g x y : Nat) (s s' : Tab) : Prop where
  p : TP w b m s
  r : TR w b' g x y s'
  apart : ∀ k, PK b m k → ¬ RK b' g x y k
  low : ∀ k, PK b m k → w0.heap.size ≤ k
  low' : ∀ k, RK b' g x y k → w0.heap.size ≤ k
  bel : Below w0.heap.size w0 w
section
variable {w0 w w' : World} {b m b' g x y : Nat} {s s' s2 : Tab}
theorem TP.ltk (h : TP w b m s) {k : Nat} (hk : PK b m k) : k < w.heap.size := by
  rcases hk with rfl | rfl
  · exact h.lt.1
  · exact h.lt.2
theorem TR.ltk (h : TR w b' g x y s) {k : Nat} (hk : RK b' g x y k) : k < w.heap.size := by
  have := h.lt
  rcases hk with rfl | rfl | rfl | rfl <;> omega
theorem Two.below (h : Two w0 w b m b' g x y s s') (k : Below w.heap.size w w') : Two w0 w' b m b' g x y s s' := ⟨h.p.below k, h.r.below k, h.apart, h.low, h.low', below_then h.bel k⟩
theorem Two.left (h : Two w0 w b m b' g x y s s') (hp : TP w' b m s2) (hf : Fr (PK b m) w w') : Two w0 w' b m b' g x y s2 s' :=
  ⟨hp, h.r.fr hf fun k hk hk' => h.apart k hk' hk, h.apart, h.low, h.low', h.bel.trans (hf.below h.bel.size h.low)⟩
theorem Two.right (h : Two w0 w b m b' g x y s s') (hp : TR w' b' g x y s2) (hf : Fr (RK b' g x y) w w') : Two w0 w' b m b' g x y s s2 :=
  ⟨h.p.fr hf (fun hk => h.apart b (.inl rfl) hk) (fun hk => h.apart m (.inr rfl) hk), hp, h.apart, h.low, h.low', h.bel.trans (hf.below h.bel.size h.low')⟩
theorem Two.nk (h : Two w0 w b m b' g x y s s') {k : Nat} (hk : w.heap.size ≤ k) : ¬ PK b m k := fun e => by have := h.p.ltk e; omega
theorem Two.nk' (h : Two w0 w b m b' g x y s s') {k : Nat} (hk : w.heap.size ≤ k) : ¬ RK b' g x y k := fun e => by have := h.r.ltk e; omega
end
theorem own_fr {S : Nat → Prop} {w w' : World} {B : Nat} {v : Value} {n : Nat} {xs : List Value} (h : w.ownsRow B 3 1 v n xs) (k : Fr S w w') (hs : ∀ b, v.ownBlock = some b → ¬ S b) : w'.ownsRow B 3 1 v n xs := by
  refine ⟨h.1, ?_⟩
  rcases h.2 with h0 | ⟨g, cap, cur, rfl, hb, hg, r⟩
  · exact .inl h0
  · exact .inr ⟨g, cap, cur, rfl, hb, k.blk (hs g rfl) hg, r⟩
theorem ask_len (s : Tab) (now c i : Int) (own : Bool) : (ask s now c i own).1.length ≤ 8 := by
  have h : (oth s.g c i own).length ≤ 8 := by
    unfold oth
    exact Nat.le_trans (List.length_filter_le _ _) (by decide)
  unfold ask
  split
  · simp
  · split
    · split <;> simp
    · exact h
/-- What a deed makes of a table. -/
def stp (s : Tab) (k now c i : Int) (own : Bool) : Tab := if k = 0 then (ask s now c i own).2.2 else if k = 1 then s.give c i else if k = 2 then s.drop c else s
def deed (k now c i : Int) (own : Bool) : Value := .agg #[.int .i64 k, .int .i64 now, .int .i64 c, .int .i64 i, .bool own]
section
variable {w0 w : World} {b m b' g x y : Nat} {s : Tab}
set_option maxRecDepth 100000 in
set_option maxHeartbeats 2000000 in
theorem does_ask (h : Two w0 w b m b' g x y s s) (now c i : Int) (own : Bool) : Calls Try.prog 10 #[.pointer (some ⟨b, 0, none⟩), .pointer (some ⟨b', 0, none⟩), .agg #[.int .i64 0, .int .i64 now, .int .i64 c, .int .i64 i, .bool own]] w fun e w' =>
    e = .returned (.bool true) ∧ Two w0 w' b m b' g x y (ask s now c i own).2.2 (ask s now c i own).2.2 := by
  have hb1 : Below w.heap.size w (w.alloc (.cells #[.int .i64 0, .int .i64 now, .int .i64 c, .int .i64 i, .bool own] 28)) := (Below.refl _ _).alloc (Nat.le_refl _) _
  have HT := Lib.hid (h.below hb1)
  have HN := Lib.hid (And.intro (h.nk (Nat.le_refl w.heap.size)) (h.nk' (Nat.le_refl w.heap.size)))
  have hblk : (w.alloc (.cells #[.int .i64 0, .int .i64 now, .int .i64 c, .int .i64 i, .bool own] 28)).heap[w.heap.size]? = some (.cells #[.int .i64 0, .int .i64 now, .int .i64 c, .int .i64 i, .bool own] 28) := heap_alloc_new _ _
  have HB := Lib.hid hblk
  have HL := Lib.hid (ask_len s now c i own)
  clear h hb1 hblk
  go_enter Try.func10, Try.ntmps10
  go_wp2_with fail
  generalize w.heap.size = B at *
  generalize w.alloc (.cells #[.int .i64 0, .int .i64 now, .int .i64 c, .int .i64 i, .bool own] 28) = w1 at *
  refine (ask_any HT.out.p now c i own).mono ?_
  rintro e w2 ⟨v, rfl, ho2, ht2, hf2⟩
  have hblk2 := hf2.blk HN.out.1 HB.out
  have d1 := blk_cell (j := 1) hblk2 rfl
  have d2 := blk_cell (j := 2) hblk2 rfl
  have d3 := blk_cell (j := 3) hblk2 rfl
  have d4 := blk_cell (j := 4) hblk2 rfl
  have HT2 := Lib.hid (HT.out.left ht2 hf2)
  have HO2 := Lib.hid ho2
  have HR := Lib.hid (rask_any HT2.out.r now c i own)
  have HNO := Lib.hid (show ∀ k, v.ownBlock = some k → ¬ RK b' g x y k from fun k hk hr => by
    have := (ho2.lt k hk).1
    have := HT.out.r.ltk hr
    omega)
  obtain ⟨Av, cv, rfl, _⟩ := own_shape ho2
  clear hblk2 ho2 ht2 hf2
  go_wp2_with fail
  refine (HR.out).mono ?_
  rintro e w3 ⟨v3, rfl, ho3, ht3, hf3⟩
  have HT3 := Lib.hid (HT2.out.right ht3 hf3)
  have ho2' := own_fr HO2.out hf3 HNO.out
  have HS := Lib.hid (sameI_yes (by rw [List.length_map]; exact ho2') (by rw [List.length_map]; exact ho3) (fun j hj => by
    rw [List.getElem?_map, List.getElem?_eq_getElem (by simpa using hj)]
    exact ⟨_, rfl⟩) (by rw [List.length_map]; have := HL.out; omega))
  obtain ⟨Av3, cv3, rfl, _⟩ := own_shape ho3
  clear ho3 ht3 hf3 ho2' HR
  generalize (ask s now c i own).1.length = n at *
  generalize (ask s now c i own).2.1 = er at *
  go_wp2_with fail
  refine (HS.out).mono ?_
  rintro e w4 ⟨rfl, hb4⟩
  have HT4 := Lib.hid (HT3.out.below hb4)
  clear hb4
  go_wp2_with fail
  go_ret
  exact ⟨rfl, HT4.out⟩
set_option maxRecDepth 100000 in
set_option maxHeartbeats 2000000 in
theorem does_give (h : Two w0 w b m b' g x y s s) (now c i : Int) (own : Bool) : Calls Try.prog 10 #[.pointer (some ⟨b, 0, none⟩), .pointer (some ⟨b', 0, none⟩), .agg #[.int .i64 1, .int .i64 now, .int .i64 c, .int .i64 i, .bool own]] w fun e w' =>
    e = .returned (.bool true) ∧ Two w0 w' b m b' g x y (s.give c i) (s.give c i) := by
  have hb1 : Below w.heap.size w (World.drew (w.alloc (.cells #[.int .i64 1, .int .i64 now, .int .i64 c, .int .i64 i, .bool own] 28))) := ((Below.refl _ _).alloc (Nat.le_refl _) _).drew
  have HT := Lib.hid (h.below hb1)
  have HN := Lib.hid (And.intro (h.nk (Nat.le_refl w.heap.size)) (h.nk' (Nat.le_refl w.heap.size)))
  have hblk : (World.drew (w.alloc (.cells #[.int .i64 1, .int .i64 now, .int .i64 c, .int .i64 i, .bool own] 28))).heap[w.heap.size]? = some (.cells #[.int .i64 1, .int .i64 now, .int .i64 c, .int .i64 i, .bool own] 28) := heap_alloc_new _ _
  have HB := Lib.hid hblk
  clear h hb1 hblk
  go_enter Try.func10, Try.ntmps10
  go_wp2_with fail
  refine wp_region_held (S := fun w' => w'.cell? ⟨w.heap.size, 2, none⟩ = some (.int .i64 c) ∧ w'.cell? ⟨w.heap.size, 3, none⟩ = some (.int .i64 i)) (by kernel_rfl) ?_
  change wpAnyH _ _ _ _ _ _ _ _ (World.drew _)
  generalize w.heap.size = B at *
  generalize World.drew (w.alloc (.cells #[.int .i64 1, .int .i64 now, .int .i64 c, .int .i64 i, .bool own] 28)) = w1 at *
  have hbox : w1.cell? ⟨B, 2, none⟩ = some (.int .i64 c) ∧ w1.cell? ⟨B, 3, none⟩ = some (.int .i64 i) := ⟨blk_cell HB.out rfl, blk_cell HB.out rfl⟩
  refine wpAnyH_take (i := 0) (v := .pointer (some ⟨b, 0, none⟩)) rfl (by kernel_rfl) (by kernel_rfl) (by kernel_rfl) (fun _ _ _ h => h) (Or.inl ⟨by rfl, fun w hS => by skip; go_simp⟩) hbox ?_
  refine wpAnyH_take (i := 1) (v := .pointer (some ⟨B, 2, none⟩)) rfl (by kernel_rfl) (by kernel_rfl) (by kernel_rfl) (fun _ _ _ h => h) (Or.inl ⟨by rfl, fun w hS => by skip; go_simp⟩) hbox ?_
  refine wpAnyH_take (i := 2) (v := .int .i64 c) rfl (by kernel_rfl) (by kernel_rfl) (by kernel_rfl) (fun _ _ _ h => h) (Or.inl ⟨by rfl, fun w hS => by skip; go_simp⟩) hbox ?_
  refine wpAnyH_take (i := 3) (v := .pointer (some ⟨B, 3, none⟩)) rfl (by kernel_rfl) (by kernel_rfl) (by kernel_rfl) (fun _ _ _ h => h) (Or.inl ⟨by rfl, fun w hS => by skip; go_simp⟩) hbox ?_
  refine wpAnyH_take (i := 4) (v := .int .i64 i) rfl (by kernel_rfl) (by kernel_rfl) (by kernel_rfl) (fun _ _ _ h => h) (Or.inl ⟨by rfl, fun w hS => by skip; go_simp⟩) hbox ?_
  refine wpAnyH_take (i := 6) (v := .pointer (some ⟨b', 0, none⟩)) rfl (by kernel_rfl) (by kernel_rfl) (by kernel_rfl) (fun _ _ _ h => h) (Or.inl ⟨by rfl, fun w hS => by skip; go_simp⟩) hbox ?_
  refine wpAnyH_take (i := 7) (v := .pointer (some ⟨B, 2, none⟩)) rfl (by kernel_rfl) (by kernel_rfl) (by kernel_rfl) (fun _ _ _ h => h) (Or.inl ⟨by rfl, fun w hS => by skip; go_simp⟩) hbox ?_
  refine wpAnyH_take (i := 8) (v := .int .i64 c) rfl (by kernel_rfl) (by kernel_rfl) (by kernel_rfl) (fun _ _ _ h => h) (Or.inl ⟨by rfl, fun w hS => by skip; go_simp⟩) hbox ?_
  refine wpAnyH_take (i := 9) (v := .pointer (some ⟨B, 3, none⟩)) rfl (by kernel_rfl) (by kernel_rfl) (by kernel_rfl) (fun _ _ _ h => h) (Or.inl ⟨by rfl, fun w hS => by skip; go_simp⟩) hbox ?_
  refine wpAnyH_take (i := 10) (v := .int .i64 i) rfl (by kernel_rfl) (by kernel_rfl) (by kernel_rfl) (fun _ _ _ h => h) (Or.inl ⟨by rfl, fun w hS => by skip; go_simp⟩) hbox ?_
  refine wpAnyH_one 5 _ (by kernel_rfl) rfl rfl (fun K hK => ?_)
  go_simp
  refine (give_any HT.out.p c i).mono ?_
  rintro e w2 ⟨rfl, ht2, hf2⟩
  have hblk2 := hf2.blk HN.out.1 HB.out
  refine hK _ _ ⟨blk_cell hblk2 rfl, blk_cell hblk2 rfl⟩ ?_
  clear hK
  have HT2 := Lib.hid (HT.out.left ht2 hf2)
  clear ht2 hf2 hbox
  refine wpAnyH_one 11 _ (by kernel_rfl) rfl rfl (fun K hK => ?_)
  go_simp
  refine (rgive_any HT2.out.r c i).mono ?_
  rintro e w3 ⟨rfl, ht3, hf3⟩
  have hblk3 := hf3.blk HN.out.2 hblk2
  have hS3 : w3.cell? ⟨B, 2, none⟩ = some (.int .i64 c) ∧ w3.cell? ⟨B, 3, none⟩ = some (.int .i64 i) := ⟨blk_cell hblk3 rfl, blk_cell hblk3 rfl⟩
  refine hK _ _ hS3 ?_
  clear hK
  have HT3 := Lib.hid (HT2.out.right ht3 hf3)
  clear ht3 hf3 hblk2 hblk3
  generalize (if (s.g i c).isSome = true then (0 : Int) else 10) = er at *
  refine wpAnyH_one 12 _ (by kernel_rfl) rfl rfl (fun K hK => ?_)
  go_simp
  refine hK _ _ hS3 ?_
  clear hK
  refine wpAnyH_one 13 _ (by kernel_rfl) rfl rfl (fun K hK => ?_)
  go_simp
  refine hK _ _ hS3 ?_
  clear hK
  refine wpAnyH_done (by kernel_rfl) ?_ _
  go_wp2
  go_ret
  exact ⟨rfl, HT3.out⟩
set_option maxRecDepth 100000 in
set_option maxHeartbeats 2000000 in
theorem does_drop (h : Two w0 w b m b' g x y s s) (now c i : Int) (own : Bool) : Calls Try.prog 10 #[.pointer (some ⟨b, 0, none⟩), .pointer (some ⟨b', 0, none⟩), .agg #[.int .i64 2, .int .i64 now, .int .i64 c, .int .i64 i, .bool own]] w fun e w' =>
    e = .returned (.bool true) ∧ Two w0 w' b m b' g x y (s.drop c) (s.drop c) := by
  have hb1 : Below w.heap.size w (w.alloc (.cells #[.int .i64 2, .int .i64 now, .int .i64 c, .int .i64 i, .bool own] 28)) := (Below.refl _ _).alloc (Nat.le_refl _) _
  have HT := Lib.hid (h.below hb1)
  have HN := Lib.hid (And.intro (h.nk (Nat.le_refl w.heap.size)) (h.nk' (Nat.le_refl w.heap.size)))
  have hblk : (w.alloc (.cells #[.int .i64 2, .int .i64 now, .int .i64 c, .int .i64 i, .bool own] 28)).heap[w.heap.size]? = some (.cells #[.int .i64 2, .int .i64 now, .int .i64 c, .int .i64 i, .bool own] 28) := heap_alloc_new _ _
  have HB := Lib.hid hblk
  clear h hb1 hblk
  go_enter Try.func10, Try.ntmps10
  go_wp2_with fail
  generalize w.heap.size = B at *
  generalize w.alloc (.cells #[.int .i64 2, .int .i64 now, .int .i64 c, .int .i64 i, .bool own] 28) = w1 at *
  refine (drop_any HT.out.p c).mono ?_
  rintro e w2 ⟨rfl, ht2, hf2⟩
  have d2 := blk_cell (j := 2) (hf2.blk HN.out.1 HB.out) rfl
  have HT2 := Lib.hid (HT.out.left ht2 hf2)
  have HR := Lib.hid (rdrop_any HT2.out.r c)
  clear ht2 hf2
  go_wp2_with fail
  refine (HR.out).mono ?_
  rintro e w3 ⟨rfl, ht3, hf3⟩
  have HT3 := Lib.hid (HT2.out.right ht3 hf3)
  clear ht3 hf3
  go_wp2_with fail
  go_ret
  exact ⟨rfl, HT3.out⟩
set_option maxRecDepth 100000 in
set_option maxHeartbeats 2000000 in
theorem does_none (h : Two w0 w b m b' g x y s s) (k now c i : Int) (own : Bool) (hk : ¬ k = 0 ∧ ¬ k = 1 ∧ ¬ k = 2) : Calls Try.prog 10 #[.pointer (some ⟨b, 0, none⟩), .pointer (some ⟨b', 0, none⟩), .agg #[.int .i64 k, .int .i64 now, .int .i64 c, .int .i64 i, .bool own]] w fun e w' =>
    e = .returned (.bool true) ∧ Two w0 w' b m b' g x y s s := by
  have HT := Lib.hid (h.below ((Below.refl _ _).alloc (Nat.le_refl _) (.cells #[.int .i64 k, .int .i64 now, .int .i64 c, .int .i64 i, .bool own] 28)))
  have k0 : (k == 0) = false := by simpa using hk.1
  have k1 : (k == 1) = false := by simpa using hk.2.1
  have k2 : (k == 2) = false := by simpa using hk.2.2
  clear h hk
  go_enter Try.func10, Try.ntmps10
  go_wp2_with fail
  go_ret
  exact ⟨rfl, HT.out⟩
theorem does_any (h : Two w0 w b m b' g x y s s) (k now c i : Int) (own : Bool) : Calls Try.prog 10 #[.pointer (some ⟨b, 0, none⟩), .pointer (some ⟨b', 0, none⟩), .agg #[.int .i64 k, .int .i64 now, .int .i64 c, .int .i64 i, .bool own]] w fun e w' =>
    e = .returned (.bool true) ∧ Two w0 w' b m b' g x y (stp s k now c i own) (stp s k now c i own) := by
  unfold stp
  by_cases h0 : k = 0
  · subst h0
    exact does_ask h now c i own
  · rw [if_neg h0]
    by_cases h1 : k = 1
    · subst h1
      exact does_give h now c i own
    · rw [if_neg h1]
      by_cases h2 : k = 2
      · subst h2
        exact does_drop h now c i own
      · rw [if_neg h2]
        exact does_none h k now c i own ⟨h0, h1, h2⟩
end
end Go.Proofs.Ytpjgcpnjfopolaa
