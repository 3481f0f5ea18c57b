/-
  like: has the bag what the reference's has?
-/
import Derived.Test.YtmicejjlfojncaaDoes3
namespace Go.Proofs.Ytmicejjlfojncaa
open Go.RowKit Go.Deep
theorem does_any {w0 w : World} {K K' : Nat → Prop} {c c' : Nat} {l : List (Int × List Nat)} (hp : Pair w0 w K K' c c' l l) (hl : l.length ≤ 200) (k n : Int) {y : Value} {s : List Nat} (hy : Byt w0 y s) :
    Calls Try.prog 12 #[.pointer (some ⟨c, 0, none⟩), .pointer (some ⟨c', 0, none⟩), .agg #[.int .i64 k, .int .i64 n, y]] w fun e w' => e = .returned (.bool true) ∧ ∃ K2 K2' l2, Pair w0 w' K2 K2' c c' l2 l2 ∧ l2.length ≤ l.length + 1 := by
  by_cases h : k < 0 ∨ 4 < k
  · exact does_other hp hl k n h hy
  · have h' : k = 0 ∨ k = 1 ∨ k = 2 ∨ k = 3 ∨ k = 4 := by omega
    rcases h' with rfl | rfl | rfl | rfl | rfl
    · exact does_send hp hl n hy
    · by_cases hn : 0 ≤ n ∧ n < l.length
      · obtain ⟨i, rfl⟩ := Int.eq_ofNat_of_zero_le hn.1
        exact does_in1 hp hl i (by omega) hy
      · exact does_out1 hp hl n (Lib.hid hn) hy
    · by_cases hn : 0 ≤ n ∧ n < l.length
      · obtain ⟨i, rfl⟩ := Int.eq_ofNat_of_zero_le hn.1
        exact does_in2 hp hl i (by omega) hy
      · exact does_out2 hp hl n (Lib.hid hn) hy
    · exact does_drop hp hl n hy
    · exact does_lose hp hl n hy
theorem idx_ints (l : List (Int × List Nat)) (node : Int) : ∀ k, ∀ v ∈ idx l node k, ∃ z : Int, v = .int .i64 z
  | 0, v, h => by simp [idx] at h
  | k + 1, v, h => by
    unfold idx at h
    split at h
    · rcases List.mem_append.1 h with h | h
      · exact idx_ints l node k v h
      · simp at h; exact ⟨_, h⟩
    · exact idx_ints l node k v h
/-- What the reference's bag holds at a place. -/
theorem RBag.at {w : World} {K : Nat → Prop} {c : Nat} {l : List (Int × List Nat)} (h : RBag w K c l) : ∃ A cap, w.cell? ⟨c, 0, none⟩ = some (.slice A l.length cap) ∧
    ∀ k, k < l.length → ∃ g, A = some ⟨g, 0, none⟩ ∧ w.cell? ⟨g, k * 2, none⟩ = some (.int .i64 (l.getD k (0, [])).1) ∧ w.cell? ⟨g, k * 2 + 1, none⟩ = some (.string (str (l.getD k (0, [])).2)) := by
  obtain ⟨v, ps, h0, rfl⟩ := h
  have hcl : (cont ps).length = ps.length := by simp [cont]
  obtain ⟨A, cap, rfl, h1, h2, h3⟩ := h0.core.shape
  refine ⟨A, cap, by rw [hcl]; exact blk_cell h0.core.blk rfl, fun k hk => ?_⟩
  rw [hcl] at hk
  obtain ⟨g, rfl, hgc, hgl, hcell⟩ := h3 (by omega)
  have hp : ps[k]? = some ps[k] := List.getElem?_eq_getElem hk
  obtain ⟨f0, f1⟩ := flat_get ps k _ hp
  rw [h0.data _ (List.mem_of_getElem? hp)] at f1
  refine ⟨g, rfl, ?_, ?_⟩
  · rw [hcell _ (by omega), f0, cont_get ps k _ hp]
  · rw [hcell _ (by omega), f1, cont_get ps k _ hp]
set_option maxRecDepth 100000 in
set_option maxHeartbeats 4000000 in
theorem like_any {w0 w : World} {KB K' : Nat → Prop} {c c' : Nat} {l : List (Int × List Nat)} (hp : Pair w0 w KB K' c c' l l) (hl : l.length ≤ 200) :
    Calls Try.prog 13 #[.pointer (some ⟨c, 0, none⟩), .pointer (some ⟨c', 0, none⟩)] w fun e w' => e = .returned (.bool true) ∧ Below w0.heap.size w0 w' := by
  obtain ⟨A, cap, hc, _⟩ := hp.r.at
  have HP := Lib.hid hp
  have HL := Lib.hid hl
  clear hp hl
  go_enter Try.func13, Try.ntmps13
  go_wp2_with fail
  refine wp_region_held (S := fun w' => w'.cell? ⟨c', 0, none⟩ = some (.slice A l.length cap)) (by kernel_rfl) ?_
  change wpAnyH _ _ _ _ _ _ _ _ (World.drew w)
  have hc1 : w.drew.cell? ⟨c', 0, none⟩ = some (.slice A l.length cap) := hc
  have HP1 := Lib.hid (HP.out.below ((Below.refl _ _).drew))
  have HLEN := Lib.hid (len_any HP1.out.b)
  clear HP hc
  generalize w.drew = w1 at *
  obtain ⟨n, hn⟩ : ∃ n, l.length = n := ⟨_, rfl⟩
  have HN := Lib.hid hn
  have hn200 : n ≤ 200 := by have := HL.out; omega
  rw [hn] at hc1 HLEN ⊢
  clear hn
  refine wpAnyH_take (i := 0) (v := .pointer (some ⟨c, 0, none⟩)) rfl (by kernel_rfl) (by kernel_rfl) (by kernel_rfl) (fun _ _ _ h => h) (Or.inl ⟨by rfl, fun w hS => by go_simp⟩) hc1 ?_
  refine wpAnyH_take (i := 2) (v := .pointer (some ⟨c', 0, none⟩)) rfl (by kernel_rfl) (by kernel_rfl) (by kernel_rfl) (fun _ _ _ h => h) (Or.inl ⟨by rfl, fun w hS => by go_simp⟩) hc1 ?_
  refine wpAnyH_take (i := 3) (v := .pointer (some ⟨c', 0, none⟩)) rfl (by kernel_rfl) (by kernel_rfl) (by kernel_rfl) (fun _ _ _ h => h) (Or.inl ⟨by rfl, fun w hS => by go_simp⟩) hc1 ?_
  refine wpAnyH_take (i := 4) (v := .pointer (some ⟨c', 0, none⟩)) rfl (by kernel_rfl) (by kernel_rfl) (by kernel_rfl) (fun _ _ _ h => h) (Or.inl ⟨by rfl, fun w hS => by go_simp⟩) hc1 ?_
  refine wpAnyH_take (i := 5) (v := .slice A n cap) rfl (by kernel_rfl) (by kernel_rfl) (by kernel_rfl) (fun _ _ _ h => h) (Or.inl ⟨by rfl, fun w hS => by go_simp⟩) hc1 ?_
  refine wpAnyH_take (i := 6) (v := .int .i64 n) rfl (by kernel_rfl) (by kernel_rfl) (by kernel_rfl) (fun _ _ _ h => h) (Or.inl ⟨by rfl, fun w hS => by go_simp⟩) hc1 ?_
  refine wpAnyH_one 1 _ (by kernel_rfl) rfl rfl (fun K hK => ?_)
  go_simp
  refine (HLEN.out).mono ?_
  rintro e w2 ⟨rfl, rfl⟩
  refine hK _ _ hc1 ?_
  clear hK
  refine wpAnyH_one 7 _ (by kernel_rfl) rfl rfl (fun K hK => ?_)
  go_simp
  refine hK _ _ hc1 ?_
  clear hK
  refine wpAnyH_done (by kernel_rfl) ?_ _
  go_wp2
  go_loopw [5] (fun y wr => ∃ k : Nat, k ≤ n ∧ y = .int .i64 k ∧ Pair w0 wr KB K' c c' l l) (fun y _ => n - (intOf y).toNat)
  case atStart => exact ⟨0, Nat.zero_le _, rfl, HP1.out⟩
  case round =>
    obtain ⟨k, hk, rfl, hp⟩ := hrel
    obtain ⟨A2, cap2, hc2, hat⟩ := hp.r.at
    rw [HN.out] at hc2
    have HP2 := Lib.hid hp
    by_cases hlt : k < n
    · have hlt' : (k : Int) < (n : Int) := by omega
      have HTK := Lib.hid (take_in HP2.out.b k (by rw [HN.out]; exact hlt) true)
      clear hp hat
      go_wp2_with fail
      refine (HTK.out).mono ?_
      rintro e w3 ⟨v, rfl, hy3, hyb3, hB3, hF3, _⟩
      have hp3 : Pair w0 w3 _ K' c c' l l := HP2.out.left hB3 hF3 fun x hx => .inl hx
      have HP3 := Lib.hid hp3
      obtain ⟨A3, cap3, hc3, hat3⟩ := hp3.r.at
      rw [HN.out] at hc3
      obtain ⟨g, rfl, d0, d1⟩ := hat3 k (by rw [HN.out]; exact hlt)
      have r3 : ∀ m, (convert 22 9 v).run Try.prog (w3.drewN m) = .ok (.string (str (l.getD k (0, [])).2)) (w3.drewN m) := fun m => run_str (hy3.below (below_drewN (Below.refl _ _) m))
      clear hp3 hat3 hyb3 hB3 hF3 HTK
      generalize (l.getD k (0, [])).1 = to at *
      generalize (l.getD k (0, [])).2 = sp at *
      obtain ⟨Av, cv, rfl, _⟩ := hy3
      generalize sp.length = ns at *
      generalize str sp = bs at *
      go_wp2_with fail
      go_quiet (fail)
      have hP4 := fun m => HP3.out.below (below_drewN (Below.refl w3.heap.size w3) m)
      have HP4 := Lib.hid hP4
      clear hP4
      go_wp2_with fail
      exact ⟨⟨k + 1, by omega, by go_num, HP4.out _⟩, by simp [intOf]; omega⟩
    · obtain rfl : k = n := by omega
      have hlt' : ¬ (k : Int) < (k : Int) := by omega
      clear hp hat
      go_wp2_with fail
      obtain ⟨wo, hwo⟩ : ∃ wo, wo = wr := ⟨wr, rfl⟩
      subst hwo
      go_loopw [9] (fun y wr => ∃ j : Nat, j ≤ 11 ∧ y = .int .i64 ((j : Int) - 1) ∧ Pair w0 wr KB K' c c' l l) (fun y _ => (10 - intOf y).toNat)
      case atStart => exact ⟨0, by omega, rfl, HP2.out⟩
      case round =>
        obtain ⟨j, hj, rfl, hp⟩ := hrel
        have HP5 := Lib.hid hp
        clear hp
        by_cases hj9 : j ≤ 10
        · have hle : ((j : Int) - 1) ≤ 9 := by omega
          have HTO := Lib.hid (to_any HP5.out.b ((j : Int) - 1) (by have := HL.out; omega))
          go_wp2_with fail
          refine (HTO.out).mono ?_
          rintro e w3 ⟨v3, rfl, ho3, hb3⟩
          have HP6 := Lib.hid (HP5.out.below hb3)
          have HO3 := Lib.hid ho3
          obtain ⟨A3, q3, rfl, _⟩ := own_shape ho3
          have HRT := Lib.hid (rto_any HP6.out.r ((j : Int) - 1) HL.out)
          clear ho3 hb3 HTO
          go_wp2_with fail
          refine (HRT.out).mono ?_
          rintro e w4 ⟨v4, rfl, ho4, hb4⟩
          have HP7 := Lib.hid (HP6.out.below hb4)
          have hle4 := idx_le l ((j : Int) - 1) l.length
          have HSA := Lib.hid (sameI_yes (own_below HO3.out hb4) ho4 (fun t ht => by
            obtain ⟨z, hz⟩ := idx_ints l ((j : Int) - 1) l.length _ (List.getElem_mem ht)
            exact ⟨z, by rw [List.getElem?_eq_getElem ht, hz]⟩) (by have := HL.out; omega))
          obtain ⟨A4, q4, rfl, _⟩ := own_shape ho4
          clear ho4 hb4 HRT hle4
          generalize (idx l ((j : Int) - 1) l.length).length = il at *
          go_wp2_with fail
          refine (HSA.out).mono ?_
          rintro e w5 ⟨rfl, hb5⟩
          have HP8 := Lib.hid (HP7.out.below hb5)
          clear hb5
          go_wp2_with fail
          refine ⟨⟨j + 1, by omega, by go_num, HP8.out⟩, ?_⟩
          simp [intOf]
          omega
        · obtain rfl : j = 11 := by omega
          go_wp2_with fail
          go_ret
          exact ⟨rfl, HP5.out.bel⟩
end Go.Proofs.Ytmicejjlfojncaa
