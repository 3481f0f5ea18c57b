/-
  THE REFERENCE's New, Drop, Over.
-/
import Derived.Test.YtpjgcpnjfopolaaRef
namespace Go.Proofs.Ytpjgcpnjfopolaa
open Go.RowKit Go.Deep
theorem made_get (z : Array Value) (n k : Nat) (v : Value) (hk : k < n) (hz : z[k % z.size]? = some v) : (madeCells z n)[k]? = some v := by
  have h0 : z[k % z.size]! = v := by rw [getElem!_def, hz]
  simp [madeCells, hk, h0]
theorem info66 : (Try.prog.info? 66).map (fun i => (i.zero, i.size, i.bytes)) = some (some (.agg #[.bool false, .bool false, .int .i64 0]), 3, 16) := by kernel_rfl
theorem info3 : (Try.prog.info? 3).map (fun i => (i.zero, i.size, i.bytes)) = some (some (.int .i64 0), 1, 8) := by kernel_rfl
def gz : Array Value := madeCells #[.bool false, .bool false, .int .i64 0] 891
def xz : Array Value := madeCells #[.int .i64 0] 33
theorem mk31 (w : World) : (Instr.makeSlice 31 (.int .i64 297) (.int .i64 297)).run Try.prog w = .ok (.slice (some ⟨w.heap.size, 0, none⟩) 297 297) (w.alloc (.cells gz 66)) := by
  obtain ⟨i0, hi, hz0, hz, hb⟩ := info_parts info66
  have := run_makeSlice (P := Try.prog) (w := w) 31 66 i0 _ Try.underlying31 hi hz0 .i64 .i64 297 297 (by decide) (by decide) (by rw [hz]; decide) (by rw [hb]; decide) (by decide)
  rw [hz] at this
  exact this
theorem mk32 (w : World) : (Instr.makeSlice 32 (.int .i64 33) (.int .i64 33)).run Try.prog w = .ok (.slice (some ⟨w.heap.size, 0, none⟩) 33 33) (w.alloc (.cells xz 3)) := by
  obtain ⟨i0, hi, hz0, hz, hb⟩ := info_parts info3
  have := run_makeSlice (P := Try.prog) (w := w) 32 3 i0 _ Try.underlying32 hi hz0 .i64 .i64 33 33 (by decide) (by decide) (by rw [hz]; decide) (by rw [hb]; decide) (by decide)
  rw [hz] at this
  exact this
theorem gz_size : gz.size = 891 := by unfold gz; exact size_madeCells _ _
theorem xz_size : xz.size = 33 := by unfold xz; exact size_madeCells _ _
theorem grants0 : Grants gz s0.g := ⟨gz_size, fun i c hi hc => ⟨false, 0, made_get _ _ _ _ (by omega) (by
    rw [show (9 * i + c) * 3 % (#[Value.bool false, .bool false, .int .i64 0] : Array Value).size = 0 from by show (9 * i + c) * 3 % 3 = 0; omega]; rfl), made_get _ _ _ _ (by omega) (by
    rw [show ((9 * i + c) * 3 + 1) % (#[Value.bool false, .bool false, .int .i64 0] : Array Value).size = 1 from by show ((9 * i + c) * 3 + 1) % 3 = 1; omega]; rfl), made_get _ _ _ _ (by omega) (by
    rw [show ((9 * i + c) * 3 + 2) % (#[Value.bool false, .bool false, .int .i64 0] : Array Value).size = 2 from by show ((9 * i + c) * 3 + 2) % 3 = 2; omega]; rfl), fun p hp => by cases hp⟩⟩
theorem xz_get (i : Nat) (hi : i ≤ 32) : xz[i]? = some (.int .i64 0) := made_get _ _ _ _ (by omega) (by
  rw [show i % (#[Value.int .i64 0] : Array Value).size = 0 from by show i % 1 = 0; omega]; rfl)
theorem TR.new {w : World} {b g x y : Nat} (h0 : w.heap[b]? = some (.cells #[.slice (some ⟨g, 0, none⟩) 297 297, .slice (some ⟨x, 0, none⟩) 33 33, .slice (some ⟨y, 0, none⟩) 33 33] 34 (0, 0))) (h1 : w.heap[g]? = some (.cells gz 66 (0, 0)))
    (h2 : w.heap[x]? = some (.cells xz 3 (0, 0))) (h3 : w.heap[y]? = some (.cells xz 3 (0, 0))) (ne : b ≠ g ∧ b ≠ x ∧ b ≠ y ∧ g ≠ x ∧ g ≠ y ∧ x ≠ y) : TR w b g x y s0 :=
  ⟨⟨(fun _ _ _ h => by cases h), fun _ => ⟨Int.le_refl _, (by decide : (0 : Int) ≤ 8)⟩, rfl⟩, h0, ⟨_, h1, grants0⟩, ⟨_, h2, xz_size, xz_get⟩, ⟨_, h3, xz_size, fun i hi => ⟨0, xz_get i hi, fun h => absurd rfl h⟩⟩, ne⟩
theorem heap4_0 (w : World) (a b c d : Obj) : ((((w.alloc a).alloc b).alloc c).alloc d).heap[w.heap.size]? = some a := blk_alloc (heap3_0 w a b c)
theorem heap4_1 (w : World) (a b c d : Obj) : ((((w.alloc a).alloc b).alloc c).alloc d).heap[w.heap.size + 1]? = some b := blk_alloc (heap3_1 w a b c)
theorem heap4_2 (w : World) (a b c d : Obj) : ((((w.alloc a).alloc b).alloc c).alloc d).heap[w.heap.size + 2]? = some c := blk_alloc (heap3_2 w a b c)
theorem heap4_3 (w : World) (a b c d : Obj) : ((((w.alloc a).alloc b).alloc c).alloc d).heap[w.heap.size + 3]? = some d := by
  have h := heap_alloc_new ((((w.alloc a).alloc b).alloc c)) d
  have e : (((w.alloc a).alloc b).alloc c).heap.size = w.heap.size + 3 := by simp
  rwa [e] at h
theorem bel4 (w : World) (a b c d : Obj) : Below w.heap.size w ((((w.alloc a).alloc b).alloc c).alloc d) :=
  ((((Below.refl _ _).alloc (Nat.le_refl _) _).alloc (by simp) _).alloc (by simp; omega) _).alloc (by simp; omega) _
theorem new_end {w w1 w' : World} {e : Ending} {b g x y : Nat} (hb : Below w.heap.size w w1) (he : e = .returned (.pointer (some ⟨b, 0, none⟩)))
    (h0 : w'.heap[b]? = some (.cells #[.slice (some ⟨g, 0, none⟩) 297 297, .slice (some ⟨x, 0, none⟩) 33 33, .slice (some ⟨y, 0, none⟩) 33 33] 34 (0, 0))) (h1 : w'.heap[g]? = some (.cells gz 66 (0, 0)))
    (h2 : w'.heap[x]? = some (.cells xz 3 (0, 0))) (h3 : w'.heap[y]? = some (.cells xz 3 (0, 0))) (ne : b ≠ g ∧ b ≠ x ∧ b ≠ y ∧ g ≠ x ∧ g ≠ y ∧ x ≠ y) (hn : w1.heap.size ≤ b ∧ w1.heap.size ≤ g ∧ w1.heap.size ≤ x ∧ w1.heap.size ≤ y) (k : Below w1.heap.size w1 w') :
    ∃ b g x y, e = .returned (.pointer (some ⟨b, 0, none⟩)) ∧ TR w' b g x y s0 ∧ (∀ k, RK b g x y k → w.heap.size ≤ k) ∧ Below w.heap.size w w' :=
  ⟨b, g, x, y, he, TR.new h0 h1 h2 h3 ne, fun j hj => by
    have := hb.size
    rcases hj with rfl | rfl | rfl | rfl <;> omega, below_then hb k⟩
set_option maxRecDepth 100000 in
set_option maxHeartbeats 4000000 in
theorem rnew_any (w : World) : Calls Try.prog 9 #[] w fun e w' => ∃ b g x y, e = .returned (.pointer (some ⟨b, 0, none⟩)) ∧ TR w' b g x y s0 ∧ (∀ k, RK b g x y k → w.heap.size ≤ k) ∧ Below w.heap.size w w' := by
  have h31 := mk31
  have h32 := mk32
  go_enter Try.func9, Try.ntmps9
  go_wp2_with fail
  refine wp_region_any (by kernel_rfl) ?_
  change wpAny _ _ _ _ _ _ _ (World.drew w)
  have hd : Below w.heap.size w w.drew := (Below.refl _ _).drew
  have HDD := Lib.hid hd
  clear hd
  generalize w.drew = w1 at *
  refine wpAny_ready (rs := [0, 1, 2]) (by kernel_rfl) (by simp) ?_
  refine (AllReady.cons rfl (fun K hK => ?_) (AllReady.cons rfl (fun K hK => ?_) (AllReady.cons rfl (fun K hK => ?_) AllReady.nil)))
  · go_simp
    refine hK _ _ ?_
    clear hK K
    refine wpAny_ready (rs := [1, 2]) (by kernel_rfl) (by simp) ?_
    refine (AllReady.cons rfl (fun K hK => ?_) (AllReady.cons rfl (fun K hK => ?_) AllReady.nil))
    · go_simp
      refine hK _ _ ?_
      clear hK K
      refine wpAny_one 2 _ (by kernel_rfl) rfl rfl (fun K hK => ?_)
      go_simp
      refine hK _ _ ?_
      clear hK K
      refine wpAny_one 3 _ (by kernel_rfl) rfl rfl (fun K hK => ?_)
      go_simp
      refine hK _ _ ?_
      clear hK K
      refine wpAny_one 4 _ (by kernel_rfl) rfl rfl (fun K hK => ?_)
      go_simp
      refine hK _ _ ?_
      clear hK K
      refine wpAny_one 5 _ (by kernel_rfl) rfl rfl (fun K hK => ?_)
      go_simp
      refine hK _ _ ?_
      clear hK K
      refine wpAny_done (by kernel_rfl) ?_ _
      go_wp2_with fail
      go_ret
      exact new_end HDD.out rfl (heap4_3 _ _ _ _ _) (heap4_0 _ _ _ _ _) (heap4_1 _ _ _ _ _) (heap4_2 _ _ _ _ _) (by omega) (by omega) (bel4 _ _ _ _ _)
    · go_simp
      refine hK _ _ ?_
      clear hK K
      refine wpAny_one 1 _ (by kernel_rfl) rfl rfl (fun K hK => ?_)
      go_simp
      refine hK _ _ ?_
      clear hK K
      refine wpAny_one 3 _ (by kernel_rfl) rfl rfl (fun K hK => ?_)
      go_simp
      refine hK _ _ ?_
      clear hK K
      refine wpAny_one 4 _ (by kernel_rfl) rfl rfl (fun K hK => ?_)
      go_simp
      refine hK _ _ ?_
      clear hK K
      refine wpAny_one 5 _ (by kernel_rfl) rfl rfl (fun K hK => ?_)
      go_simp
      refine hK _ _ ?_
      clear hK K
      refine wpAny_done (by kernel_rfl) ?_ _
      go_wp2_with fail
      go_ret
      exact new_end HDD.out rfl (heap4_3 _ _ _ _ _) (heap4_0 _ _ _ _ _) (heap4_2 _ _ _ _ _) (heap4_1 _ _ _ _ _) (by omega) (by omega) (bel4 _ _ _ _ _)
  · go_simp
    refine hK _ _ ?_
    clear hK K
    refine wpAny_ready (rs := [0, 2]) (by kernel_rfl) (by simp) ?_
    refine (AllReady.cons rfl (fun K hK => ?_) (AllReady.cons rfl (fun K hK => ?_) AllReady.nil))
    · go_simp
      refine hK _ _ ?_
      clear hK K
      refine wpAny_one 2 _ (by kernel_rfl) rfl rfl (fun K hK => ?_)
      go_simp
      refine hK _ _ ?_
      clear hK K
      refine wpAny_one 3 _ (by kernel_rfl) rfl rfl (fun K hK => ?_)
      go_simp
      refine hK _ _ ?_
      clear hK K
      refine wpAny_one 4 _ (by kernel_rfl) rfl rfl (fun K hK => ?_)
      go_simp
      refine hK _ _ ?_
      clear hK K
      refine wpAny_one 5 _ (by kernel_rfl) rfl rfl (fun K hK => ?_)
      go_simp
      refine hK _ _ ?_
      clear hK K
      refine wpAny_done (by kernel_rfl) ?_ _
      go_wp2_with fail
      go_ret
      exact new_end HDD.out rfl (heap4_3 _ _ _ _ _) (heap4_1 _ _ _ _ _) (heap4_0 _ _ _ _ _) (heap4_2 _ _ _ _ _) (by omega) (by omega) (bel4 _ _ _ _ _)
    · go_simp
      refine hK _ _ ?_
      clear hK K
      refine wpAny_one 0 _ (by kernel_rfl) rfl rfl (fun K hK => ?_)
      go_simp
      refine hK _ _ ?_
      clear hK K
      refine wpAny_one 3 _ (by kernel_rfl) rfl rfl (fun K hK => ?_)
      go_simp
      refine hK _ _ ?_
      clear hK K
      refine wpAny_one 4 _ (by kernel_rfl) rfl rfl (fun K hK => ?_)
      go_simp
      refine hK _ _ ?_
      clear hK K
      refine wpAny_one 5 _ (by kernel_rfl) rfl rfl (fun K hK => ?_)
      go_simp
      refine hK _ _ ?_
      clear hK K
      refine wpAny_done (by kernel_rfl) ?_ _
      go_wp2_with fail
      go_ret
      exact new_end HDD.out rfl (heap4_3 _ _ _ _ _) (heap4_2 _ _ _ _ _) (heap4_0 _ _ _ _ _) (heap4_1 _ _ _ _ _) (by omega) (by omega) (bel4 _ _ _ _ _)
  · go_simp
    refine hK _ _ ?_
    clear hK K
    refine wpAny_ready (rs := [0, 1]) (by kernel_rfl) (by simp) ?_
    refine (AllReady.cons rfl (fun K hK => ?_) (AllReady.cons rfl (fun K hK => ?_) AllReady.nil))
    · go_simp
      refine hK _ _ ?_
      clear hK K
      refine wpAny_one 1 _ (by kernel_rfl) rfl rfl (fun K hK => ?_)
      go_simp
      refine hK _ _ ?_
      clear hK K
      refine wpAny_one 3 _ (by kernel_rfl) rfl rfl (fun K hK => ?_)
      go_simp
      refine hK _ _ ?_
      clear hK K
      refine wpAny_one 4 _ (by kernel_rfl) rfl rfl (fun K hK => ?_)
      go_simp
      refine hK _ _ ?_
      clear hK K
      refine wpAny_one 5 _ (by kernel_rfl) rfl rfl (fun K hK => ?_)
      go_simp
      refine hK _ _ ?_
      clear hK K
      refine wpAny_done (by kernel_rfl) ?_ _
      go_wp2_with fail
      go_ret
      exact new_end HDD.out rfl (heap4_3 _ _ _ _ _) (heap4_1 _ _ _ _ _) (heap4_2 _ _ _ _ _) (heap4_0 _ _ _ _ _) (by omega) (by omega) (bel4 _ _ _ _ _)
    · go_simp
      refine hK _ _ ?_
      clear hK K
      refine wpAny_one 0 _ (by kernel_rfl) rfl rfl (fun K hK => ?_)
      go_simp
      refine hK _ _ ?_
      clear hK K
      refine wpAny_one 3 _ (by kernel_rfl) rfl rfl (fun K hK => ?_)
      go_simp
      refine hK _ _ ?_
      clear hK K
      refine wpAny_one 4 _ (by kernel_rfl) rfl rfl (fun K hK => ?_)
      go_simp
      refine hK _ _ ?_
      clear hK K
      refine wpAny_one 5 _ (by kernel_rfl) rfl rfl (fun K hK => ?_)
      go_simp
      refine hK _ _ ?_
      clear hK K
      refine wpAny_done (by kernel_rfl) ?_ _
      go_wp2_with fail
      go_ret
      exact new_end HDD.out rfl (heap4_3 _ _ _ _ _) (heap4_2 _ _ _ _ _) (heap4_1 _ _ _ _ _) (heap4_0 _ _ _ _ _) (by omega) (by omega) (bel4 _ _ _ _ _)
/-- The reference's Drop, when the first k - 1 inodes have been looked at. -/
def rmid (s : Tab) (c : Int) (k : Nat) : Tab := ⟨fun i j => if j = c ∧ i < k then none else s.g i j, fun j => if (1 ≤ j ∧ j < k) ∧ s.wc j = c then 0 else s.wc j, s.wt⟩
theorem rmid_ok {s : Tab} (h : s.Ok) (c : Int) (k : Nat) : (rmid s c k).Ok := ⟨fun i j p hp => by
  unfold rmid at hp
  simp only at hp
  split at hp
  · cases hp
  · exact h.g i j p hp, fun j => by
  unfold rmid
  simp only
  split
  · exact ⟨Int.le_refl _, (by decide : (0 : Int) ≤ 8)⟩
  · exact h.wc j, by
  unfold rmid
  simp only [h.z]
  split <;> rfl⟩
theorem rmid_at (s : Tab) (c : Int) (k : Nat) : (rmid s c k).wc k = s.wc k := by
  unfold rmid
  simp only
  rw [if_neg (by omega)]
theorem rmid_g (s : Tab) (c : Int) (k : Nat) : ((rmid s c k).setG k c none).g = (rmid s c (k + 1)).g := by
  funext i j
  unfold Tab.setG upd rmid
  simp only
  by_cases h1 : i = k ∧ j = c
  · rw [if_pos h1, if_pos ⟨h1.2, by omega⟩]
  · rw [if_neg h1]
    by_cases h2 : j = c ∧ i < k
    · rw [if_pos h2, if_pos ⟨h2.1, by omega⟩]
    · rw [if_neg h2, if_neg (by omega)]
theorem rmid_keep {w : World} {b g x y k : Nat} {s : Tab} {c : Int} (hok : s.Ok) (h : TR w b g x y ((rmid s c k).setG k c none)) (hc : s.wc k ≠ c) : TR w b g x y (rmid s c (k + 1)) := by
  refine h.congr (rmid_ok hok c (k + 1)) (rmid_g s c k).symm fun i _ => ?_
  unfold rmid Tab.setG
  simp only
  by_cases h1 : i = k
  · subst h1
    rw [if_neg fun e => hc e.2, if_neg fun e => hc e.2]; simp
  · by_cases h2 : (1 ≤ (i : Int) ∧ (i : Int) < (k : Int)) ∧ s.wc i = c
    · rw [if_pos h2, if_pos (by omega)]; simp
    · rw [if_neg h2, if_neg (by omega)]; simp
theorem rmid_cut {w : World} {b g x y k : Nat} {s : Tab} {c : Int} (hok : s.Ok) (h : TR w b g x y (((rmid s c k).setG k c none).setW k 0 0)) (hk : 1 ≤ k) (hc : s.wc k = c) : TR w b g x y (rmid s c (k + 1)) := by
  refine h.congr (rmid_ok hok c (k + 1)) (rmid_g s c k).symm fun i _ => ?_
  unfold rmid Tab.setG Tab.setW
  simp only
  by_cases h1 : i = k
  · subst h1
    rw [if_pos ⟨by omega, hc⟩, if_pos rfl]
    exact ⟨rfl, fun h => absurd rfl h⟩
  · have h1' : ¬ ((i : Int) = (k : Int)) := by omega
    rw [if_neg h1', if_neg h1']
    by_cases h2 : (1 ≤ (i : Int) ∧ (i : Int) < (k : Int)) ∧ s.wc i = c
    · rw [if_pos h2, if_pos (by omega)]; simp
    · rw [if_neg h2, if_neg (by omega)]; simp
theorem rmid_end {w : World} {b g x y : Nat} {s : Tab} {c : Int} (hok : s.Ok) (h : TR w b g x y (rmid s c 33)) (hc : 1 ≤ c) : TR w b g x y (s.drop c) := by
  refine h.congr (hok.drop c) ?_ fun i hi => ?_
  · funext i j
    unfold rmid Tab.drop
    simp only
    by_cases h1 : j = c
    · rw [if_pos h1]
      by_cases h2 : i < 33
      · rw [if_pos ⟨h1, by omega⟩]
      · rw [if_neg (by omega)]
        cases hg : s.g i j with
        | none => rfl
        | some p => have := hok.g i j p hg; omega
    · rw [if_neg h1, if_neg (by omega)]
  · unfold rmid Tab.drop
    simp only
    have hz := hok.z
    by_cases h2 : s.wc i = c
    · have : i ≠ 0 := by rintro rfl; rw [show ((0 : Nat) : Int) = 0 from rfl, hz] at h2; omega
      rw [if_pos h2, if_pos (by omega)]; simp
    · rw [if_neg h2, if_neg fun e => h2 e.2]; simp
theorem rdrop_none {w : World} {b g x y : Nat} {s : Tab} (h : TR w b g x y s) {c : Int} (hc : ¬ (1 ≤ c ∧ c ≤ 8)) : TR w b g x y (s.drop c) := by
  refine h.congr (h.ok.drop c) ?_ fun i _ => ?_
  · funext i j
    unfold Tab.drop
    simp only
    split
    · cases hg : s.g i j with
      | none => rfl
      | some p => have := h.ok.g i j p hg; omega
    · rfl
  · unfold Tab.drop
    simp only
    have := h.ok.wc i
    split
    · rename_i e
      exact ⟨by omega, fun _ => trivial⟩
    · simp
set_option maxRecDepth 100000 in
set_option maxHeartbeats 4000000 in
theorem rdrop_any {w : World} {b g x y : Nat} {s : Tab} (h : TR w b g x y s) (c : Int) : Calls Try.prog 23 #[.pointer (some ⟨b, 0, none⟩), .int .i64 c] w fun e w' =>
    e = .returned (.tuple #[]) ∧ TR w' b g x y (s.drop c) ∧ Fr (RK b g x y) w w' := by
  by_cases hc : 1 ≤ c ∧ c ≤ 8
  · obtain ⟨j, rfl⟩ := Int.eq_ofNat_of_zero_le (show 0 ≤ c by omega)
    have HOK := Lib.hid h.ok
    have HS := Lib.hid (show TR w b g x y (rmid s j 1) from h.congr (rmid_ok h.ok j 1) (by
      funext i k
      unfold rmid
      simp only
      split
      · cases hg : s.g i k with
        | none => rfl
        | some p => have := h.ok.g i k p hg; omega
      · rfl) fun i _ => by
      unfold rmid
      simp only
      rw [if_neg (by omega)]
      simp)
    obtain ⟨c1, c2⟩ := hc
    have HC := Lib.hid (And.intro c1 c2)
    clear h
    go_enter Try.func23, Try.ntmps23
    go_wp2_with fail
    go_loopw [4] (fun z wr => ∃ k : Nat, 1 ≤ k ∧ k ≤ 33 ∧ z = .int .i64 k ∧ TR wr b g x y (rmid s j k) ∧ Fr (RK b g x y) w wr) (fun z _ => 33 - (intOf z).toNat)
    case atStart => exact ⟨1, Nat.le_refl _, by omega, rfl, HS.out, Fr.refl _ _⟩
    case round =>
      obtain ⟨k, hk1, hk, rfl, ht, hf⟩ := hrel
      have HT := Lib.hid ht
      have HF := Lib.hid hf
      by_cases hlt : k < 33
      · have hlt' : (k : Int) ≤ 32 := by omega
        obtain ⟨arr, ha, hsz, hg⟩ := ht.gr
        obtain ⟨own, til, g0, g1, g2, _⟩ := hg k j (by omega) (by have := HC.out; omega)
        obtain ⟨ax, hax, hxs, hx⟩ := ht.wx
        have u0 := hx k (by omega)
        rw [rmid_at] at u0
        have hG := ht.setG k j (by omega) (by have := HC.out; omega) none false 0 (fun q hq => by cases hq)
        simp only [Option.isSome_none] at hG
        have HG := Lib.hid hG
        clear hG
        have HF2 := Lib.hid ((((hf).setCell (b := g) (i := (9 * k + j) * 3) (.inl (.inr (.inl rfl))) (.bool false)).setCell (b := g) (i := (9 * k + j) * 3 + 1) (.inl (.inr (.inl rfl))) (.bool false)).setCell (b := g) (i := (9 * k + j) * 3 + 2) (.inl (.inr (.inl rfl))) (.int .i64 0))
        have d0 := blk_cell ha g0
        have d1 := blk_cell ha g1
        have d2 := blk_cell ha g2
        have z0 := frozen_of_row wr g ((9 * k + j) * 3) _ _ ha
        have z1 := frozen_of_row wr g ((9 * k + j) * 3 + 1) _ _ ha
        have z2 := frozen_of_row wr g ((9 * k + j) * 3 + 2) _ _ ha
        have e0 := blk_cell (j := 0) HG.out.blk rfl
        have e1 := blk_cell (j := 1) HG.out.blk rfl
        have c0 := blk_cell (j := 0) ht.blk rfl
        obtain ⟨ax2, hax2, hxs2, hx2⟩ := HG.out.wx
        have u1 := hx2 k (by omega)
        have hwc : ((rmid s (j : Int) k).setG k j none).wc k = s.wc k := rmid_at s j k
        rw [hwc] at u1
        have e2 := blk_cell hax2 u1
        have z3 := frozen_of_row _ x k _ _ hax2
        clear ht hf ha hsz hg g0 g1 g2 hax hxs hx u0 hax2 hxs2 hx2 u1 hwc
        generalize ((rmid s (j : Int) k).g k j).isSome = bb at *
        have b0 : (0 : Int) ≤ 9 * (k : Int) + (j : Int) := by omega
        have b1 : 9 * (k : Int) + (j : Int) < 297 := by omega
        by_cases hw : s.wc k = j
        · have q : (s.wc (k : Int) == (j : Int)) = true := by simpa using hw
          have HE := Lib.hid (rmid_cut HOK.out (HG.out.noW k (by omega)) hk1 hw)
          have HF3 := Lib.hid (HF2.out.setCell (b := x) (i := k) (.inl (.inr (.inr (.inl rfl)))) (.int .i64 0))
          clear hw
          generalize s.wc (k : Int) = wck at *
          go_wp2_with fail
          exact ⟨⟨k + 1, by omega, by omega, by go_num, HE.out, HF3.out⟩, by simp [intOf]; omega⟩
        · have q : (s.wc (k : Int) == (j : Int)) = false := by simpa using hw
          have HE := Lib.hid (rmid_keep HOK.out HG.out hw)
          clear hw
          generalize s.wc (k : Int) = wck at *
          go_wp2_with fail
          exact ⟨⟨k + 1, by omega, by omega, by go_num, HE.out, HF2.out⟩, by simp [intOf]; omega⟩
      · obtain rfl : k = 33 := by omega
        have hlt' : ¬ ((33 : Nat) : Int) ≤ 32 := by omega
        clear ht hf
        go_wp2_with fail
        go_end0
        exact ⟨rfl, rmid_end HOK.out HT.out HC.out.1, HF.out⟩
  · have H := Lib.hid (rdrop_none h hc)
    have hor : ¬ 1 ≤ c ∨ ((1 ≤ c) ∧ ¬ c ≤ 8) := by omega
    clear h hc
    rcases hor with c1 | ⟨c1, c2⟩
    all_goals
      go_enter Try.func23, Try.ntmps23
      go_wp2_with fail
      go_loopw [4] (fun z wr => ∃ k : Nat, k ≤ 33 ∧ z = .int .i64 k ∧ w = wr) (fun z _ => 33 - (intOf z).toNat)
      case atStart => exact ⟨1, by omega, rfl, rfl⟩
      case round =>
        obtain ⟨k, hk, rfl, rfl⟩ := hrel
        by_cases hlt : k < 33
        · have hlt' : (k : Int) ≤ 32 := by omega
          go_wp2_with fail
          exact ⟨⟨k + 1, by omega, by go_num, trivial⟩, by simp [intOf]; omega⟩
        · obtain rfl : k = 33 := by omega
          have hlt' : ¬ ((33 : Nat) : Int) ≤ 32 := by omega
          go_wp2_with fail
          go_end0
          exact ⟨rfl, H.out, Fr.refl _ _⟩
end Go.Proofs.Ytpjgcpnjfopolaa
