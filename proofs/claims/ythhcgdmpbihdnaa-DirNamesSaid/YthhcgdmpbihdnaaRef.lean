/-
  The reference's Find and Place, over a slice of sixteen entries.
-/
import Derived.Test.YthhcgdmpbihdnaaPlace
namespace Go.Proofs.Ythhcgdmpbihdnaa
open Go.RowKit
/-- A slice of n entries that lies at the head of a block. -/
def Rw (w : World) (v : Value) (f : Nat → Ent) (n : Nat) : Prop :=
  ∃ g cap cur, v = .slice (some ⟨g, 0, none⟩) n cap ∧ w.heap[g]? = some (.cells cur 24 (0, 0)) ∧ n ≤ cap ∧ cap ≤ maxLen ∧ cur.size = cap * 2 ∧ cur.toList.take (n * 2) = ecs f n
theorem Rw.below {w w' : World} {v : Value} {f : Nat → Ent} {n : Nat} (h : Rw w v f n) (k : Below w.heap.size w w') : Rw w' v f n := by
  obtain ⟨g, cap, cur, h1, h2, h3⟩ := h
  exact ⟨g, cap, cur, h1, blk_below k (blk_lt h2) h2, h3⟩
theorem rw_get {cur : Array Value} {f : Nat → Ent} {n : Nat} (h : cur.toList.take (n * 2) = ecs f n) (m : Nat) (hm : m < n * 2) : cur[m]? = (ecs f n)[m]? := by
  rw [← h, List.getElem?_take, if_pos hm, Array.getElem?_toList]
theorem plc_int (h k : Nat) : ((h : Int) + (k : Int)) % 16 = ((plc h k : Nat) : Int) := by unfold plc; omega
set_option maxRecDepth 100000 in
set_option maxHeartbeats 2000000 in
theorem rfind_any {w : World} {v : Value} {f : Nat → Ent} (hr : Rw w v f 16) (s : ByteArray) (hs : s.size ≤ 9223372036854775807) :
    Calls Try.prog 13 #[v, .string s] w fun e w' => e = .returned (.int .i64 (find f s)) ∧ Below w.heap.size w w' := by
  obtain ⟨g, cap, cur, rfl, hg, hc1, hc2, hc3, hc4⟩ := hr
  have hget := rw_get hc4
  have HGET := Lib.hid hget
  have hgl := blk_lt hg
  have HC := Lib.hid (And.intro hc3 hc4)
  clear hget hc3 hc4
  have hH := fun W => rhash_any s hs W
  have HH := Lib.hid hH
  clear hH
  by_cases hz : s.toList = []
  · have hR : find f s = -1 := fnd_none _ _ fun i hi => by unfold isNm; rw [hz]; simp
    have HR := Lib.hid hR
    have hz2 : s.toList.isEmpty = true := by rw [hz]; rfl
    clear hR hz
    go_enter Try.func13, Try.ntmps13
    go_wp2
    go_ret
    exact ⟨by rw [HR.out]; rfl, Below.refl _ _⟩
  · have hz2 : s.toList.isEmpty = false := by simpa using hz
    have hz3 : (!s.toList.isEmpty) = true := by rw [hz2]; rfl
    have HZ := Lib.hid hz3
    clear hz hz3
    have hl := hash_lt s
    have HF := Lib.hid (show find f s = fnd (isNm f s) (hash s) from rfl)
    generalize hash s = h at *
    go_enter Try.func13, Try.ntmps13
    go_wp2_with (go_at_call 33; refine (HH.out _).mono ?_; rintro e w1 ⟨rfl, hb1⟩)
    have hg1 := blk_below hb1 hgl hg
    have HB := Lib.hid hb1
    clear hb1
    go_loop [6] (fun i => ∃ k : Nat, k ≤ 16 ∧ i = .int .i64 k ∧ ∀ j, j < k → isNm f s (plc h j) = false) (fun i => 16 - (intOf i).toNat)
    case atStart => exact ⟨0, Nat.zero_le _, rfl, fun j hj => absurd hj (Nat.not_lt_zero _)⟩
    case round =>
      obtain ⟨k, hk, rfl, hn⟩ := hrel
      have HN := Lib.hid hn
      clear hn
      by_cases hlt : k < 16
      · have hpl := plc_int h k
        have hp16 := plc_lt h k
        have hcell : w1.cell? ⟨g, plc h k * 2, none⟩ = some (.string (f (plc h k)).nm) := by
          rw [cell_of_row _ _ _ _ _ _ hg1, HGET.out _ (by omega), ecs_nm f 16 _ hp16]
        have hP : isNm f s (plc h k) = ((f (plc h k)).nm.toList == s.toList && !s.toList.isEmpty) := rfl
        have hhit := fnd_hit (isNm f s) h k hlt HN.out
        rw [← HF.out] at hhit
        have hsn : ∀ j, j < k + 1 → isNm f s (plc h k) = false → isNm f s (plc h j) = false := fun j hj he => by
          by_cases e : j = k
          · rw [e]; exact he
          · exact HN.out j (by omega)
        generalize (f (plc h k)).nm = t at *
        have HP := Lib.hid hP
        have HHIT := Lib.hid hhit
        have HSN := Lib.hid hsn
        clear hP hhit hsn
        generalize hq : plc h k = q at *
        have HQ := Lib.hid hq
        clear hq
        by_cases htq : (t.toList == s.toList) = true
        · have hT : isNm f s q = true := by rw [HP.out, HZ.out, htq]; rfl
          have HT := Lib.hid hT
          clear hT
          go_wp2
          go_ret
          exact ⟨ret_int (HHIT.out HT.out).symm, HB.out⟩
        · have htf : (t.toList == s.toList) = false := by simpa using htq
          have hF : isNm f s q = false := by rw [HP.out, htf, Bool.false_and]
          have HFF := Lib.hid hF
          clear hF htq
          go_wp2
          exact ⟨⟨k + 1, by omega, by go_num, fun j hj => HSN.out j hj HFF.out⟩, by simp [intOf]; omega⟩
      · obtain rfl : k = 16 := by omega
        have hR := fnd_none (isNm f s) h HN.out
        rw [← HF.out] at hR
        have HR := Lib.hid hR
        clear hR
        go_wp2
        go_ret
        exact ⟨by rw [HR.out]; rfl, HB.out⟩
set_option maxRecDepth 100000 in
set_option maxHeartbeats 2000000 in
theorem rplace_any {w : World} {v : Value} {f : Nat → Ent} (hr : Rw w v f 16) (s : ByteArray) (hs : s.size ≤ 9223372036854775807) :
    Calls Try.prog 15 #[v, .string s] w fun e w' => e = .returned (.int .i64 (place f s)) ∧ Below w.heap.size w w' := by
  obtain ⟨g, cap, cur, rfl, hg, hc1, hc2, hc3, hc4⟩ := hr
  have hget := rw_get hc4
  have HGET := Lib.hid hget
  have hgl := blk_lt hg
  have HC := Lib.hid (And.intro hc3 hc4)
  clear hget hc3 hc4
  have hH := fun W => rhash_any s hs W
  have HH := Lib.hid hH
  clear hH
  have hl := hash_lt s
  have HF := Lib.hid (show place f s = fnd (isFree f) (hash s) from rfl)
  generalize hash s = h at *
  go_enter Try.func15, Try.ntmps15
  go_wp2_with (go_at_call 33; refine (HH.out _).mono ?_; rintro e w1 ⟨rfl, hb1⟩)
  have hg1 := blk_below hb1 hgl hg
  have hgl1 := blk_lt hg1
  have HB := Lib.hid hb1
  clear hb1
  go_loopw [6, 7] (fun i _ wr => ∃ k : Nat, k ≤ 16 ∧ i = .int .i64 k ∧ (∀ j, j < k → isFree f (plc h j) = false) ∧ Below w1.heap.size w1 wr) (fun i _ _ => 16 - (intOf i).toNat)
  case atStart => exact ⟨0, Nat.zero_le _, rfl, fun j hj => absurd hj (Nat.not_lt_zero _), Below.refl _ _⟩
  case round =>
    obtain ⟨k, hk, rfl, hn, hbel⟩ := hrel
    have HN := Lib.hid hn
    have HBEL := Lib.hid hbel
    have hgr := blk_below hbel hgl1 hg1
    clear hn
    by_cases hlt : k < 16
    · have hpl := plc_int h k
      have hp16 := plc_lt h k
      have hcell : wr.cell? ⟨g, plc h k * 2, none⟩ = some (.string (f (plc h k)).nm) := by
        rw [cell_of_row _ _ _ _ _ _ hgr, HGET.out _ (by omega), ecs_nm f 16 _ hp16]
      have hcell2 : wr.cell? ⟨g, plc h k * 2 + 1, none⟩ = some (.int .i64 (f (plc h k)).ino) := by
        rw [cell_of_row _ _ _ _ _ _ hgr, HGET.out _ (by omega), ecs_ino f 16 _ hp16]
      have hP : isFree f (plc h k) = ((f (plc h k)).nm.toList.isEmpty && (f (plc h k)).ino == 0) := rfl
      have hhit := fnd_hit (isFree f) h k hlt HN.out
      rw [← HF.out] at hhit
      have hsn : ∀ j, j < k + 1 → isFree f (plc h k) = false → isFree f (plc h j) = false := fun j hj he => by
        by_cases e : j = k
        · rw [e]; exact he
        · exact HN.out j (by omega)
      generalize (f (plc h k)).nm = t at *
      generalize (f (plc h k)).ino = n at *
      have HP := Lib.hid hP
      have HHIT := Lib.hid hhit
      have HSN := Lib.hid hsn
      clear hP hhit hsn hbel
      generalize hq : plc h k = q at *
      have HQ := Lib.hid hq
      clear hq
      have hnb := fun o => below_then HBEL.out ((Below.refl wr.heap.size wr).alloc (Nat.le_refl _) o)
      by_cases hte : t.toList = []
      · by_cases hn0 : n = 0
        · have hT : isFree f q = true := by rw [HP.out, hte, hn0]; rfl
          have HT := Lib.hid hT
          have hte2 : t.toList.isEmpty = true := by rw [hte]; rfl
          subst hn0
          clear hT hte
          go_wp2
          go_ret
          exact ⟨ret_int (hpl.trans (HHIT.out HT.out).symm), below_then HB.out (hnb _)⟩
        · have hF : isFree f q = false := by rw [HP.out, show (n == 0) = false by simpa using hn0, Bool.and_false]
          have HFF := Lib.hid hF
          have hte2 : t.toList.isEmpty = true := by rw [hte]; rfl
          have hn2 : (n == 0) = false := by simpa using hn0
          clear hF hte hn0
          go_wp2
          exact ⟨⟨k + 1, by omega, by go_num, fun j hj => HSN.out j hj HFF.out, hnb _⟩, by simp [intOf]; omega⟩
      · have hF : isFree f q = false := by rw [HP.out, show t.toList.isEmpty = false by simpa using hte, Bool.false_and]
        have HFF := Lib.hid hF
        have hte2 : t.toList.isEmpty = false := by simpa using hte
        clear hF hte
        go_wp2
        exact ⟨⟨k + 1, by omega, by go_num, fun j hj => HSN.out j hj HFF.out, hnb _⟩, by simp [intOf]; omega⟩
    · obtain rfl : k = 16 := by omega
      have hR := fnd_none (isFree f) h HN.out
      rw [← HF.out] at hR
      have HR := Lib.hid hR
      clear hR hbel
      go_wp2
      go_ret
      exact ⟨by rw [HR.out]; rfl, below_then HB.out HBEL.out⟩
end Go.Proofs.Ythhcgdmpbihdnaa
