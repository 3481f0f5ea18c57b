/-
  like: the table's grants are the reference's.
-/
import Derived.Test.YtpjgcpnjfopolaaTogether
namespace Go.Proofs.Ytpjgcpnjfopolaa
open Go.RowKit Go.Deep
def bef (i c : Int) (h : Hl) : Bool := decide (h.i < i ∨ (h.i = i ∧ h.c < c))
/-- How many grants come before a place. -/
def pre (g : Int → Int → Option (Bool × Int)) (i c : Int) : Nat := ((allL g).filter (bef i c)).length
theorem pre_le (g : Int → Int → Option (Bool × Int)) (i c : Int) : pre g i c ≤ (allL g).length := List.length_filter_le _ _
theorem pre_congr {g : Int → Int → Option (Bool × Int)} {i c i' c' : Int} (h : ∀ x ∈ allL g, bef i c x = bef i' c' x) : pre g i c = pre g i' c' := by
  unfold pre
  rw [List.filter_congr h]
theorem allL_in {s : Tab} (hok : s.Ok) {x : Hl} (h : x ∈ allL s.g) : (1 ≤ x.i ∧ x.i ≤ 32) ∧ 1 ≤ x.c ∧ x.c ≤ 8 := hok.g _ _ _ ((mem_allL hok.g x).1 h)
theorem pre_zero {s : Tab} (hok : s.Ok) : pre s.g 0 0 = 0 := by
  unfold pre
  rw [List.length_eq_zero_iff, List.filter_eq_nil_iff]
  intro x hx
  have := allL_in hok hx
  simp [bef]
  omega
theorem pre_turn {s : Tab} (hok : s.Ok) (i : Int) : pre s.g i 10 = pre s.g (i + 1) 0 := pre_congr fun x hx => by
  have := allL_in hok hx
  unfold bef
  rw [decide_eq_decide]
  omega
theorem pre_end {s : Tab} (hok : s.Ok) : pre s.g 34 0 = (allL s.g).length := by
  unfold pre
  rw [List.filter_eq_self.2]
  intro x hx
  have := allL_in hok hx
  simp [bef]
  omega
theorem pre_none {s : Tab} (hok : s.Ok) {i c : Int} (h : s.g i c = none) : pre s.g i (c + 1) = pre s.g i c := pre_congr fun x hx => by
  have hx := (mem_allL hok.g x).1 hx
  have hne : ¬ (x.i = i ∧ x.c = c) := fun e => by rw [e.1, e.2, h] at hx; cases hx
  unfold bef
  rw [decide_eq_decide]
  omega
theorem pre_some {s : Tab} (hok : s.Ok) {i c : Int} {p : Bool × Int} (h : s.g i c = some p) : (allL s.g)[pre s.g i c]? = some ⟨c, i, p.1, p.2⟩ ∧ pre s.g i (c + 1) = pre s.g i c + 1 := by
  have hm : (⟨c, i, p.1, p.2⟩ : Hl) ∈ allL s.g := (mem_allL hok.g _).2 h
  obtain ⟨l1, l2, he⟩ := List.append_of_mem hm
  have hup := allL_up s.g
  unfold pre
  rw [he] at hup ⊢
  rw [List.pairwise_append, List.pairwise_cons] at hup
  obtain ⟨_, ⟨h2, _⟩, h1⟩ := hup
  have k1 : ∀ x ∈ l1, bef i c x = true := fun x hx => by
    have := h1 x hx _ (List.mem_cons_self)
    simp [ltH] at this
    simp [bef]
    omega
  have k1' : ∀ x ∈ l1, bef i (c + 1) x = true := fun x hx => by
    have := k1 x hx
    simp [bef] at this ⊢
    omega
  have k2' : ∀ x ∈ l2, ¬ bef i (c + 1) x = true := fun x hx => by
    have := h2 x hx
    simp [ltH] at this
    simp [bef]
    omega
  have k2 : ∀ x ∈ l2, ¬ bef i c x = true := fun x hx e => by
    have := k2' x hx
    simp [bef] at this e
    omega
  have b1 : bef i c ⟨c, i, p.1, p.2⟩ = false := by simp [bef]
  have b2 : bef i (c + 1) ⟨c, i, p.1, p.2⟩ = true := by simp [bef]; omega
  rw [List.filter_append, List.filter_append, List.filter_cons, List.filter_cons, List.filter_eq_self.2 k1, List.filter_eq_self.2 k1', List.filter_eq_nil_iff.2 k2, List.filter_eq_nil_iff.2 k2', b1, b2]
  simp
set_option maxRecDepth 100000 in
set_option maxHeartbeats 8000000 in
theorem like_any {w0 w : World} {b m b' g x y : Nat} {s : Tab} (h : Two w0 w b m b' g x y s s) : Calls Try.prog 19 #[.pointer (some ⟨b, 0, none⟩), .pointer (some ⟨b', 0, none⟩)] w fun e w' =>
    e = .returned (.bool true) ∧ Below w.heap.size w w' := by
  have H := Lib.hid h
  have hok := h.p.ok
  have HP := Lib.hid (And.intro (pre_zero hok) (And.intro (pre_turn hok) (And.intro (pre_end hok) (And.intro (fun i c => pre_none (i := i) (c := c) hok) (fun i c p => pre_some (i := i) (c := c) (p := p) hok)))))
  have HAL := Lib.hid (all_any h.p)
  have HOK := Lib.hid hok
  clear h hok
  go_enter Try.func19, Try.ntmps19
  go_wp2_with fail
  refine (HAL.out).mono ?_
  rintro e w1 ⟨v, rfl, ho1, hb1⟩
  have HT1 := Lib.hid (H.out.below hb1)
  have HB1 := Lib.hid hb1
  obtain ⟨Av, cv, rfl, hat⟩ := rowH_at ho1
  have HAT := Lib.hid hat
  have HLL := Lib.hid (allL_len (g := s.g))
  have HLE := Lib.hid (pre_le s.g)
  clear ho1 hb1 hat HAL
  go_wp2_with fail
  go_loopw [6, 7] (fun n z wr => ∃ k : Nat, k ≤ 34 ∧ z = .int .i64 k ∧ n = .int .i64 (pre s.g k 0 : Nat) ∧ Below w1.heap.size w1 wr) (fun _ z _ => 34 - (intOf z).toNat)
  case atStart => exact ⟨0, by omega, rfl, by rw [show ((0 : Nat) : Int) = 0 from rfl, HP.out.1]; rfl, Below.refl _ _⟩
  case round =>
    obtain ⟨k, hk, rfl, rfl, hbk⟩ := hrel
    have HBK := Lib.hid hbk
    clear hbk
    by_cases hkl : k < 34
    · have hkl' : (k : Int) ≤ 33 := by omega
      go_wp2_with fail
      obtain ⟨wo, hwo⟩ : ∃ wo, wo = wr := ⟨wr, rfl⟩
      subst hwo
      go_loopw [6, 8] (fun n z wr => ∃ c : Nat, c ≤ 10 ∧ z = .int .i64 c ∧ n = .int .i64 (pre s.g k c : Nat) ∧ Below w1.heap.size w1 wr) (fun _ z _ => 10 - (intOf z).toNat)
      case atStart => exact ⟨0, by omega, rfl, rfl, HBK.out⟩
      case round =>
        obtain ⟨c, hc, rfl, rfl, hbc⟩ := hrel
        have HBC := Lib.hid hbc
        have HTC := Lib.hid (HT1.out.below hbc)
        clear hbc
        by_cases hcl : c < 10
        · have hcl' : (c : Int) ≤ 9 := by omega
          have HF := Lib.hid (find_any HTC.out.p (c : Int) (k : Int))
          cases hg : s.g (k : Int) (c : Int) with
          | none =>
            have hB : hasB s c k = false := by simp [hasB, hg]
            have HN := Lib.hid (HP.out.2.2.2.1 _ _ hg)
            have hgot : got s.g k c = held 0 0 false 0 := by simp [got, hg]
            rw [hgot, hg] at HF
            generalize pre s.g (k : Int) (c : Int) = q at *
            clear hgot hg
            go_wp2_with fail
            refine (HF.out).mono ?_
            rintro e w2 ⟨rfl, hb2⟩
            have HT2 := Lib.hid (HTC.out.below hb2)
            have HB2 := Lib.hid (below_then' HBC.out HBC.out.size hb2)
            clear hb2 HF
            unfold held
            go_wp2_with fail
            refine (has_any (HT2.out.r.below ((Below.refl _ _).alloc (Nat.le_refl _) _)) c k).mono ?_
            rintro e w3 ⟨rfl, rfl⟩
            rw [hB]
            go_wp2_with fail
            exact ⟨⟨c + 1, by omega, by go_num, by rw [show ((c + 1 : Nat) : Int) = (c : Int) + 1 from rfl, HN.out], HB2.out.alloc HB2.out.size _⟩, by simp [intOf]; omega⟩
          | some p =>
            have hB : hasB s c k = true := by simp [hasB, hg]
            obtain ⟨⟨i1, i2⟩, c1, c2⟩ := HOK.out.g _ _ _ hg
            obtain ⟨hq, hn⟩ := HP.out.2.2.2.2 _ _ _ hg
            have HN := Lib.hid hn
            have hgot : got s.g k c = held c k p.1 p.2 := by simp [got, hg]
            rw [hgot, hg] at HF
            have hql := (List.getElem?_eq_some_iff.1 hq).1
            obtain ⟨g4, rfl, _, hg4, x0, x1, x2, x3⟩ := HAT.out _ _ hq
            obtain ⟨own, til⟩ := p
            generalize hqq : pre s.g (k : Int) (c : Int) = q at *
            generalize hnl : (allL s.g).length = nl at *
            have hnl2 : nl ≤ 256 := HLL.out
            have hqn : (q : Int) < (nl : Int) := by omega
            have hqd : decide (nl ≤ q) = false := by simp; omega
            have hqe : ¬ nl ≤ q := by omega
            have hqf : ¬ (nl : Int) ≤ (q : Int) := by omega
            clear hgot hq hn
            go_wp2_with fail
            refine (HF.out).mono ?_
            rintro e w2 ⟨rfl, hb2⟩
            have HT2 := Lib.hid (HTC.out.below hb2)
            have HB2 := Lib.hid (below_then' HBC.out HBC.out.size hb2)
            have hg4' : g4 < w2.heap.size := by have := HB2.out.size; omega
            have hg4a : g4 < w2.heap.size + 1 := by omega
            have hg4b : g4 < w2.heap.size + 1 + 1 := by omega
            obtain ⟨arr, ha, hsz, hgr⟩ := HT2.out.r.gr
            obtain ⟨own', til', e0, e1, e2, e3⟩ := hgr k c (by omega) (by omega)
            obtain ⟨rfl, rfl⟩ := e3 _ hg
            rw [hg] at e0
            have y0 : w2.cell? ⟨g4, q * 4, none⟩ = some (.int .i64 c) := (HB2.out.cell (p := ⟨g4, q * 4, none⟩) hg4).trans x0
            have y1 : w2.cell? ⟨g4, q * 4 + 1, none⟩ = some (.int .i64 k) := (HB2.out.cell (p := ⟨g4, q * 4 + 1, none⟩) hg4).trans x1
            have y2 : w2.cell? ⟨g4, q * 4 + 2, none⟩ = some (.bool own') := (HB2.out.cell (p := ⟨g4, q * 4 + 2, none⟩) hg4).trans x2
            have y3 : w2.cell? ⟨g4, q * 4 + 3, none⟩ = some (.int .i64 til') := (HB2.out.cell (p := ⟨g4, q * 4 + 3, none⟩) hg4).trans x3
            have d0 := blk_cell ha e0
            have d1 := blk_cell ha e1
            have d2 := blk_cell ha e2
            have c0 := blk_cell (j := 0) HT2.out.r.blk rfl
            have hblt := HT2.out.r.lt.1
            have hglt := HT2.out.r.lt.2.1
            have a0 : (0 : Int) ≤ 9 * (k : Int) + (c : Int) := by omega
            have a1 : 9 * (k : Int) + (c : Int) < 297 := by omega
            clear hb2 HF ha hsz hgr e0 e1 e2 e3 hg x0 x1 x2 x3 hg4
            unfold held
            go_wp2_with fail
            refine (has_any (HT2.out.r.below ((Below.refl _ _).alloc (Nat.le_refl _) _)) c k).mono ?_
            rintro e w3 ⟨rfl, rfl⟩
            rw [hB]
            go_wp2_with fail
            go_quiet (fail)
            go_wp2_with fail
            exact ⟨⟨c + 1, by omega, by go_num, by rw [show ((c + 1 : Nat) : Int) = (c : Int) + 1 from rfl, HN.out]; rfl, below_drewN (((HB2.out.alloc HB2.out.size _).alloc (by have := HB2.out.size; simp; omega) _).alloc (by have := HB2.out.size; simp; omega) _) _⟩, by simp [intOf]; omega⟩
        · obtain rfl : c = 10 := by omega
          have hcl' : ¬ ((10 : Nat) : Int) ≤ 9 := by omega
          have HN := Lib.hid (HP.out.2.1 (k : Int))
          go_wp2_with fail
          exact ⟨⟨k + 1, by omega, by go_num, by rw [show ((k + 1 : Nat) : Int) = (k : Int) + 1 from rfl, ← HN.out]; rfl, HBC.out⟩, by simp [intOf]; omega⟩
    · obtain rfl : k = 34 := by omega
      have hkl' : ¬ ((34 : Nat) : Int) ≤ 33 := by omega
      have HN := HP.out.2.2.1
      rw [show ((34 : Nat) : Int) = 34 from rfl] at *
      rw [HN]
      generalize (allL s.g).length = nl at *
      clear HN
      go_wp2_with fail
      go_ret
      exact ⟨rfl, below_then HB1.out HBK.out⟩
end Go.Proofs.Ytpjgcpnjfopolaa
