/-
  WHAT BYTES SAY: an entry of sixteen bytes; when it may be; when a block of entries tells just these bytes.
-/
import Derived.Test.YthhcgdmpbihdnaaBlocks
namespace Go.Proofs.Ythhcgdmpbihdnaa
open Go.ChangeShapes Go.WideShapes Go.ChangeAt Go.RowKit Go.Deep
def str (l : List Nat) : ByteArray := (l.map fun (n : Nat) => (n : Int)).foldl (fun r n => r.push (UInt8.ofNat n.toNat)) ByteArray.empty
theorem str_data_go : ∀ (l : List Nat) (r : ByteArray), ((l.map fun (n : Nat) => (n : Int)).foldl (fun r n => r.push (UInt8.ofNat n.toNat)) r).data.toList = r.data.toList ++ l.map UInt8.ofNat
  | [], r => by simp
  | x :: l, r => by
    rw [List.map_cons, List.foldl_cons, str_data_go l]
    simp [ByteArray.push]
theorem str_data (l : List Nat) : (str l).data.toList = l.map UInt8.ofNat := by
  unfold str
  rw [str_data_go]
  rfl
theorem str_size (l : List Nat) : (str l).size = l.length := by
  have h := congrArg List.length (str_data l)
  simpa using h
theorem sb_str (l : List Nat) (h : ∀ x ∈ l, x < 256) : sb (str l) = l := by
  unfold sb
  rw [str_data, List.map_map]
  apply List.ext_getElem
  · simp
  · intro i h1 h2
    have := h l[i] (List.getElem_mem h2)
    simp
    omega
theorem run_str {w : World} {v : Value} {l : List Nat} (h : Byt w v l) : (convert 39 9 v).run Try.prog w = .ok (.string (str l)) w := by
  obtain ⟨A, cap, rfl, h1, h2, h3, h4⟩ := h
  rw [run_convert_bytes_string w 39 9 5 A _ _ Try.underlying39 Try.underlying5 Try.underlying9]
  cases A with
  | none =>
    obtain rfl := h3 rfl
    obtain rfl : l = [] := List.eq_nil_of_length_eq_zero (Nat.le_zero.1 h1)
    rfl
  | some a =>
    refine run_bytesToString w a _ _ _ ?_
    have hl := run_loadCells (P := Try.prog) w a l.length (fun j => Value.int .u8 (l.getD j 0 : Nat)) (fun j hj => by
      obtain ⟨b, off, e, hb, hc⟩ := h4 (by omega)
      injection e with e
      subst e
      rw [add_lit']
      exact hc j hj)
    rw [hl]
    congr 1
    apply Array.ext'
    simp
    apply List.ext_getElem
    · simp
    · intro i h1 h2
      simp at h1 h2
      simp [h1]
/-- The length that stands for the name of entry i. -/
def nl (l : List Nat) (i : Nat) : Nat := l.getD (16 * i + 1) 0
def rd (l : List Nat) (i : Nat) : Ent := ⟨str ((l.drop (16 * i + 2)).take (nl l i)), (l.getD (16 * i) 0 : Nat)⟩
/-- Are the bytes behind the name, from the q-th up to the z-th, zeros? -/
def zr (l : List Nat) (i q : Nat) : Nat → Bool
  | 0 => true
  | z + 1 => zr l i q z && (l.getD (16 * i + q + z) 0 == 0)
def okR (l : List Nat) (i : Nat) : Bool := decide (nl l i ≤ 12) && (mayE (rd l i) && zr l i (2 + nl l i) (14 - nl l i))
def okTo' (l : List Nat) : Nat → Bool
  | 0 => true
  | j + 1 => okTo' l j && okR l j
theorem okTo'_no (l : List Nat) (j : Nat) (h : okR l j = false) : ∀ n, j < n → okTo' l n = false
  | 0, h0 => absurd h0 (Nat.not_lt_zero _)
  | n + 1, hn => by
    rw [okTo']
    by_cases e : j = n
    · subst e
      rw [h, Bool.and_false]
    · rw [okTo'_no l j h n (by omega), Bool.false_and]
theorem zr_iff (l : List Nat) (i q : Nat) : ∀ z, zr l i q z = true ↔ ∀ y, y < z → l.getD (16 * i + q + y) 0 = 0
  | 0 => by simp [zr]
  | z + 1 => by
    rw [zr, Bool.and_eq_true, zr_iff l i q z, beq_iff_eq]
    constructor
    · rintro ⟨h1, h2⟩ y hy
      by_cases e : y = z
      · rw [e]; exact h2
      · exact h1 y (by omega)
    · intro h
      exact ⟨fun y hy => h y (by omega), h z (by omega)⟩
theorem getD_drop_take (l : List Nat) (a n y : Nat) (hy : y < n) : ((l.drop a).take n).getD y 0 = l.getD (a + y) 0 := by
  simp only [List.getD_eq_getElem?_getD, List.getElem?_take, if_pos hy, List.getElem?_drop]
theorem rd_nm_len {l : List Nat} {i : Nat} (hl : 64 ≤ l.length) (hi : i < 4) (hn : nl l i ≤ 12) : ((l.drop (16 * i + 2)).take (nl l i)).length = nl l i := by
  simp
  omega
theorem eb_rd {l : List Nat} {i : Nat} (hl : 64 ≤ l.length) (hb : ∀ x ∈ l, x < 256) (hi : i < 4) (hn : nl l i ≤ 12) :
    eb (rd l i) = [l.getD (16 * i) 0, nl l i] ++ (l.drop (16 * i + 2)).take (nl l i) ++ List.replicate (14 - nl l i) 0 := by
  have h1 := rd_nm_len hl hi hn
  have h2 : (rd l i).nm.size = nl l i := by
    show (str _).size = _
    rw [str_size, h1]
  unfold eb
  rw [h2]
  show [((l.getD (16 * i) 0 : Nat) : Int).toNat, nl l i] ++ sb (str _) ++ _ = _
  rw [sb_str _ (fun x hx => hb x (List.mem_of_mem_drop (List.mem_of_mem_take hx)))]
  rfl
theorem eb_get {l : List Nat} {i : Nat} (hl : 64 ≤ l.length) (hb : ∀ x ∈ l, x < 256) (hi : i < 4) (hn : nl l i ≤ 12) (q : Nat) (hq : q < 16) :
    (eb (rd l i)).getD q 0 = if q < 2 + nl l i then l.getD (16 * i + q) 0 else 0 := by
  have h1 := rd_nm_len hl hi hn
  rw [eb_rd hl hb hi hn, List.append_assoc]
  have hlen : (l.drop (16 * i + 2)).take (nl l i) ++ List.replicate (14 - nl l i) 0 = (l.drop (16 * i + 2)).take (nl l i) ++ List.replicate (14 - nl l i) 0 := rfl
  match q, hq with
  | 0, _ => simp
  | 1, _ =>
    rw [if_pos (by omega)]
    rfl
  | q + 2, hq =>
    show ((l.drop (16 * i + 2)).take (nl l i) ++ List.replicate (14 - nl l i) 0).getD q 0 = _
    by_cases hc : q < nl l i
    · rw [if_pos (by omega), List.getD_eq_getElem?_getD, List.getElem?_append_left (by omega), ← List.getD_eq_getElem?_getD, getD_drop_take _ _ _ _ hc, show 16 * i + 2 + q = 16 * i + (q + 2) by omega]
    · rw [if_neg (by omega), List.getD_eq_getElem?_getD, List.getElem?_append_right (by omega), List.getElem?_replicate]
      split <;> rfl
theorem eb_iff {l : List Nat} {i : Nat} (hl : 64 ≤ l.length) (hb : ∀ x ∈ l, x < 256) (hi : i < 4) (hn : nl l i ≤ 12) :
    zr l i (2 + nl l i) (14 - nl l i) = true ↔ ∀ q, q < 16 → (eb (rd l i)).getD q 0 = l.getD (16 * i + q) 0 := by
  rw [zr_iff]
  constructor
  · intro h q hq
    rw [eb_get hl hb hi hn q hq]
    by_cases hc : q < 2 + nl l i
    · rw [if_pos hc]
    · rw [if_neg hc]
      have := h (q - (2 + nl l i)) (by omega)
      rw [show 16 * i + (2 + nl l i) + (q - (2 + nl l i)) = 16 * i + q by omega] at this
      exact this.symm
  · intro h y hy
    have := h (2 + nl l i + y) (by omega)
    rw [eb_get hl hb hi hn _ (by omega), if_neg (by omega)] at this
    rw [show 16 * i + (2 + nl l i) + y = 16 * i + (2 + nl l i + y) by omega]
    exact this.symm
/-- The table with what the first i entries of the bytes say, from place a on. -/
def nx (f : Nat → Ent) (l : List Nat) (a i : Nat) : Nat → Ent := fun j => if a ≤ j ∧ j < a + i then rd l (j - a) else f j
theorem nx_zero (f : Nat → Ent) (l : List Nat) (a : Nat) : nx f l a 0 = f := by
  funext j
  unfold nx
  rw [if_neg (by omega)]
theorem nx_upd (f : Nat → Ent) (l : List Nat) (a i : Nat) : upd (nx f l a i) (a + i) (rd l i) = nx f l a (i + 1) := by
  funext j
  unfold upd nx
  by_cases h : j = a + i
  · subst h
    rw [if_pos rfl, if_pos (by omega), show a + i - a = i by omega]
  · rw [if_neg h]
    by_cases h2 : a ≤ j ∧ j < a + i
    · rw [if_pos h2, if_pos (by omega)]
    · rw [if_neg h2, if_neg (by omega)]
theorem nx_at (f : Nat → Ent) (l : List Nat) (a i : Nat) (hi : i < 4) : nx f l a 4 (a + i) = rd l i := by
  unfold nx
  rw [if_pos (by omega), show a + i - a = i by omega]
theorem bts_rd (f : Nat → Ent) (l : List Nat) (a : Nat) : ∀ j, j ≤ 4 → bts (nx f l a 4) a j = bts (rd l) 0 j
  | 0, _ => rfl
  | j + 1, hj => by rw [bts, bts, bts_rd f l a j (by omega), nx_at f l a j (by omega), Nat.zero_add]
theorem okE_rd (f : Nat → Ent) (l : List Nat) (a : Nat) : ∀ j, j ≤ 4 → okE (nx f l a 4) a j = okE (rd l) 0 j
  | 0, _ => rfl
  | j + 1, hj => by rw [okE, okE, okE_rd f l a j (by omega), nx_at f l a j (by omega), Nat.zero_add]
/-- Names of all entries are short enough. -/
def shortTo (l : List Nat) (j : Nat) : Prop := ∀ i, i < j → nl l i ≤ 12
theorem app_iff {a b c d : List Nat} (h : a.length = b.length) : a ++ c = b ++ d ↔ a = b ∧ c = d :=
  ⟨fun e => List.append_inj e h, fun e => by rw [e.1, e.2]⟩
theorem bts_get {l : List Nat} (hl : 64 ≤ l.length) : ∀ j, j ≤ 4 → okE (rd l) 0 j = true →
    (bts (rd l) 0 j = l.take (16 * j) ↔ ∀ i, i < j → ∀ q, q < 16 → (eb (rd l i)).getD q 0 = l.getD (16 * i + q) 0)
  | 0, _, _ => by simp [bts]
  | j + 1, hj, hok => by
    rw [okE, Bool.and_eq_true, Nat.zero_add] at hok
    have ih := bts_get hl j (by omega) hok.1
    have hlen := bts_len (rd l) 0 j hok.1
    have he := eb_len hok.2
    have hsp : l.take (16 * (j + 1)) = l.take (16 * j) ++ (l.drop (16 * j)).take 16 := by
      rw [show 16 * (j + 1) = 16 * j + 16 by omega, List.take_add]
    rw [bts, Nat.zero_add, hsp, app_iff (by rw [hlen]; simp; omega), ih]
    have h2 : eb (rd l j) = (l.drop (16 * j)).take 16 ↔ ∀ q, q < 16 → (eb (rd l j)).getD q 0 = l.getD (16 * j + q) 0 := by
      constructor
      · intro h q hq
        rw [h, getD_drop_take _ _ _ _ hq]
      · intro h
        apply List.ext_getElem?
        intro q
        by_cases hq : q < 16
        · have := h q hq
          have h3 : q < (eb (rd l j)).length := by omega
          have h4 : 16 * j + q < l.length := by omega
          rw [List.getD_eq_getElem?_getD, List.getD_eq_getElem?_getD, List.getElem?_eq_getElem h3, List.getElem?_eq_getElem h4] at this
          rw [List.getElem?_take, if_pos hq, List.getElem?_drop, List.getElem?_eq_getElem h3, List.getElem?_eq_getElem h4]
          exact congrArg some this
        · rw [List.getElem?_eq_none (by omega), List.getElem?_take, if_neg hq]
    rw [h2]
    constructor
    · rintro ⟨h5, h6⟩ i hi
      by_cases e : i = j
      · subst e; exact h6
      · exact h5 i (by omega)
    · intro h
      exact ⟨fun i hi => h i (by omega), h j (by omega)⟩
theorem okTo_iff {l : List Nat} (hs : shortTo l 4) : ∀ j, j ≤ 4 → (okTo' l j = true ↔ okE (rd l) 0 j = true ∧ ∀ i, i < j → zr l i (2 + nl l i) (14 - nl l i) = true)
  | 0, _ => by simp [okTo', okE]
  | j + 1, hj => by
    rw [okTo', okE, Bool.and_eq_true, Bool.and_eq_true, okTo_iff hs j (by omega), Nat.zero_add]
    unfold okR
    rw [decide_eq_true (hs j (by omega)), Bool.true_and, Bool.and_eq_true]
    constructor
    · rintro ⟨⟨h1, h2⟩, h3, h4⟩
      refine ⟨⟨h1, h3⟩, fun i hi => ?_⟩
      by_cases e : i = j
      · subst e; exact h4
      · exact h2 i (by omega)
    · rintro ⟨⟨h1, h3⟩, h2⟩
      exact ⟨⟨h1, fun i hi => h2 i (by omega)⟩, h3, h2 j (by omega)⟩
/-- The program's test is the document's. -/
theorem read_iff (f : Nat → Ent) {l : List Nat} (a : Nat) (hl : 64 ≤ l.length) (hb : ∀ x ∈ l, x < 256) (hs : shortTo l 4) :
    okTo' l 4 = true ↔ okE (nx f l a 4) a 4 = true ∧ bts (nx f l a 4) a 4 = l.take 64 := by
  rw [okE_rd f l a 4 (Nat.le_refl _), bts_rd f l a 4 (Nat.le_refl _), okTo_iff hs 4 (Nat.le_refl _)]
  constructor
  · rintro ⟨h1, h2⟩
    exact ⟨h1, (bts_get hl 4 (Nat.le_refl _) h1).2 fun i hi => (eb_iff hl hb hi (hs i hi)).1 (h2 i hi)⟩
  · rintro ⟨h1, h2⟩
    exact ⟨h1, fun i hi => (eb_iff hl hb hi (hs i hi)).2 ((bts_get hl 4 (Nat.le_refl _) h1).1 h2 i hi)⟩
theorem long_no {l : List Nat} {i : Nat} (hi : i < 4) (hn : 12 < nl l i) : okTo' l 4 = false :=
  okTo'_no l i (by unfold okR; rw [decide_eq_false (by omega), Bool.false_and]) 4 hi
end Go.Proofs.Ythhcgdmpbihdnaa
