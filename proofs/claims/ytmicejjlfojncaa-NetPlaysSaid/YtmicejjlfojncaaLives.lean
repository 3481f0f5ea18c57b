/-
  lives: the document's example; a slice of bytes as a string.
-/
import Derived.Test.YtmicejjlfojncaaTake
namespace Go.Proofs.Ytmicejjlfojncaa
open Go.RowKit Go.Deep
/-- Bytes as a string. -/
def str (l : List Nat) : ByteArray := (l.map fun (n : Nat) => (n : Int)).foldl (fun r n => r.push (UInt8.ofNat n.toNat)) ByteArray.empty
theorem run_str {w : World} {v : Value} {l : List Nat} (h : Byt w v l) : (convert 22 9 v).run Try.prog w = .ok (.string (str l)) w := by
  obtain ⟨A, cap, rfl, h1, h2, h3, h4⟩ := h
  rw [run_convert_bytes_string w 22 9 5 A _ _ Try.underlying22 Try.underlying5 Try.underlying9]
  cases A with
  | none =>
    obtain rfl := h3 rfl
    obtain rfl : l = [] := List.eq_nil_of_length_eq_zero (Nat.le_zero.1 h1)
    rfl
  | some a =>
    refine run_bytesToString w a _ _ _ ?_
    have hl := run_loadCells (P := Try.prog) w a l.length (fun j => Value.int .u8 (l.getD j 0 : Nat)) (fun j hj => by
      obtain ⟨b, off, e, hb, hc⟩ := h4 (by omega)
      injection e with e
      subst e
      have hadd : (⟨b, off, none⟩ : Addr).add j = ⟨b, off + j, none⟩ := by unfold Addr.add; split <;> simp_all
      rw [hadd]
      exact hc j hj)
    rw [hl]
    congr 1
    apply Array.ext'
    simp only [List.map_map]
    apply List.ext_getElem
    · simp
    · intro i h1 h2
      have : i < l.length := by simpa using h1
      simp [this]
theorem byt_one (w : World) (x : Nat) (fr : Nat × Nat) : Byt (w.alloc (.cells #[.int .u8 (x : Int)] 5 fr)) (.slice (some ⟨w.heap.size, 0, none⟩) 1 1) [x] :=
  ⟨_, _, rfl, Nat.le_refl _, by unfold maxLen; decide, (fun h => by cases h), fun _ => ⟨_, _, rfl, by simp, fun j hj => by
    have : j = 0 := by simp at hj; omega
    subst this
    exact blk_cell (heap_alloc_new _ _) rfl⟩⟩
/-- '[]byte("a")': the new row bears the run-time's mark. -/
theorem conv22 (x : Value) (n c : Nat) (w : World) : (convert 22 22 (.slice (some ⟨w.heap.size, 0, none⟩) n c)).run Try.prog (w.alloc (.cells #[x] 5)) = .ok (.slice (some ⟨w.heap.size, 0, none⟩) n c) (w.alloc (.cells #[x] 5 (1, 2))) := by
  have hsh : (w.alloc (.cells #[x] 5)).shape? w.heap.size = some (5, 1) := by
    have : (w.alloc (.cells #[x] 5)).heap[w.heap.size]? = some (.cells #[x] 5) := heap_alloc_new _ _
    unfold World.shape?
    rw [this]
    rfl
  have hfr : (w.alloc (.cells #[x] 5)).freeze ⟨w.heap.size, 1, none⟩ 1 = w.alloc (.cells #[x] 5 (1, 2)) := by
    have hm : ∀ (a : Array Obj) (x : Obj) (f : Obj → Obj), (a.push x).modify a.size f = a.push (f x) := by
      intro a x f
      apply Array.ext
      · simp
      · intro i h1 h2
        simp only [Array.getElem_modify, Array.getElem_push]
        by_cases h : a.size = i
        · subst h
          simp
        · have hi : i < a.size := by simp at h1; omega
          simp [h, hi]
    unfold World.freeze
    rw [if_neg (by decide)]
    show ({ w.alloc (.cells #[x] 5) with heap := (w.heap.push (.cells #[x] 5)).modify w.heap.size _ } : World) = _
    rw [hm]
    rfl
  unfold convert
  simp only [Sem.run_bind, run_underlying Try.underlying22, Result.andThen_ok, run_underlying Try.underlying5]
  simp [markStringish, hsh, hfr]
theorem Bag.lt {w : World} {K : Nat → Prop} {c : Nat} {l : List (Int × List Nat)} (h : Bag w K c l) {x : Nat} (hx : K x) : x < w.heap.size := by
  obtain ⟨v, ps, h1, _⟩ := h
  exact h1.lt x hx
/-- A bag and what was done to it, since a world w0. -/
structure Had (w0 w : World) (K : Nat → Prop) (c : Nat) (l : List (Int × List Nat)) : Prop where
  bag : Bag w K c l
  low : ∀ x, K x → w0.heap.size ≤ x
  bel : Below w0.heap.size w0 w
theorem Had.below {w0 w w' : World} {K : Nat → Prop} {c : Nat} {l : List (Int × List Nat)} (h : Had w0 w K c l) (k : Below w.heap.size w w') : Had w0 w' K c l := ⟨h.bag.below k, h.low, below_then h.bel k⟩
theorem Had.alloc {w0 w : World} {K : Nat → Prop} {c : Nat} {l : List (Int × List Nat)} (h : Had w0 w K c l) (o : Obj) : Had w0 (w.alloc o) K c l := h.below ((Below.refl _ _).alloc (Nat.le_refl _) o)
theorem Had.turned {w0 w w' : World} {K K' : Nat → Prop} {c : Nat} {l l' : List (Int × List Nat)} (h : Had w0 w K c l) (hb : Bag w' K' c l') (hf : Fr K w w') (hk : ∀ x, K' x → K x ∨ w.heap.size ≤ x) : Had w0 w' K' c l' :=
  ⟨hb, fun x hx => (hk x hx).elim (h.low x) fun h2 => Nat.le_trans h.bel.size h2, h.bel.trans (hf.below h.bel.size h.low)⟩
set_option maxRecDepth 100000 in
set_option maxHeartbeats 4000000 in
theorem lives_any (w : World) : Calls Try.prog 10 #[] w fun e w' => e = .returned (.bool true) ∧ Below w.heap.size w w' := by
  have s98 : str [98] = ⟨#[98]⟩ := by kernel_rfl
  have s97 : str [97] = ⟨#[97]⟩ := by kernel_rfl
  have HS := Lib.hid (And.intro s98 s97)
  clear s98 s97
  have q22 := conv22
  go_enter Try.func10, Try.ntmps10
  go_wp2_with fail
  refine (new_any _).mono ?_
  rintro e w1 ⟨c, rfl, hB1, hc1, hb1⟩
  have H1 := Lib.hid (show Had w w1 (fun x => x = c) c [] from ⟨hB1, fun x hx => by rw [hx]; exact hc1, hb1⟩)
  clear hB1 hb1
  go_wp2_with fail
  refine (send_any (H1.out.alloc _).bag 1 (byt_one w1 97 _) (by decide)).mono ?_
  rintro e w2 ⟨rfl, K2, hB2, hF2, hK2⟩
  have H2 := Lib.hid ((H1.out.alloc _).turned hB2 hF2 hK2)
  clear hB2 hF2 hK2
  rw [show okSend 1 (List.length ([] : List (Int × List Nat))) = true from rfl] at *
  go_wp2_with fail
  refine (send_any (H2.out.alloc _).bag 2 (byt_one w2 98 _) (by decide)).mono ?_
  rintro e w3 ⟨rfl, K3, hB3, hF3, hK3⟩
  have H3 := Lib.hid ((H2.out.alloc _).turned hB3 hF3 hK3)
  clear hB3 hF3 hK3
  have H3' : Hid (Had w w3 K3 c [(1, [97]), (2, [98])]) := H3.out
  clear H3
  go_wp2_with fail
  refine (take_in H3'.out.bag 1 (by decide) true).mono ?_
  rintro e w4 ⟨v4, rfl, hy4, hyb4, hB4, hF4, _⟩
  have H4 := Lib.hid (show Had w w4 K3 c [(1, [97]), (2, [98])] from H3'.out.turned hB4 hF4 fun x hx => .inl hx)
  have HY4 := Lib.hid hy4
  obtain ⟨A4, cap4, rfl, _⟩ := hy4
  go_wp2_with fail
  refine (len_any H4.out.bag).mono ?_
  rintro e w5 ⟨rfl, rfl⟩
  go_wp2_with fail
  refine (take_in H4.out.bag 0 (by decide) false).mono ?_
  rintro e w6 ⟨v6, rfl, hy6, hyb6, hB6, hF6, _⟩
  have H6 := Lib.hid (show Had w w6 K3 c [(2, [98])] from H4.out.turned hB6 hF6 fun x hx => .inl hx)
  have hy46 : Byt w6 (.slice A4 1 cap4) [98] := HY4.out.fr hF6 fun b hb hk => by
    have := (hyb4 b hb).1
    have := H3'.out.bag.lt hk
    omega
  have r6 : (convert 22 9 (.slice A4 1 cap4)).run Try.prog w6 = .ok (.string ⟨#[98]⟩) w6 := by rw [← HS.out.1]; exact run_str hy46
  have hy6' : Byt w6 v6 [97] := hy6
  obtain ⟨A6, cap6, rfl, _⟩ := hy6
  have r7 : (convert 22 9 (.slice A6 1 cap6)).run Try.prog w6 = .ok (.string ⟨#[97]⟩) w6 := by rw [← HS.out.2]; exact run_str hy6'
  have HLEN := Lib.hid (len_any H6.out.bag)
  clear hy6' hy46 hB6 hF6 hyb6 hyb4 hF4 hB4
  go_wp2_with (go_at_call 9; refine (HLEN.out).mono ?_; rintro e w7 ⟨rfl, rfl⟩)
  go_ret
  exact ⟨rfl, H6.out.bel⟩
end Go.Proofs.Ytmicejjlfojncaa
