/-
  THE BAG as the program holds it: New, Len, is, Send.
-/
import Derived.Test.YtmicejjlfojncaaBytes
import Derived.Maps.AppendAt
import Derived.Test.YtmicejjlfojncaaHeld
namespace Go.Proofs.Ytmicejjlfojncaa
open Go.RowKit Go.Deep
/-- A packet: to whom, its value, its bytes. -/
structure Pk where
  to : Int
  v : Value
  s : List Nat
def cont (ps : List Pk) : List (Int × List Nat) := ps.map fun p => (p.to, p.s)
def flat : List Pk → List Value
  | [] => []
  | p :: ps => .int .i64 p.to :: p.v :: flat ps
theorem flat_len : ∀ ps : List Pk, (flat ps).length = ps.length * 2
  | [] => rfl
  | p :: ps => by simp [flat, flat_len ps]; omega
theorem flat_app : ∀ (ps qs : List Pk), flat (ps ++ qs) = flat ps ++ flat qs
  | [], qs => rfl
  | p :: ps, qs => by simp [flat, flat_app ps qs]
theorem flat_get : ∀ (ps : List Pk) (k : Nat) (p : Pk), ps[k]? = some p → (flat ps)[k * 2]? = some (.int .i64 p.to) ∧ (flat ps)[k * 2 + 1]? = some p.v
  | [], k, p, h => by simp at h
  | q :: ps, 0, p, h => by
    simp at h
    subst h
    exact ⟨rfl, rfl⟩
  | q :: ps, k + 1, p, h => by
    have := flat_get ps k p (by simpa using h)
    rw [show (k + 1) * 2 = k * 2 + 2 by omega]
    exact this
/-- A bag's struct in block c, its packets in a row of its own. -/
structure Core (w : World) (T E : TypeId) (c : Nat) (v : Value) (ps : List Pk) : Prop where
  blk : w.heap[c]? = some (.cells #[v] T (0, 0))
  row : w.ownsRow 0 E 2 v ps.length (flat ps)
  ne : v.ownBlock ≠ some c
theorem Core.shape {w : World} {T E : TypeId} {c : Nat} {v : Value} {ps : List Pk} (h : Core w T E c v ps) : ∃ A cap, v = .slice A ps.length cap ∧ ps.length ≤ cap ∧ cap ≤ maxLen ∧
    (0 < ps.length → ∃ g, A = some ⟨g, 0, none⟩ ∧ g ≠ c ∧ g < w.heap.size ∧ ∀ j, j < ps.length * 2 → w.cell? ⟨g, j, none⟩ = (flat ps)[j]?) := by
  have hr := h.row
  rcases hr.2 with ⟨e, h0⟩ | ⟨g, cap, cur, rfl, hb, hg, hc, h5, h6, h7⟩
  · refine ⟨none, 0, by rw [e, h0], by omega, Nat.zero_le _, fun h => by omega⟩
  · exact ⟨_, _, rfl, hc, h5, fun _ => ⟨g, rfl, fun e => h.ne (by rw [e]; rfl), (Array.getElem?_eq_some_iff.1 hg).1, fun j hj => hr.cellAt j hj⟩⟩
theorem Core.fr {S : Nat → Prop} {w w' : World} {T E : TypeId} {c : Nat} {v : Value} {ps : List Pk} (h : Core w T E c v ps) (k : Fr S w w') (h1 : ¬ S c) (h2 : ∀ b, v.ownBlock = some b → ¬ S b) : Core w' T E c v ps := by
  refine ⟨k.blk h1 h.blk, ⟨h.row.1, ?_⟩, h.ne⟩
  rcases h.row.2 with h0 | ⟨g, cap, cur, rfl, hb, hg, r⟩
  · exact .inl h0
  · exact .inr ⟨g, cap, cur, rfl, hb, k.blk (h2 g rfl) hg, r⟩
/-- The program's bag: in block c; all that is its own lies in K. -/
structure Bag0 (w : World) (K : Nat → Prop) (c : Nat) (v : Value) (ps : List Pk) : Prop where
  core : Core w 46 49 c v ps
  kc : K c
  kv : ∀ b, v.ownBlock = some b → K b
  lt : ∀ x, K x → x < w.heap.size
  data : ∀ p ∈ ps, Byt w p.v p.s ∧ ∀ b, p.v.ownBlock = some b → K b ∧ b ≠ c ∧ v.ownBlock ≠ some b
  short : ∀ p ∈ ps, p.s.length < 1000000
def Bag (w : World) (K : Nat → Prop) (c : Nat) (l : List (Int × List Nat)) : Prop := ∃ v ps, Bag0 w K c v ps ∧ cont ps = l
theorem Bag0.fr {S K : Nat → Prop} {w w' : World} {c : Nat} {v : Value} {ps : List Pk} (h : Bag0 w K c v ps) (k : Fr S w w') (hs : ∀ x, K x → ¬ S x) : Bag0 w' K c v ps :=
  ⟨h.core.fr k (hs c h.kc) fun b hb => hs b (h.kv b hb), h.kc, h.kv, fun x hx => Nat.lt_of_lt_of_le (h.lt x hx) k.size,
    fun p hp => ⟨(h.data p hp).1.fr k fun b hb => hs b ((h.data p hp).2 b hb).1, (h.data p hp).2⟩, h.short⟩
theorem Bag.fr {S K : Nat → Prop} {w w' : World} {c : Nat} {l : List (Int × List Nat)} (h : Bag w K c l) (k : Fr S w w') (hs : ∀ x, K x → ¬ S x) : Bag w' K c l := by
  obtain ⟨v, ps, h1, h2⟩ := h
  exact ⟨v, ps, h1.fr k hs, h2⟩
theorem Bag.below {K : Nat → Prop} {w w' : World} {c : Nat} {l : List (Int × List Nat)} (h : Bag w K c l) (k : Below w.heap.size w w') : Bag w' K c l :=
  h.fr (S := fun _ => False) (Fr.of_below k) fun _ _ h => h
theorem new_any (w : World) : Calls Try.prog 6 #[] w fun e w' => ∃ c, e = .returned (.pointer (some ⟨c, 0, none⟩)) ∧ Bag w' (fun x => x = c) c [] ∧ w.heap.size ≤ c ∧ Below w.heap.size w w' := by
  go_enter Try.func6, Try.ntmps6
  go_wp2
  go_ret
  refine ⟨_, rfl, ⟨.slice none 0 0, [], ⟨⟨heap_alloc_new _ _, World.ownsRow_nil _ _ _ _, by simp [Value.ownBlock]⟩, rfl, (fun _ h => by simp [Value.ownBlock] at h), (fun x hx => by subst hx; simp), (fun _ h => by simp at h), (fun _ h => by simp at h)⟩, rfl⟩, Nat.le_refl _, (Below.refl _ _).alloc (Nat.le_refl _) _⟩
theorem len_any {K : Nat → Prop} {w : World} {c : Nat} {l : List (Int × List Nat)} (h : Bag w K c l) : Calls Try.prog 9 #[.pointer (some ⟨c, 0, none⟩)] w fun e w' => e = .returned (.int .i64 l.length) ∧ w = w' := by
  obtain ⟨v, ps, h0, rfl⟩ := h
  obtain ⟨A, cap, rfl, _, _, _⟩ := h0.core.shape
  have c0 : w.cell? ⟨c, 0, none⟩ = some (.slice A ps.length cap) := blk_cell h0.core.blk rfl
  have hl : (cont ps).length = ps.length := by simp [cont]
  have HL := Lib.hid hl
  clear hl h0
  generalize ps.length = n at *
  go_enter Try.func9, Try.ntmps9
  go_wp2
  go_ret
  exact ⟨by rw [HL.out]; rfl, rfl⟩
/-- Is there a place k? -/
theorem is_any {w : World} {K : Nat → Prop} {c : Nat} {l : List (Int × List Nat)} (h : Bag w K c l) (k : Int) : Calls Try.prog 15 #[.pointer (some ⟨c, 0, none⟩), .int .i64 k] w fun e w' => e = .returned (.bool (decide (0 ≤ k ∧ k < l.length))) ∧ w = w' := by
  obtain ⟨v, ps, h0, rfl⟩ := h
  obtain ⟨A, cap, rfl, _, _, _⟩ := h0.core.shape
  have c0 : w.cell? ⟨c, 0, none⟩ = some (.slice A ps.length cap) := blk_cell h0.core.blk rfl
  have hl : (cont ps).length = ps.length := by simp [cont]
  rw [hl]
  clear hl h0
  generalize ps.length = n at *
  have hD : ∀ b, decide (0 ≤ k ∧ k < (n : Int)) = b → Hid (decide (0 ≤ k ∧ k < (n : Int)) = b) := fun _ e => e
  have hor : k < 0 ∨ (0 ≤ k ∧ k < n) ∨ (0 ≤ k ∧ n ≤ k) := by omega
  rcases hor with k1 | ⟨k1, k2⟩ | ⟨k1, k2⟩
  · have HD := hD false (by simp; omega)
    go_enter Try.func15, Try.ntmps15
    go_wp2
    go_ret
    exact ⟨by simp; omega, rfl⟩
  · have HD := hD true (by simp; omega)
    go_enter Try.func15, Try.ntmps15
    go_wp2
    go_ret
    exact ⟨by simp; omega, rfl⟩
  · have HD := hD false (by simp; omega)
    go_enter Try.func15, Try.ntmps15
    go_wp2
    go_ret
    exact ⟨by simp; omega, rfl⟩
/-- 'append(l, p)' of a struct of two cells onto a row of one's own. -/
theorem wp_app2 {o : Oper} {a : Act} {K : Act → World → Prop} {Q : Exit → Act → World → Prop} {w : World} (T E : TypeId) (z : Value) (bytes : Nat)
    (ht : Try.prog.underlying T = some (.slice E)) (hinfo : (Try.prog.info? E).map (fun i => (i.zero, i.size, i.bytes)) = some (some z, 2, bytes)) (hz2 : z.cells.size = 2) (hby : bytes ≤ 64)
    (s x : Operand) (ho : o.op = .call { callee := .builtin .append, args := #[s, x], argTypes := #[T, T] }) {v : Value} {n : Nat} {xs : List Value} {u1 u2 : Value}
    (hs : a.eval s = v) (hown : w.ownsRow 0 E 2 v n xs) (hu1 : u1.oneCell' = true) (hu2 : u2.oneCell' = true) (hx : a.eval x = .slice (some ⟨w.heap.size, 0, none⟩) 1 1) (hn : n < 1000000)
    (h : ∀ v' w', w'.ownsRow 0 E 2 v' (n + 1) (xs ++ [u1, u2]) → w.grownBy w' v.ownBlock → (v'.ownBlock = v.ownBlock ∨ ∃ b, v'.ownBlock = some b ∧ w.heap.size ≤ b) → K (a.put o.dst v') w') : o.wp Try.prog a (w.alloc (.cells #[u1, u2] E)) K Q := by
  obtain ⟨i0, hi, hz0, hz, hb⟩ := info_parts hinfo
  obtain ⟨v', w', hr, h1, h2, _, h4⟩ := run_append_own_at (P := Try.prog) (w.alloc (.cells #[u1, u2] E)) 0 T o.type E i0 z 2 bytes ht hi hz0 hz hb hz2 (by decide) v n xs (hown.alloc _) ⟨w.heap.size, 0, none⟩ 1 1 [u1, u2] rfl (fun j y hj => by
    match j, hj with
    | 0, hj => simp at hj; subst hj; exact blk_cell (heap_alloc_new _ _) rfl
    | 1, hj => simp at hj; subst hj; exact blk_cell (heap_alloc_new _ _) rfl) (fun y hy => by
    simp at hy
    rcases hy with rfl | rfl
    · exact hu1
    · exact hu2) (by unfold maxLen; omega) (by have : (n + 1) * bytes ≤ (n + 1) * 64 := Nat.mul_le_mul_left _ hby
                                               omega) (Nat.zero_le _)
  unfold Oper.wp execOp
  simp only [ho, resolve, invoke, builtin, Sem.run_bind, Sem.run_pure, Result.andThen_ok, List.map_toArray, List.map_cons, List.map_nil, hs, hx, hr]
  refine h v' w' h1 (only_trans (World.grownBy_alloc w _ _) h2) ?_
  rcases h4 with h4 | h4
  · exact .inl h4
  · exact .inr ⟨_, h4, by simp⟩
theorem info49 : (Try.prog.info? 49).map (fun i => (i.zero, i.size, i.bytes)) = some (some (.agg #[.int .i64 0, .slice none 0 0]), 2, 32) := by kernel_rfl
theorem Fr.of_grown {S : Nat → Prop} {w w' : World} {row : Option Nat} (h : w.grownBy w' row) (hs : ∀ b, row = some b → S b) : Fr S w w' :=
  ⟨h.os, h.tape, h.output, h.size, fun k hk hn => h.block k hk fun e => hn (hs k e.symm)⟩
theorem Bag0.pushed {K : Nat → Prop} {w w' : World} {c : Nat} {v v' y : Value} {ps : List Pk} {s : List Nat} {to : Int} (hB : Bag0 w K c v ps) (hgr : w.grownBy w' v.ownBlock)
    (hown : w'.ownsRow 0 49 2 v' (ps.length + 1) (flat ps ++ [.int .i64 to, y])) (hat : v'.ownBlock = v.ownBlock ∨ ∃ b, v'.ownBlock = some b ∧ w.heap.size ≤ b)
    (hy : Byt w y s) (hyb : ∀ b, y.ownBlock = some b → ¬ K b ∧ b < w.heap.size) (hs : s.length < 1000000) :
    Bag0 (w'.setCell ⟨c, 0, none⟩ v') (fun x => K x ∨ v'.ownBlock = some x ∨ y.ownBlock = some x) c v' (ps ++ [⟨to, y, s⟩]) ∧ Fr K w (w'.setCell ⟨c, 0, none⟩ v') := by
  have hc := hB.lt c hB.kc
  have hf1 : Fr (fun x => v.ownBlock = some x) w w' := Fr.of_grown hgr fun b hb => hb
  have hvc : v'.ownBlock ≠ some c := fun e => by
    rcases hat with h | ⟨b, h, hb⟩
    · exact hB.core.ne (by rw [← h]; exact e)
    · rw [h] at e
      injection e with e
      omega
  have hfS : ∀ {S : Nat → Prop}, (∀ x, v.ownBlock = some x → S x) → S c → Fr S w (w'.setCell ⟨c, 0, none⟩ v') := fun h1 h2 => (hf1.mono h1).setCell (.inl h2) v'
  have hsz : w.heap.size ≤ (w'.setCell ⟨c, 0, none⟩ v').heap.size := (hfS (S := K) (fun x hx => hB.kv x hx) hB.kc).size
  have hown2 : (w'.setCell ⟨c, 0, none⟩ v').ownsRow 0 49 2 v' (ps.length + 1) (flat ps ++ [.int .i64 to, y]) := hown.kept (row := some c) (only_setCell ⟨rfl, rfl, rfl, Nat.le_refl _, fun _ _ _ => rfl⟩ _) (.inr hvc)
  refine ⟨⟨⟨?_, ?_, hvc⟩, .inl hB.kc, fun b hb => .inr (.inl hb), ?_, ?_, ?_⟩, hfS (fun x hx => hB.kv x hx) hB.kc⟩
  · have hb1 : w'.heap[c]? = some (.cells #[v] 46 (0, 0)) := hf1.blk (fun e => hB.core.ne e) hB.core.blk
    rw [setRow_cell w' c _ _ _ 0 hb1]
    rfl
  · rw [flat_app, List.length_append]
    exact hown2
  · rintro x (hx | hx | hx)
    · exact Nat.lt_of_lt_of_le (hB.lt x hx) hsz
    · exact (hown2.lt x hx).2
    · exact Nat.lt_of_lt_of_le (hyb x hx).2 hsz
  · intro p hp
    rcases List.mem_append.1 hp with hp | hp
    · obtain ⟨h1, h2⟩ := hB.data p hp
      refine ⟨h1.fr (hfS (S := fun x => v.ownBlock = some x ∨ x = c) (fun x hx => .inl hx) (.inr rfl)) fun b hb hS => ?_, fun b hb => ⟨.inl (h2 b hb).1, (h2 b hb).2.1, fun e => ?_⟩⟩
      · rcases hS with hS | hS
        · exact (h2 b hb).2.2 hS
        · exact (h2 b hb).2.1 hS
      · rcases hat with h | ⟨b', h, hb'⟩
        · exact (h2 b hb).2.2 (by rw [← h]; exact e)
        · rw [h] at e
          injection e with e
          have := hB.lt b (h2 b hb).1
          omega
    · simp at hp
      subst hp
      refine ⟨hy.fr (hfS (S := fun x => v.ownBlock = some x ∨ x = c) (fun x hx => .inl hx) (.inr rfl)) fun b hb hS => ?_, fun b hb => ⟨.inr (.inr hb), fun e => ?_, fun e => ?_⟩⟩
      · rcases hS with hS | hS
        · exact (hyb b hb).1 (hB.kv b hS)
        · exact (hyb b hb).1 (by rw [hS]; exact hB.kc)
      · exact (hyb b hb).1 (by rw [e]; exact hB.kc)
      · rcases hat with h | ⟨b', h, hb'⟩
        · exact (hyb b hb).1 (hB.kv b (by rw [← h]; exact e))
        · rw [h] at e
          injection e with e
          have := (hyb b hb).2
          omega
  · intro p hp
    rcases List.mem_append.1 hp with hp | hp
    · exact hB.short p hp
    · simp at hp
      subst hp
      exact hs
def okSend (to : Int) (n : Nat) : Bool := decide (0 ≤ to) && decide (to ≤ 8) && decide (n < 200)
set_option maxHeartbeats 1000000 in
theorem send_any {K : Nat → Prop} {w : World} {c : Nat} {l : List (Int × List Nat)} (h : Bag w K c l) (to : Int) {y : Value} {s : List Nat} (hy : Byt w y s) (hs : s.length < 1000000) :
    Calls Try.prog 7 #[.pointer (some ⟨c, 0, none⟩), .int .i64 to, y] w fun e w' => e = .returned (.bool (okSend to l.length)) ∧
      ∃ K', Bag w' K' c (if okSend to l.length then l ++ [(to, s)] else l) ∧ Fr K w w' ∧ ∀ x, K' x → K x ∨ w.heap.size ≤ x := by
  have H := Lib.hid h
  obtain ⟨v, ps, h0, rfl⟩ := h
  have hl : (cont ps).length = ps.length := by simp [cont]
  rw [hl]
  obtain ⟨A, cap, rfl, h1, h2, h3⟩ := h0.core.shape
  have c0 : w.cell? ⟨c, 0, none⟩ = some (.slice A ps.length cap) := blk_cell h0.core.blk rfl
  by_cases hok : 0 ≤ to ∧ to ≤ 8 ∧ ps.length < 200
  · obtain ⟨t1, t2, t3⟩ := hok
    have hk : okSend to ps.length = true := by unfold okSend; simp; omega
    rw [hk]
    have HY := Lib.hid hy
    have H0 := Lib.hid h0
    clear hk h3 h0 hy H
    generalize hn : ps.length = n at *
    have HN := Lib.hid hn
    clear hn
    go_enter Try.func7, Try.ntmps7
    go_wp2_with fail
    refine wp_region_any (by kernel_rfl) ?_
    change wpAny _ _ _ _ _ _ _ (World.drew w)
    have c0' : w.drew.cell? ⟨c, 0, none⟩ = some (.slice A n cap) := c0
    have hb0 : Below w.heap.size w w.drew := (Below.refl _ _).drew
    have HB := Lib.hid (H0.out.fr (S := fun _ => False) (Fr.of_below hb0) fun _ _ h => h)
    have HY2 := Lib.hid (HY.out.below hb0)
    have HF := Lib.hid (Fr.of_below (S := K) hb0)
    have hlt := HB.out.lt
    have hwd : w.heap.size ≤ w.drew.heap.size := Nat.le_refl _
    have hcw : c < w.drew.heap.size := HB.out.lt c HB.out.kc
    clear c0 hb0 H0 HY
    generalize w.drew = wd at *
    refine wpAny_take (i := 0) (v := .pointer (some ⟨c, 0, none⟩)) rfl (by kernel_rfl) (by kernel_rfl) (by kernel_rfl) (fun _ _ _ h => h) (Or.inl ⟨by rfl, fun w => by go_simp⟩) ?_
    refine wpAny_take (i := 1) (v := .pointer (some ⟨c, 0, none⟩)) rfl (by kernel_rfl) (by kernel_rfl) (by kernel_rfl) (fun _ _ _ h => h) (Or.inl ⟨by rfl, fun w => by go_simp⟩) ?_
    refine wpAny_take (i := 2) (v := .pointer (some ⟨c, 0, none⟩)) rfl (by kernel_rfl) (by kernel_rfl) (by kernel_rfl) (fun _ _ _ h => h) (Or.inl ⟨by rfl, fun w => by go_simp⟩) ?_
    refine wpAny_take (i := 3) (v := .pointer (some ⟨c, 0, none⟩)) rfl (by kernel_rfl) (by kernel_rfl) (by kernel_rfl) (fun _ _ _ h => h) (Or.inl ⟨by rfl, fun w => by go_simp⟩) ?_
    refine wpAny_take (i := 5) (v := .int .i64 to) rfl (by kernel_rfl) (by kernel_rfl) (by kernel_rfl) (fun _ _ _ h => h) (Or.inl ⟨by rfl, fun w => by go_simp⟩) ?_
    refine wpAny_take (i := 6) (v := y) rfl (by kernel_rfl) (by kernel_rfl) (by kernel_rfl) (fun _ _ _ h => h) (Or.inl ⟨by rfl, fun w => by go_simp⟩) ?_
    refine wpAny_takeIf (i := 4) (S := fun w' => w'.cell? ⟨c, 0, none⟩ = some (.slice A n cap)) (v := .slice A n cap) rfl (by kernel_rfl) (by kernel_rfl) (by kernel_rfl) (fun _ _ _ h => h) (Or.inl ⟨by rfl, fun w hS => by go_simp⟩) c0' ?_
    refine wpAnyB_one 7 _ (by kernel_rfl) rfl rfl (fun K hK => ?_)
    go_simp
    refine (clone_any wd HY2.out hs).mono ?_
    rintro e w1 ⟨y', rfl, hy', hyb, hb1, _⟩
    have c1 := (hb1.cell (p := ⟨c, 0, none⟩) hcw).trans c0'
    refine hK _ _ (fun _ => c1) ?_
    clear hK K
    have HY3 := Lib.hid hy'
    obtain ⟨A1, cap1, rfl, _⟩ := hy'
    have hf1 := HF.out.trans (Fr.of_below hb1)
    have hB1 := HB.out.fr (S := fun _ => False) (Fr.of_below hb1) fun _ _ h => h
    have hrow := hB1.core.row
    rw [HN.out] at hrow
    have HB1 := Lib.hid (And.intro hB1 (And.intro hf1 hyb))
    clear hB1 hf1 hyb hb1 HB HF
    refine wpAnyB_one 8 _ (by kernel_rfl) rfl rfl (fun K hK => ?_)
    go_simp
    refine hK _ _ (fun _ => c1) ?_
    clear hK K
    refine wpAnyB_one 9 _ (by kernel_rfl) rfl rfl (fun K hK => ?_)
    go_simp
    have c2 : ∀ o, (w1.alloc o).cell? ⟨c, 0, none⟩ = some (.slice A n cap) := fun o => blk_cell (blk_alloc HB1.out.1.core.blk) rfl
    refine hK _ _ (fun _ => c2 _) ?_
    clear hK K
    refine wpAnyB_one 10 _ (by kernel_rfl) rfl rfl (fun K hK => ?_)
    refine wp_app2 (v := .slice A n cap) (n := n) (xs := flat ps) (u1 := .int .i64 to) (u2 := .slice A1 s.length cap1) 44 49 _ 32 Try.underlying44 info49 rfl (by decide) _ _ rfl rfl hrow rfl rfl rfl (by omega) ?_
    intro v' w' hown' hgr' hat'
    obtain ⟨A', cap', rfl⟩ : ∃ A' cap', v' = .slice A' (n + 1) cap' := by
      rcases hown'.2 with ⟨_, h0⟩ | ⟨g, cap, cur, e, _⟩
      · omega
      · exact ⟨_, _, e⟩
    refine hK _ _ (fun h => by cases (show true = false from h)) ?_
    clear hK K
    refine wpAnyB_one 11 _ (by kernel_rfl) rfl rfl (fun K hK => ?_)
    go_simp
    refine hK _ _ (fun h => by cases (show true = false from h)) ?_
    clear hK K
    refine wpAnyB_one 12 _ (by kernel_rfl) rfl rfl (fun K hK => ?_)
    go_simp
    refine hK _ _ (fun h => by cases (show true = false from h)) ?_
    clear hK K
    have hp := HB1.out.1.pushed (to := to) (s := s) hgr' (by rw [HN.out]; exact hown') hat' HY3.out (fun b hb => ⟨fun hk => by have := (HB1.out.2.2 b hb).1; have := hlt b hk; omega, (HB1.out.2.2 b hb).2⟩) hs
    have hb3 : w'.heap[c]? = some (.cells #[.slice A n cap] 46 (0, 0)) := (Fr.of_grown (S := fun x => Value.ownBlock (.slice A n cap) = some x) hgr' fun b hb => hb).blk (fun e => HB1.out.1.core.ne e) HB1.out.1.core.blk
    have c3 : w'.cell? ⟨c, 0, none⟩ = some (.slice A n cap) := blk_cell hb3 rfl
    have f3 : w'.frozen? ⟨c, 0, none⟩ = false := frozen_of_row _ _ _ _ _ hb3
    refine wpAnyB_one 13 _ (by kernel_rfl) rfl rfl (fun K hK => ?_)
    go_simp
    refine hK _ _ (fun h => by cases (show true = false from h)) ?_
    clear hK K
    refine wpAnyB_done (by kernel_rfl) ?_ _
    go_wp2
    go_ret
    refine ⟨rfl, _, ⟨_, _, hp.1, by simp [cont]⟩, HB1.out.2.1.trans hp.2, ?_⟩
    rintro x (hx | hx | hx)
    · exact .inl hx
    · rcases hat' with h | ⟨b, h, hb⟩
      · exact .inl (HB1.out.1.kv x (by rw [← h]; exact hx))
      · rw [h] at hx
        injection hx with hx
        have := HB1.out.2.1.size
        exact .inr (by omega)
    · have := (HB1.out.2.2 x hx).1
      exact .inr (by omega)
  · have hk : okSend to ps.length = false := by unfold okSend; simp; omega
    rw [hk]
    clear h0 h3 hy hk
    generalize hn : ps.length = n at *
    have HN := Lib.hid hn
    clear hn
    have hor : to < 0 ∨ (0 ≤ to ∧ 8 < to) ∨ (0 ≤ to ∧ to ≤ 8 ∧ 200 ≤ n) := by omega
    clear hok
    rcases hor with k1 | ⟨k1, k2⟩ | ⟨k1, k2, k3⟩
    all_goals
      go_enter Try.func7, Try.ntmps7
      go_wp2
      go_ret
      exact ⟨rfl, K, H.out, Fr.refl _ _, fun x hx => .inl hx⟩
end Go.Proofs.Ytmicejjlfojncaa
