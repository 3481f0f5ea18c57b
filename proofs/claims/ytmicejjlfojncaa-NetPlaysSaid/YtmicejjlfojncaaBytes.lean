/-
  BYTES as the program holds them: slices.Clone; a string of them.
-/
import Derived.Test.YtmicejjlfojncaaBase
import Derived.Laws.BytesString
import Derived.Deep.Upon
namespace Go.Proofs.Ytmicejjlfojncaa
open Go.RowKit Go.Deep
/-- A slice of bytes: what they are, where they lie. -/
def Byt (w : World) (v : Value) (l : List Nat) : Prop :=
  ∃ A cap, v = .slice A l.length cap ∧ l.length ≤ cap ∧ cap ≤ maxLen ∧ (A = none → cap = 0) ∧
   (0 < l.length → ∃ b off, A = some ⟨b, off, none⟩ ∧ b < w.heap.size ∧ ∀ j, j < l.length → w.cell? ⟨b, off + j, none⟩ = some (.int .u8 (l.getD j 0 : Nat)))
theorem Byt.fr {S : Nat → Prop} {w w' : World} {v : Value} {l : List Nat} (h : Byt w v l) (k : Fr S w w') (hs : ∀ b, v.ownBlock = some b → ¬ S b) : Byt w' v l := by
  obtain ⟨A, cap, rfl, h1, h2, h3, h4⟩ := h
  refine ⟨A, cap, rfl, h1, h2, h3, fun h0 => ?_⟩
  obtain ⟨b, off, rfl, hb, hc⟩ := h4 h0
  exact ⟨b, off, rfl, Nat.lt_of_lt_of_le hb k.size, fun j hj => k.cell (hs b rfl) (hc j hj)⟩
theorem Byt.below {w w' : World} {v : Value} {l : List Nat} (h : Byt w v l) (k : Below w.heap.size w w') : Byt w' v l := h.fr (S := fun _ => False) (Fr.of_below k) fun _ _ h => h
theorem Byt.nil (w : World) : Byt w (.slice none 0 0) [] := ⟨none, 0, rfl, Nat.le_refl _, Nat.zero_le _, fun _ => rfl, fun h => absurd h (Nat.lt_irrefl 0)⟩
/-- Bytes in a row of one's own. -/
def bl (l : List Nat) : List Value := l.map fun (x : Nat) => .int .u8 (x : Int)
theorem bl_get (l : List Nat) (j : Nat) (h : j < l.length) : (bl l)[j]? = some (.int .u8 (l.getD j 0 : Nat)) := by simp [bl, h]
theorem byt_own {w : World} {B : Nat} {v : Value} {l : List Nat} (h : w.ownsRow B 5 1 v l.length (bl l)) : Byt w v l := by
  have h' := h
  rcases h.2 with ⟨rfl, h0⟩ | ⟨g, cap, cur, rfl, hb, hg, hc, h5, h6, h7⟩
  · have : l = [] := List.eq_nil_of_length_eq_zero h0
    subst this
    exact Byt.nil w
  · exact ⟨some ⟨g, 0, none⟩, cap, rfl, hc, h5, (fun h => by cases h), fun h0 => ⟨g, 0, rfl, (Array.getElem?_eq_some_iff.1 hg).1, fun j hj => by
      rw [Nat.zero_add, h'.cellAt j (by omega), bl_get l j hj]⟩⟩
theorem info5 : (Try.prog.info? 5).map (fun i => (i.zero, i.size, i.bytes)) = some (some (.int .u8 0), 1, 1) := by kernel_rfl
/-- 'append(own, bytes...)'. -/
theorem wpl_appb {ops : Array Oper} {rest : List Oper} {o : Oper} {a : Act} {Q : Exit → Act → World → Prop} {w w0 : World} {B : Nat}
    (hgd : o.guard = none) (s x : Operand) (ho : o.op = .call { callee := .builtin .append, args := #[s, x], argTypes := #[22, 22] }) {v y : Value} {n : Nat} {xs : List Value} {l : List Nat}
    (hs : a.eval s = v) (hown : w.ownsRow B 5 1 v n xs) (hbel : Below B w0 w) (hB : B ≤ w.heap.size) (hx : a.eval x = y) (hy : Byt w y l) (hn : n + l.length < 1000000000)
    (h : ∀ v' w', w'.ownsRow B 5 1 v' (n + l.length) (xs ++ bl l) → Below B w0 w' → B ≤ w'.heap.size → w.grownBy w' v.ownBlock → wpList Try.prog ops Q rest (a.put o.dst v') w') : wpList Try.prog ops Q (o :: rest) a w := by
  obtain ⟨i0, hi, hz0, hz, hb⟩ := info_parts info5
  obtain ⟨A, cap, rfl, h1, h2, h3, h4⟩ := hy
  cases A with
  | none =>
    obtain rfl := h3 rfl
    obtain rfl : l = [] := List.eq_nil_of_length_eq_zero (Nat.le_zero.1 h1)
    refine wpList_plain hgd fun K hK => ?_
    obtain ⟨A, c, rfl, hc⟩ : ∃ A c, v = .slice A n c ∧ n ≤ c := by
      rcases hown.2 with ⟨rfl, rfl⟩ | ⟨g, cap, cur, rfl, _, _, k, _⟩
      · exact ⟨none, 0, rfl, Nat.le_refl _⟩
      · exact ⟨_, _, rfl, k⟩
    have hr := run_append_nothing (P := Try.prog) w 22 22 o.type 5 i0 Try.underlying22 hi A n c hc (.slice none 0 0) (by rw [hz]; exact Src.ofNil (P := Try.prog) w Try.underlying22 0)
    unfold Oper.wp execOp
    simp only [ho, resolve, invoke, builtin, Sem.run_bind, Sem.run_pure, Result.andThen_ok, List.map_toArray, List.map_cons, List.map_nil, hs, hx, List.length_nil, hr]
    exact hK _ _ (h _ _ (by simpa [bl] using hown) hbel hB ⟨rfl, rfl, rfl, Nat.le_refl _, fun _ _ _ => rfl⟩)
  | some ad =>
    refine wpList_append_own _ hgd s x 22 ho B 5 i0 _ 1 1 Try.underlying22 hi hz0 hz hb rfl (by decide) v n xs hs hown ad l.length cap (bl l) hx (by simp [bl]) ?_ ?_ (by unfold maxLen; omega) (by omega) hB ?_
    · intro j u hj
      have hjl : j < l.length := by
        have := (List.getElem?_eq_some_iff.1 hj).1
        simpa [bl] using this
      obtain ⟨b, off, e, hb, hc⟩ := h4 (by omega)
      injection e with e
      subst e
      rw [bl_get l j hjl] at hj
      injection hj with hj
      subst hj
      have hadd : (⟨b, off, none⟩ : Addr).add j = ⟨b, off + j, none⟩ := by unfold Addr.add; split <;> simp_all
      rw [hadd]
      exact hc j hjl
    · intro u hu
      obtain ⟨_, _, rfl⟩ := List.mem_map.1 hu
      rfl
    · intro v' w' k1 k2 _
      exact h v' w' k1 (hbel.grown k2 hB fun k hk => (hown.lt k hk).1) (Nat.le_trans hB k2.size) k2
set_option maxHeartbeats 1000000 in
/-- slices.Clone of bytes. -/
theorem clone_any {v : Value} {l : List Nat} (w : World) (h : Byt w v l) (hn : l.length < 1000000) :
    Calls Try.prog 14 #[v] w fun e w' => ∃ v', e = .returned v' ∧ Byt w' v' l ∧ (∀ b, v'.ownBlock = some b → w.heap.size ≤ b ∧ b < w'.heap.size) ∧ Below w.heap.size w w' ∧ w'.ownsRow w.heap.size 5 1 v' l.length (bl l) := by
  have h' := h
  obtain ⟨A, cap, rfl, h1, h2, h3, h4⟩ := h
  have HB := Lib.hid h'
  clear h'
  cases A with
  | none =>
    obtain rfl := h3 rfl
    obtain rfl : l = [] := List.eq_nil_of_length_eq_zero (Nat.le_zero.1 h1)
    clear h4 h3 h2 h1
    have q22 := fun (w : World) (a : Option Addr) (n c n' c' : Nat) => Lib.run_eql_slice_nil (P := Try.prog) w _ _ a n c n' c' Try.underlying22
    go_enter Try.func14, Try.ntmps14
    go_wp2
    go_ret
    exact ⟨_, rfl, Byt.nil _, (fun _ h => by simp [Value.ownBlock] at h), Below.refl _ _, World.ownsRow_nil _ _ _ _⟩
  | some ad =>
    clear h4 h3
    have hb0 : Byt (w.alloc (.cells #[] 5)) (.slice (some ad) l.length cap) l := HB.out.below ((Below.refl _ _).alloc (Nat.le_refl _) _)
    have HB0 := Lib.hid hb0
    clear hb0
    have q22 := fun (w : World) (a : Option Addr) (n c n' c' : Nat) => Lib.run_eql_slice_nil (P := Try.prog) w _ _ a n c n' c' Try.underlying22
    go_enter Try.func14, Try.ntmps14
    go_wp2_with (at_builtin; refine wpl_appb (n := 0) (xs := []) rfl _ _ rfl rfl (World.ownsRow_made w #[] 0 (Nat.le_refl _) (Nat.zero_le _) rfl) ((Below.refl _ _).alloc (Nat.le_refl _) _) (by simp) rfl HB0.out (by omega) ?_; intro v' w' hown' hbel' hB' hgr')
    go_ret
    rw [Nat.zero_add, List.nil_append] at hown'
    exact ⟨v', rfl, byt_own hown', fun b hb => hown'.lt b hb, hbel', hown'⟩
end Go.Proofs.Ytmicejjlfojncaa
