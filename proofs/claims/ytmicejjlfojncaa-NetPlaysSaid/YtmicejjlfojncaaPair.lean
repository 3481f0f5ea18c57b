/-
  THE TWO BAGS side by side: the program's and the reference's, each in blocks of its own.
-/
import Derived.Test.YtmicejjlfojncaaLose
import Derived.Test.YtmicejjlfojncaaRTake
import Derived.Test.YtmicejjlfojncaaRLose
namespace Go.Proofs.Ytmicejjlfojncaa
open Go.RowKit Go.Deep
structure Pair (w0 w : World) (K K' : Nat → Prop) (c c' : Nat) (l l' : List (Int × List Nat)) : Prop where
  b : Bag w K c l
  r : RBag w K' c' l'
  apart : ∀ x, K x → ¬ K' x
  low : ∀ x, K x → w0.heap.size ≤ x
  low' : ∀ x, K' x → w0.heap.size ≤ x
  bel : Below w0.heap.size w0 w
theorem RBag.lt {w : World} {K : Nat → Prop} {c : Nat} {l : List (Int × List Nat)} (h : RBag w K c l) {x : Nat} (hx : K x) : x < w.heap.size := by
  obtain ⟨v, ps, h1, _⟩ := h
  exact h1.lt x hx
section
variable {w0 w w' : World} {K K' K2 : Nat → Prop} {c c' : Nat} {l l' l2 : List (Int × List Nat)}
theorem Pair.below (h : Pair w0 w K K' c c' l l') (k : Below w.heap.size w w') : Pair w0 w' K K' c c' l l' := ⟨h.b.below k, h.r.below k, h.apart, h.low, h.low', below_then h.bel k⟩
theorem Pair.alloc (h : Pair w0 w K K' c c' l l') (o : Obj) : Pair w0 (w.alloc o) K K' c c' l l' := h.below ((Below.refl _ _).alloc (Nat.le_refl _) o)
theorem Pair.left (h : Pair w0 w K K' c c' l l') (hb : Bag w' K2 c l2) (hf : Fr K w w') (hk : ∀ x, K2 x → K x ∨ w.heap.size ≤ x) : Pair w0 w' K2 K' c c' l2 l' :=
  ⟨hb, h.r.fr hf fun x hx hK => h.apart x hK hx, fun x hx hx' => (hk x hx).elim (fun hK => h.apart x hK hx') (fun hs => by have := h.r.lt hx'; omega),
    fun x hx => (hk x hx).elim (h.low x) fun hs => Nat.le_trans h.bel.size hs, h.low', h.bel.trans (hf.below h.bel.size h.low)⟩
theorem Pair.right (h : Pair w0 w K K' c c' l l') (hb : RBag w' K2 c' l2) (hf : Fr K' w w') (hk : ∀ x, K2 x → K' x ∨ w.heap.size ≤ x) : Pair w0 w' K K2 c c' l l2 :=
  ⟨h.b.fr hf fun x hx hK => h.apart x hx hK, hb, fun x hx hx' => (hk x hx').elim (h.apart x hx) (fun hs => by have := h.b.lt hx; omega),
    h.low, fun x hx => (hk x hx).elim (h.low' x) fun hs => Nat.le_trans h.bel.size hs, h.bel.trans (hf.below h.bel.size h.low')⟩
theorem Pair.nk (h : Pair w0 w K K' c c' l l') {x : Nat} (hx : w.heap.size ≤ x) : ¬ K x := fun hk => by have := h.b.lt hk; omega
theorem Pair.nk' (h : Pair w0 w K K' c c' l l') {x : Nat} (hx : w.heap.size ≤ x) : ¬ K' x := fun hk => by have := h.r.lt hk; omega
end
section
variable {P : Program} {md : Region.Mode} {ops : Array Oper} {Q : Exit → Act → World → Prop} {S : World → Prop}
/-- One operation alone may come up. -/
theorem wpAnyH_one {fuel : Nat} {listed : Array Bool} {a : Act} {w : World} (j : Nat) (o : Oper) (hr : Region.ready md ops listed = [j]) (ho : ops[j]? = some o)
    (hw : Region.wanted o (yielded ops a.tmps) = true) (h : ∀ K : Act → World → Prop, (∀ a w, S w → wpAnyH P md ops Q S fuel (listed.setIfInBounds j true) a w → K a w) → o.wp P a w K Q) : wpAnyH P md ops Q S (fuel + 1) listed a w := by
  refine wpAnyH_all hr (by simp) fun k hk => ?_
  obtain rfl : k = j := by simpa using hk
  unfold wpOp
  simp only [ho]
  rw [if_pos hw]
  exact .inl (h _ fun a' w' h1 h2 => ⟨h1, h2⟩)
end
/-- The first bytes of some. -/
theorem Byt.first {w : World} {A : Option Addr} {cap : Nat} {s : List Nat} (h : Byt w (.slice A s.length cap) s) (k : Nat) (hk : k ≤ s.length) : Byt w (.slice A k cap) (s.take k) := by
  obtain ⟨A', cap', he, h1, h2, h3, h4⟩ := h
  injection he with e1 e2 e3
  subst e1 e3
  have hl : (s.take k).length = k := by simp; omega
  refine ⟨A, cap, by rw [hl], by omega, h2, h3, fun h0 => ?_⟩
  obtain ⟨b, off, h5, h6, h7⟩ := h4 (by omega)
  refine ⟨b, off, h5, h6, fun j hj => ?_⟩
  rw [h7 j (by omega)]
  simp [List.getD_eq_getElem?_getD, show j < k by omega]
end Go.Proofs.Ytmicejjlfojncaa
