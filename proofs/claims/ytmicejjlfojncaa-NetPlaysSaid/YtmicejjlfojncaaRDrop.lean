/-
  The reference's Drop and Lose.
-/
import Derived.Test.YtmicejjlfojncaaKeep
namespace Go.Proofs.Ytmicejjlfojncaa
open Go.RowKit Go.Deep
theorem wpl_appr {ops : Array Oper} {rest : List Oper} {o : Oper} {a : Act} {Q : Exit → Act → World → Prop} {w : World} {B : Nat} (hgd : Region.wanted o (yielded ops a.tmps) = true)
    (s x : Operand) (ho : o.op = .call { callee := .builtin .append, args := #[s, x], argTypes := #[36, 36] }) {v : Value} {n : Nat} {xs : List Value} {u1 u2 : Value}
    (hs : a.eval s = v) (hown : w.ownsRow B 57 2 v n xs) (hu1 : u1.oneCell' = true) (hu2 : u2.oneCell' = true) {gx : Nat} (hx : a.eval x = .slice (some ⟨gx, 0, none⟩) 1 1) (hgx : w.heap.size = gx) (hn : n < 1000000) (hB : B ≤ w.heap.size)
    (h : ∀ v' w', w'.ownsRow B 57 2 v' (n + 1) (xs ++ [u1, u2]) → w.grownBy w' v.ownBlock → wpList Try.prog ops Q rest (a.put o.dst v') w') : wpList Try.prog ops Q (o :: rest) a (w.alloc (.cells #[u1, u2] 57)) := by
  subst hgx
  refine wpl_on hgd fun K hK => ?_
  obtain ⟨i0, hi, hz0, hz, hb⟩ := info_parts info57
  obtain ⟨v', w', hr, h1, h2, _, h4⟩ := run_append_own_at (P := Try.prog) (w.alloc (.cells #[u1, u2] 57)) B 36 o.type 57 i0 _ 2 24 Try.underlying36 hi hz0 hz hb rfl (by decide) v n xs (hown.alloc _) ⟨w.heap.size, 0, none⟩ 1 1 [u1, u2] rfl (fun j y hj => by
    match j, hj with
    | 0, hj => simp at hj; subst hj; exact blk_cell (heap_alloc_new _ _) rfl
    | 1, hj => simp at hj; subst hj; exact blk_cell (heap_alloc_new _ _) rfl) (fun y hy => by
    simp at hy
    rcases hy with rfl | rfl
    · exact hu1
    · exact hu2) (by unfold maxLen; omega) (by omega) (by simp; omega)
  unfold Oper.wp execOp
  simp only [ho, resolve, invoke, builtin, Sem.run_bind, Sem.run_pure, Result.andThen_ok, List.map_toArray, List.map_cons, List.map_nil, hs, hx, hr]
  exact hK _ _ (h v' w' h1 (only_trans (World.grownBy_alloc w _ _) h2))
theorem own_shape2 {w : World} {B : Nat} {e : TypeId} {v : Value} {n : Nat} {xs : List Value} (h : w.ownsRow B e 2 v n xs) : ∃ A cap, v = .slice A n cap := by
  rcases h.2 with ⟨rfl, h0⟩ | ⟨g, cap, cur, rfl, _⟩
  · exact ⟨none, 0, by rw [h0]⟩
  · exact ⟨_, _, rfl⟩
set_option maxHeartbeats 1000000 in
theorem rdrop_in {K : Nat → Prop} {w : World} {c : Nat} {v : Value} {ps : List Pk} (h0 : RBag0 w K c v ps) (hl : ps.length ≤ 200) (k : Nat) (hk : k < ps.length) :
    Calls Try.prog 20 #[.pointer (some ⟨c, 0, none⟩), .int .i64 k] w fun e w' => e = .returned (.bool true) ∧ ∃ K', RBag w' K' c ((cont ps).eraseIdx k) ∧ Fr K w w' ∧ ∀ x, K' x → K x ∨ w.heap.size ≤ x := by
  obtain ⟨A, cap, rfl, h1, h2, h3⟩ := h0.core.shape
  obtain ⟨g, rfl, hgc, hgl, hcell⟩ := h3 (by omega)
  have H0 := Lib.hid h0
  have hcl : c < w.heap.size := h0.lt c h0.kc
  have c0 : w.cell? ⟨c, 0, none⟩ = some (.slice (some ⟨g, 0, none⟩) ps.length cap) := blk_cell h0.core.blk rfl
  have HCELL := Lib.hid hcell
  have hkl : (k : Int) < (ps.length : Int) := by omega
  have hkd : decide (((k : Nat) : Int) < 0) = false := decide_eq_false (by omega)
  clear h0 hcell h3
  go_enter Try.func20, Try.ntmps20
  go_wp2
  go_loopw [5, 6] (fun r i wr => ∃ m : Nat, m ≤ ps.length ∧ i = .int .i64 m ∧ wr.ownsRow w.heap.size 57 2 r (keep (fun i _ => i != k) ps m).length (flat (keep (fun i _ => i != k) ps m)) ∧ Below w.heap.size w wr) (fun _ i _ => ps.length - (intOf i).toNat)
  case atStart => exact ⟨0, Nat.zero_le _, rfl, World.ownsRow_nil _ _ _ _, Below.refl _ _⟩
  case round =>
    obtain ⟨m, hm, rfl, hown, hbel⟩ := hrel
    have HB := Lib.hid hbel
    have HO := Lib.hid hown
    have hsz := hbel.size
    have c1 := (hbel.cell (p := ⟨c, 0, none⟩) hcl).trans c0
    have hkp := keep_len (fun i _ => i != k) ps m
    obtain ⟨Ar, cr, rfl⟩ := own_shape2 hown
    clear hbel hown
    by_cases hlt : m < ps.length
    · have hmem : ps[m]? = some (ps[m]'hlt) := List.getElem?_eq_getElem _
      have hst := keep_succ (fun i _ => i != k) ps m _ hmem
      obtain ⟨f0, f1⟩ := flat_get ps m _ hmem
      have hpm := List.mem_of_getElem? hmem
      have hpv := H0.out.data _ hpm
      generalize ps[m]'hlt = p at *
      rw [hpv] at f1
      have d0 := ((HB.out.cell (p := ⟨g, m * 2, none⟩) hgl).trans (HCELL.out (m * 2) (by omega))).trans f0
      have d1 := ((HB.out.cell (p := ⟨g, m * 2 + 1, none⟩) hgl).trans (HCELL.out (m * 2 + 1) (by omega))).trans f1
      have HPV := Lib.hid hpv
      have HFL : Hid (∀ qs : List Pk, flat (qs ++ [p]) = flat qs ++ [.int .i64 p.to, .string (str p.s)]) := Lib.hid fun qs => by rw [flat_app]; simp [flat, HPV.out]
      have HBA : Hid (∀ o, Below w.heap.size w (wr.alloc o)) := Lib.hid fun o => HB.out.alloc hsz o
      have hd : ((m : Nat) : Int) < ((ps.length : Nat) : Int) := by omega
      clear hmem f0 f1 hpm hpv c0
      by_cases hmk : m = k
      · have HST : Hid (keep (fun i _ => i != k) ps (m + 1) = keep (fun i _ => i != k) ps m) := Lib.hid (by rw [hst]; simp [hmk])
        clear hst
        go_wp2
        exact ⟨⟨m + 1, by omega, by go_num, by rw [HST.out]; exact HO.out, HB.out⟩, by simp [intOf]; omega⟩
      · have HST : Hid (keep (fun i _ => i != k) ps (m + 1) = keep (fun i _ => i != k) ps m ++ [p]) := Lib.hid (by rw [hst]; simp [hmk])
        have hmk2 : ¬ ((m : Nat) : Int) = ((k : Nat) : Int) := by omega
        clear hst
        go_wp2_with (at_builtin; refine wpl_appr rfl _ _ rfl rfl HO.out rfl rfl rfl rfl (by omega) hsz ?_; intro v' w' hown' hgr'; have HO1 := Lib.hid hown'; have HG1 := Lib.hid (HB.out.grown hgr' hsz (fun b hb => (HO.out.lt b hb).1)); clear hown' hgr')
        exact ⟨⟨m + 1, by omega, by go_num, by rw [HST.out, HFL.out, List.length_append]; exact HO1.out, HG1.out⟩, by simp [intOf]; omega⟩
    · obtain rfl : m = ps.length := by omega
      have hnl : ¬ ((ps.length : Int) < (ps.length : Int)) := by omega
      have hb3 := blk_below HB.out hcl H0.out.core.blk
      have f3 : wr.frozen? ⟨c, 0, none⟩ = false := frozen_of_row _ _ _ _ _ hb3
      have HSW := Lib.hid (H0.out.swapped HB.out HO.out (keep_mem _ _ _))
      have HE := Lib.hid (keep_erase k ps ps.length)
      have HOL := Lib.hid fun x => HO.out.lt x
      clear hb3 c0
      go_wp2
      go_ret
      refine ⟨rfl, _, ⟨_, _, HSW.out.1, by rw [HE.out, List.take_length]; exact cont_erase ps k⟩, HSW.out.2, ?_⟩
      rintro x (rfl | hx)
      · exact .inl H0.out.kc
      · exact .inr (HOL.out x hx).1
end Go.Proofs.Ytmicejjlfojncaa
