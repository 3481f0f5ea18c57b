/-
  Names of a table.
-/
import Derived.Test.YthhcgdmpbihdnaaShelf
import Derived.Sort.OwnSorted
namespace Go.Proofs.Ythhcgdmpbihdnaa
open Go.RowKit Go.Deep Go.Sort
abbrev leS : List UInt8 → List UInt8 → Bool := fun x y => decide (x ≤ y)
/-- The names of the first n entries. -/
def nms (f : Nat → Ent) : Nat → List (List UInt8)
  | 0 => []
  | n + 1 => nms f n ++ if (f n).nm.toList.isEmpty then [] else [(f n).nm.data.toList]
theorem nms_le (f : Nat → Ent) : ∀ n, (nms f n).length ≤ n
  | 0 => Nat.le_refl _
  | n + 1 => by
    have := nms_le f n
    rw [nms, List.length_append]
    split <;> simp <;> omega
theorem enc_nm (s : ByteArray) : encStr s.data.toList = .string s := by
  show Value.string ⟨s.data.toList.toArray⟩ = _
  rw [Array.toArray_toList]
theorem sort_own {v : Value} {B : Nat} {ss : List (List UInt8)} {w : World} (hown : w.ownsRow B 9 1 v ss.length (ss.map encStr)) (hn : ss.length < 1000) :
    Calls Try.prog 38 #[v] w fun e w' => e = .returned (.tuple #[]) ∧ w'.ownsRow B 9 1 v ss.length ((ss.mergeSort leS).map encStr) ∧ w.grownBy w' v.ownBlock := by
  rcases hown.2 with ⟨rfl, h0⟩ | ⟨g, cap, cur, rfl, hbase, hb, h1, h2, h3, h4⟩
  · have hs : ss = [] := List.eq_nil_of_length_eq_zero h0
    subst hs
    refine (sort_none none 0 w).mono ?_
    rintro e w' ⟨rfl, rfl⟩
    exact ⟨rfl, by simpa using hown, ⟨rfl, rfl, rfl, Nat.le_refl _, fun _ _ _ => rfl⟩⟩
  · have hH : Holds encStr w g 0 ss.toArray := holds_of_block hb (by simpa using h4)
    refine (sort_some g 0 cap ss w hH (Array.getElem?_eq_some_iff.1 hb).1 (by omega)).mono ?_
    rintro e w' ⟨rfl, n, os, rfl⟩
    exact ⟨rfl, ownsRow_sorted (by simp) hbase hb h1 h2 h3, grownBy_sorted _⟩
theorem index26 (f : Nat → Ent) (k : Nat) (h : k < 16) (w : World) : (Instr.index 26 (.agg (tabv f)) (.int .i64 (k : Int))).run Try.prog w = .ok (.agg #[.string (f k).nm, .int .i64 (f k).ino]) w := by
  have hk : (0:Int) ≤ k ∧ (k:Int) < 16 := by omega
  have hs : (sizeOf 24).run Try.prog w = .ok 2 w := by kernel_rfl
  have hp := part24 f k h w
  unfold Instr.index
  rw [Sem.run_bind]
  simp [asIntOf, Sem.run_bind, hk]
  exact hp
theorem info9 : (Try.prog.info? 9).map (fun i => (i.zero, i.size, i.bytes)) = some (some (.string { data := #[] }), 1, 16) := by kernel_rfl
/-- 'append(l, x)' of a text onto a row of one's own. -/
theorem wpl_apps {ops : Array Oper} {rest : List Oper} {o : Oper} {a : Act} {Q : Exit → Act → World → Prop} {w : World} {B : Nat} (hgd : o.guard = none)
    (s x : Operand) (ho : o.op = .call { callee := .builtin .append, args := #[s, x], argTypes := #[52, 52] }) {v : Value} {n : Nat} {xs : List Value} {t : ByteArray} {gx : Nat}
    (hs : a.eval s = v) (hown : w.ownsRow B 9 1 v n xs) (hx : a.eval x = .slice (some ⟨gx, 0, none⟩) 1 1) (hgx : w.heap.size = gx) (hn : n < 1000000) (hB : B ≤ w.heap.size)
    (h : ∀ v' w', w'.ownsRow B 9 1 v' (n + 1) (xs ++ [.string t]) → w.grownBy w' v.ownBlock → wpList Try.prog ops Q rest (a.put o.dst v') w') : wpList Try.prog ops Q (o :: rest) a (w.alloc (.cells #[.string t] 9)) := by
  subst hgx
  obtain ⟨i0, hi, hz0, hz, hb⟩ := info_parts info9
  refine wpList_append_own _ hgd s x 52 ho B 9 i0 _ 1 16 Try.underlying52 hi hz0 hz hb rfl (by decide) v n xs hs (hown.alloc _) ⟨w.heap.size, 0, none⟩ 1 1 [.string t] hx rfl ?_ ?_ ?_ ?_ ?_ ?_
  · intro j y hj
    match j, hj with
    | 0, hj => simp at hj; subst hj; exact blk_cell (heap_alloc_new _ _) rfl
  · intro y hy; simp at hy; subst hy; rfl
  · unfold maxLen; omega
  · omega
  · simp; omega
  · intro v' w' h1 h2 _
    exact h v' w' h1 (only_trans (World.grownBy_alloc w _ _) h2)
set_option maxRecDepth 100000 in
set_option maxHeartbeats 1000000 in
theorem names_any (f : Nat → Ent) (w : World) : Calls Try.prog 28 #[.agg (tabv f)] w fun e w' => ∃ v, e = .returned v ∧ w'.ownsRow w.heap.size 9 1 v (nms f 16).length (((nms f 16).mergeSort leS).map encStr) ∧ Below w.heap.size w w' := by
  have HIX := Lib.hid (index26 f)
  have k1 : (w.alloc (.cells (tabv f) 26)).heap[w.heap.size]? = some (.cells (tabv f) 26 (0, 0)) := heap_alloc_new _ _
  have hb0 : Below w.heap.size w (w.alloc (.cells (tabv f) 26)) := (Below.refl _ w).alloc (Nat.le_refl _) _
  have hsz : w.heap.size ≤ (w.alloc (.cells (tabv f) 26)).heap.size := by simp
  go_enter Try.func28, Try.ntmps28
  go_wp2_with ((with_reducible refine ld26 (f := f) ?_ k1 ?_); exact rfl)
  have HB0 := Lib.hid hb0
  clear hb0 k1
  generalize w.alloc (.cells (tabv f) 26) = w1 at *
  go_loopw [3, 5, 7] (fun y _ i wr => ∃ k : Nat, k ≤ 16 ∧ i = .int .i64 k ∧ wr.ownsRow w.heap.size 9 1 y (nms f k).length ((nms f k).map encStr) ∧ Below w.heap.size w wr) (fun _ _ i _ => 16 - (intOf i).toNat)
  case atStart => exact ⟨0, Nat.zero_le _, rfl, World.ownsRow_nil _ _ _ _, HB0.out⟩
  case round =>
    obtain ⟨k, hk, rfl, hown, hbel⟩ := hrel
    have HBEL := Lib.hid hbel
    have HOWN := Lib.hid hown
    have hsw := hbel.size
    have hle := nms_le f k
    clear hbel hown
    by_cases hlt : k < 16
    · have hd : ((k : Nat) : Int) < 16 := by omega
      have hix := HIX.out k hlt
      have hst : nms f (k + 1) = nms f k ++ if (f k).nm.toList.isEmpty then [] else [(f k).nm.data.toList] := rfl
      have HE := Lib.hid (enc_nm (f k).nm)
      have HBA : Hid (∀ o, Below w.heap.size w (wr.alloc o)) := Lib.hid fun o => HBEL.out.alloc hsw o
      have HOA : Hid (∀ o, (wr.alloc o).ownsRow w.heap.size 9 1 u3 (nms f k).length ((nms f k).map encStr)) := Lib.hid fun o => HOWN.out.alloc o
      have hsa : ∀ o, (wr.alloc o).heap.size = wr.heap.size + 1 := fun o => by simp
      have HSA := Lib.hid hsa
      clear hsa
      generalize (f k).nm = s at *
      generalize (f k).ino = m at *
      cases hem : s.toList.isEmpty
      · have hne : (!s.toList.isEmpty) = true := by rw [hem]; rfl
        rw [hem] at hst
        have HST := Lib.hid hst
        have hws : w.heap.size ≤ wr.heap.size + 1 := by omega
        clear hst
        go_wp2_with (at_builtin; refine wpl_apps rfl _ _ rfl rfl (HOA.out _) rfl (HSA.out _) (by omega) (by rw [HSA.out]; exact hws) ?_; intro v' w' hown' hgr'; have HO1 := Lib.hid hown'; have HG1 := Lib.hid ((HBA.out _).grown hgr' (by rw [HSA.out]; exact hws) (fun b hb => (HOWN.out.lt b hb).1)); clear hown' hgr')
        exact ⟨⟨k + 1, by omega, by go_num, by rw [HST.out]; simp only [if_false, Bool.false_eq_true, List.length_append, List.length_cons, List.length_nil, List.map_append, List.map_cons, List.map_nil, HE.out]; exact HO1.out, HG1.out⟩, by simp [intOf]; omega⟩
      · have hne : (!s.toList.isEmpty) = false := by rw [hem]; rfl
        rw [hem] at hst
        have HST := Lib.hid hst
        clear hst
        go_wp2
        exact ⟨⟨k + 1, by omega, by go_num, by rw [HST.out]; simp only [if_true, List.append_nil]; exact HOA.out _, HBA.out _⟩, by simp [intOf]; omega⟩
    · obtain rfl : k = 16 := by omega
      have hsort := sort_own HOWN.out (by omega)
      have HSO := Lib.hid hsort
      clear hsort
      go_wp2_with fail
      refine (HSO.out).mono ?_
      rintro e w5 ⟨rfl, hown5, hg5⟩
      have HO5 := Lib.hid hown5
      have HB5 := Lib.hid (HBEL.out.grown hg5 hsw (fun b hb => (HOWN.out.lt b hb).1))
      clear hown5 hg5
      go_wp2
      go_ret
      exact ⟨_, rfl, HO5.out, HB5.out⟩
end Go.Proofs.Ythhcgdmpbihdnaa
