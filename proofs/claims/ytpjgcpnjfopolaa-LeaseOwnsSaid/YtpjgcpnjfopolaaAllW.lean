/-
  All: its walk.
-/
import Derived.Test.YtpjgcpnjfopolaaAll
namespace Go.Proofs.Ytpjgcpnjfopolaa
open Go.RowKit Go.Deep Go.Lib Go.Sort
theorem info40 : (Try.prog.info? 40).map (fun i => (i.zero, i.size, i.bytes)) = some (some (held 0 0 false 0), 4, 32) := by kernel_rfl
/-- 'append(out, h)' of a grant onto a row of one's own, laid in a new block just before. -/
theorem wpl_apph {ops : Array Oper} {rest : List Oper} {o : Oper} {a : Act} {w : World} {Q : Exit → Act → World → Prop} {B : Nat} (hgd : o.guard = none) (s x : Operand) (ho : o.op = .call { callee := .builtin .append, args := #[s, x], argTypes := #[47, 47] }) {v : Value} {n : Nat} {xs : List Value} {h : Hl}
    (hs : a.eval s = v) (hown : w.ownsRow B 40 4 v n xs) (hB : B ≤ w.heap.size) {n0 : Nat} (hx : a.eval x = .slice (some ⟨n0, 0, none⟩) 1 1) (hn0 : n0 = w.heap.size) (hn : n < 1000000)
    (hK : ∀ v' w', w'.ownsRow B 40 4 v' (n + 1) (xs ++ encH h) → w.grownBy w' v.ownBlock → wpList Try.prog ops Q rest (a.put o.dst v') w') : wpList Try.prog ops Q (o :: rest) a (w.alloc (.cells #[.int .i64 h.c, .int .i64 h.i, .bool h.own, .int .i64 h.til] 40)) := by
  subst hn0
  obtain ⟨i0, hi, hz0, hz, hb⟩ := info_parts info40
  refine wpList_append_own _ hgd s x 47 ho B 40 i0 (held 0 0 false 0) 4 32 Try.underlying47 hi hz0 hz hb rfl (by decide) v n xs hs (hown.alloc _) ⟨w.heap.size, 0, none⟩ 1 1 (encH h) hx rfl ?_ ?_ ?_ ?_ ?_ ?_
  · intro j y hj
    match j, hj with
    | 0, hj => simp [encH] at hj; subst hj; exact blk_cell (heap_alloc_new _ _) rfl
    | 1, hj => simp [encH] at hj; subst hj; exact blk_cell (heap_alloc_new _ _) rfl
    | 2, hj => simp [encH] at hj; subst hj; exact blk_cell (heap_alloc_new _ _) rfl
    | 3, hj => simp [encH] at hj; subst hj; exact blk_cell (heap_alloc_new _ _) rfl
  · intro y hy
    simp [encH] at hy
    rcases hy with rfl | rfl | rfl | rfl <;> rfl
  · unfold maxLen; omega
  · omega
  · simp; omega
  · intro v' w' h1 h2 _
    exact hK v' w' h1 (only_trans (World.grownBy_alloc w _ _) h2)
theorem holds_id {w : World} {g : Nat} {cur : Array Value} {e : TypeId} {F : Array Value} (hb : w.heap[g]? = some (.cells cur e (0, 0))) (ht : cur.toList.take F.size = F.toList) : Holds id w g 0 F := by
  intro j hj
  refine ⟨?_, by simp [World.frozen?, hb]⟩
  have h1 : (cur.toList.take F.size)[j]? = F.toList[j]? := by rw [ht]
  rw [List.getElem?_take_of_lt hj] at h1
  simp only [World.cell?, hb, Nat.zero_add]
  simp only [Option.isSome_none, Bool.false_eq_true, if_false]
  rw [← Array.getElem?_toList, h1]
  simp [hj]
theorem take_putId (cur : Array Value) (F : Array Value) (h : F.size ≤ cur.size) : (putCells id 0 F cur).toList.take F.size = F.toList := by
  apply List.ext_getElem?
  intro j
  by_cases hj : j < F.size
  · rw [List.getElem?_take_of_lt hj, Array.getElem?_toList]
    simp [putCells, hj, show j < cur.size by omega]
  · rw [List.getElem?_take_eq_none (by omega), List.getElem?_eq_none (by simp; omega)]
/-- The sort, at grants in a row of one's own. -/
theorem sortH_own {v : Value} {B : Nat} {l : List Hl} {w : World} (hown : w.ownsRow B 40 4 v l.length (flatH l)) (hn : l.length < 100000) :
    Calls Try.prog 28 #[v, .func (.func 29) #[] #[]] w fun e w' => e = .returned (.tuple #[]) ∧ ∃ l', l'.Perm l ∧ (l'.Pairwise fun a b => ltH b a = false) ∧ w'.ownsRow B 40 4 v l.length (flatH l') ∧ w.grownBy w' v.ownBlock := by
  rcases hown.2 with ⟨rfl, h0⟩ | ⟨g, cap, cur, rfl, hbase, hb, h1, h2, h3, h4⟩
  · have hs : l = [] := List.eq_nil_of_length_eq_zero h0
    subst hs
    refine (sortF_none (α := Hl) none 0 _ w).mono ?_
    rintro e w' ⟨rfl, rfl⟩
    exact ⟨rfl, [], List.Perm.refl _, by simp, hown, ⟨rfl, rfl, rfl, Nat.le_refl _, fun _ _ _ => rfl⟩⟩
  · have hsz : (flatK encH 4 l.toArray).size = l.length * 4 := by simp
    have hH : HoldsK encH 4 w g 0 l.toArray := holds_id hb (by rw [hsz]; exact h4)
    have eg : ∀ args w, (callFunc 29 args).run Try.prog w = .ok (.enter 29 args) w := enters_of Try.func29 (by kernel_rfl) rfl
    have hc : CmpLays Try.prog 29 #[] encH 4 cfH g 0 l.toArray.size w := fun _ _ _ _ x y => closure_any x y _
    refine (sortF_some 4 Try.isAgg40 Try.sizeOf40 encH (fun _ => rfl) (fun x v hv => by simp [encH] at hv; rcases hv with rfl | rfl | rfl | rfl <;> rfl) cfH swoH 29 #[] g 0 cap l.toArray w eg hc hH (blk_lt hb) (by simp; omega)).mono ?_
    rintro e w' ⟨rfl, d', n, os, ⟨hp1, _, hp3⟩, hs, rfl⟩
    have hd : d'.size = l.length := by simpa using hp1
    have hper : d'.toList.Perm l := by
      have e1 : d'.extract 0 l.toArray.size = d' := by
        rw [← hp1]; exact Array.extract_size
      have e2 : l.toArray.extract 0 l.toArray.size = l.toArray := Array.extract_size
      rw [e1, e2] at hp3
      simpa using hp3
    have hF : (flatK encH 4 d').size = l.length * 4 := by simp [hd]
    have hblk : (sortWorldK encH 4 w g 0 n d' os).heap[g]? = some (.cells (putCells id 0 (flatK encH 4 d') cur) 40 (0, 0)) := by
      unfold sortWorldK putRowK
      rw [heap_grow_old _ _ (by simpa [putRow, mapBlock, Sort.ahead] using blk_lt hb)]
      simp [putRow, mapBlock, Sort.ahead, Array.getElem?_modify, hb, onCells]
    have hfl : flatH d'.toList = (flatK encH 4 d').toList := by unfold flatH; simp
    refine ⟨rfl, d'.toList, hper, ?_, ⟨by rw [flatH_len]; simp [hd], .inr ⟨g, cap, _, rfl, hbase, hblk, h1, h2, by simp [putCells, h3], ?_⟩⟩, ⟨rfl, rfl, rfl, by simp [sortWorldK, putRowK, putRow, mapBlock, Sort.ahead], fun k hk hne => ?_⟩⟩
    · rw [List.pairwise_iff_getElem]
      intro i j hi hj hij
      have := hs i j (Nat.zero_le _) hij (by simpa [hd] using hj)
      rw [lt_cfH] at this
      simpa [getElem!_pos, hi, hj, show i < d'.size by simpa using hi, show j < d'.size by simpa using hj] using this
    · rw [hfl, ← hF]
      exact take_putId cur _ (by rw [hF, h3]; exact Nat.mul_le_mul_right _ h1)
    · unfold sortWorldK putRowK
      rw [heap_grow_old _ _ (by simpa [putRow, mapBlock, Sort.ahead] using hk)]
      have : g ≠ k := fun e => hne (by rw [← e]; rfl)
      simp [putRow, mapBlock, Sort.ahead, Array.getElem?_modify, this]
theorem rowh_ne {w : World} {B m r clock : Nat} {es : List Ent} {seen : List Nat} {v : Value} {n : Nat} {xs : List Value} (h : w.ownsRow B 40 4 v n xs) (k : Iter w m r es clock seen) : v.ownBlock ≠ some r ∧ v.ownBlock ≠ some m := by
  rcases h.2 with ⟨rfl, _⟩ | ⟨g, cap, cur, rfl, _, hg, _⟩
  · exact ⟨by simp [Value.ownBlock], by simp [Value.ownBlock]⟩
  · constructor
    · intro e
      have e : g = r := by injection e
      rw [e, k.it] at hg
      cases hg
    · intro e
      have e : g = m := by injection e
      have := k.map
      unfold MapAt at this
      rw [e, this] at hg
      cases hg
theorem ownh_below {w w' : World} {B : Nat} {v : Value} {n : Nat} {xs : List Value} (h : w.ownsRow B 40 4 v n xs) (hb : Below w.heap.size w w') : w'.ownsRow B 40 4 v n xs :=
  h.kept (row := none) ⟨hb.os, hb.tape, hb.output, hb.size, fun k hk _ => hb.block k hk⟩ (by cases v.ownBlock <;> simp)
structure ColH (w wr : World) (m : Nat) (es : List Ent) (clock : Nat) (ds ts : List Ent) (v : Value) : Prop where
  it : Iter wr m w.heap.size es clock (sn ds)
  met : Met es ds
  row : wr.ownsRow w.heap.size 40 4 v ts.length (flatH (ts.map ofE))
  bel : Below w.heap.size w wr
theorem ColH.start {w : World} {m clock : Nat} {es : List Ent} (w1 : World) (hi : Iter w1 m w.heap.size es clock []) (hw : w1 = w.alloc (.mapIter (some m) clock #[] clock)) : ColH w w1 m es clock [] [] (.slice none 0 0) :=
  ⟨hi, Met.nil es, by rw [show flatH (([] : List Ent).map ofE) = [] from by simp [flatH, flatK]]; exact World.ownsRow_nil _ _ _ _, by rw [hw]; exact (Below.refl _ _).alloc (Nat.le_refl _) _⟩
theorem ColH.next {w wr w' : World} {m clock : Nat} {es ds : List Ent} {v : Value} (h : ColH w wr m es clock ds ds v) {e : Ent} (he : e ∈ es) (hb : e.born ∉ sn ds) (hi : Iter w' m w.heap.size es clock (sn ds ++ [e.born])) (hg : wr.grownBy w' (some w.heap.size)) :
    ColH w w' m es clock (ds ++ [e]) ds v :=
  ⟨by simpa [sn] using hi, h.met.add he hb, h.row.kept hg (.inr (rowh_ne h.row h.it).1), h.bel.grown hg h.bel.size fun k hk => by injection hk with hk; omega⟩
theorem ColH.below {w wr w' : World} {m clock : Nat} {es ds ts : List Ent} {v : Value} (h : ColH w wr m es clock ds ts v) (hb : Below wr.heap.size wr w') : ColH w w' m es clock ds ts v :=
  ⟨h.it.kept (row := none) ⟨hb.os, hb.tape, hb.output, hb.size, fun k hk _ => hb.block k hk⟩ (by simp) (by simp), h.met, ownh_below h.row hb, below_then h.bel hb⟩
theorem ColH.app {w wr w' : World} {m clock : Nat} {es ds : List Ent} {v v' : Value} {e : Ent} (h : ColH w wr m es clock (ds ++ [e]) ds v) (ho : w'.ownsRow w.heap.size 40 4 v' (ds.length + 1) (flatH (ds.map ofE) ++ encH (ofE e))) (hg : wr.grownBy w' v.ownBlock) :
    ColH w w' m es clock (ds ++ [e]) (ds ++ [e]) v' :=
  ⟨h.it.kept hg (Ne.symm (rowh_ne h.row h.it).2) (Ne.symm (rowh_ne h.row h.it).1), h.met, by
    rw [flatH_snoc] at ho
    simpa using ho, h.bel.grown hg h.bel.size fun k hk => (h.row.lt k hk).1⟩
set_option maxRecDepth 100000 in
set_option maxHeartbeats 2000000 in
theorem all_any {w : World} {b m : Nat} {s : Tab} (h : TP w b m s) : Calls Try.prog 18 #[.pointer (some ⟨b, 0, none⟩)] w fun e w' =>
    ∃ v, e = .returned v ∧ w'.ownsRow w.heap.size 40 4 v (allL s.g).length (flatH (allL s.g)) ∧ Below w.heap.size w w' := by
  have HOK := Lib.hid h.ok
  have hbl := h.lt.1
  obtain ⟨arr, hb, ha⟩ := h.tab
  obtain ⟨es, clock, hm, hr⟩ := h.map
  have c0 := blk_cell hb ha.2.1
  have HM := Lib.hid hm
  have HR := Lib.hid hr
  clear hm hr hb ha h
  go_enter Try.func18, Try.ntmps18
  go_wp2_with (at_range; refine wpl_range rfl _ rfl rfl HM.out ?_; intro w1 hi1 hw1; have HC := Lib.hid (ColH.start w1 hi1 hw1); clear hi1 hw1)
  go_frame
  go_loopw [3] (fun v wr => ∃ ds, ColH w wr m es clock ds ds v) (fun _ wr => wr.rangeLeft m w.heap.size)
  case atStart => exact ⟨[], HC.out⟩
  case round =>
    obtain ⟨ds, hcol⟩ := hrel
    have HCO := Lib.hid hcol
    clear hcol HC
    go_wp2_with (at_next; refine wpl_next rfl _ rfl rfl HCO.out.it HR.out ?_ ?_)
    · intro hall
      have HALL := Lib.hid hall
      clear hall
      have HLE := Lib.hid (HCO.out.met.len HR.out HOK.out)
      go_wp2_with fail
      refine (sortH_own (l := ds.map ofE) (by rw [List.length_map]; exact HCO.out.row) (by rw [List.length_map]; have := HLE.out; omega)).mono ?_
      rintro e w2 ⟨rfl, l', hp, hs, ho2, hg2⟩
      have hl := all_eq HCO.out.met HR.out HOK.out HALL.out hp hs
      have HRES := Lib.hid (show w2.ownsRow w.heap.size 40 4 u3 (allL s.g).length (flatH (allL s.g)) from by
        rw [← hl, hp.length_eq]; exact ho2)
      have HBL := Lib.hid (HCO.out.bel.grown hg2 HCO.out.bel.size fun k hk => (HCO.out.row.lt k hk).1)
      clear ho2 hg2 hp hs hl
      go_wp2_with fail
      go_ret
      exact ⟨_, rfl, HRES.out, HBL.out⟩
    · intro e w2 he hbn hi2 hg2 hs2 hlt2 hen
      have HCN := Lib.hid (HCO.out.next he hbn hi2 hg2)
      have HLE := Lib.hid (And.intro (HCO.out.met.len HR.out HOK.out) hlt2)
      have hwz : w.heap.size ≤ w2.heap.size := HCN.out.bel.size
      clear he hbn hi2 hg2 hlt2 hs2
      have HC2 := Lib.hid (HCN.out.below ((Below.refl _ _).alloc (Nat.le_refl _) (.cells #[.int .i64 e.c, .int .i64 e.i, .bool e.own, .int .i64 e.til] 40)))
      go_wp2_with (at_builtin; refine wpl_apph (h := ofE e) rfl _ _ rfl rfl HC2.out.row (by simp; omega) rfl (by simp) (by have := HLE.out; omega) ?_; intro v3 w3 ho3 hg3; have HC3 := Lib.hid (HC2.out.app ho3 hg3); clear ho3 hg3)
      exact ⟨⟨_, HC3.out⟩, by rw [HC3.out.it.left, ← HCN.out.it.left]; exact HLE.out.2⟩
end Go.Proofs.Ytpjgcpnjfopolaa
