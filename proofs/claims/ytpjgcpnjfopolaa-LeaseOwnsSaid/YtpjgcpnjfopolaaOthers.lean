/-
  others: the clients whose grants do not go together with one, sorted.
-/
import Derived.Test.YtpjgcpnjfopolaaShelf
import Derived.Test.YtpjgcpnjfopolaaPlain
import Derived.Sort.OwnSortedInts
import Derived.Maps.RangeWalk
namespace Go.Proofs.Ytpjgcpnjfopolaa
open Go.RowKit Go.Deep Go.Sort
section
variable {ops : Array Oper} {rest : List Oper} {o : Oper} {a : Act} {w : World} {Q : Exit → Act → World → Prop}
theorem wpl_range (hg : o.guard = none) (x : Operand) (hop : o.op = Op.range 51 x) {m clock : Nat} {es : List Ent} (hx : a.eval x = .map (some m)) (h : MapAt w m es clock)
    (hK : ∀ w1, Iter w1 m w.heap.size es clock [] → w1 = w.alloc (.mapIter (some m) clock #[] clock) → wpList Try.prog ops Q rest (a.put o.dst (.pointer (some ⟨w.heap.size, 0, none⟩))) w1) : wpList Try.prog ops Q (o :: rest) a w := by
  refine wpList_plain hg fun K' hK' => ?_
  obtain ⟨hrun, hi⟩ := iter_new h
  unfold Oper.wp
  simp [execOp, hop, hx, hrun, Result.andThen]
  exact hK' _ _ (hK _ hi rfl)
theorem wpl_next (hg : o.guard = none) (x : Operand) (hop : o.op = Op.next x false) {m r clock : Nat} {es : List Ent} {seen : List Nat} {g : Int → Int → Option (Bool × Int)} (hx : a.eval x = .pointer (some ⟨r, 0, none⟩)) (h : Iter w m r es clock seen) (hr : Rep es clock g)
    (hDone : (∀ e ∈ es, e.born ∈ seen) → wpList Try.prog ops Q rest (a.put o.dst (.tuple #[.bool false])) w)
    (hMore : ∀ (e : Ent) (w' : World), e ∈ es → e.born ∉ seen → Iter w' m r es clock (seen ++ [e.born]) → w.grownBy w' (some r) → w'.heap.size = w.heap.size → w'.rangeLeft m r < w.rangeLeft m r →
      (Instr.entry (.pointer (some ⟨r, 0, none⟩))).run Try.prog w' = .ok (.tuple #[.agg #[.int .i64 e.i, .int .i64 e.c], .agg #[.int .i64 e.c, .int .i64 e.i, .bool e.own, .int .i64 e.til]]) w' →
      wpList Try.prog ops Q rest (a.put o.dst (.tuple #[.bool true, .agg #[.int .i64 e.i, .int .i64 e.c], .agg #[.int .i64 e.c, .int .i64 e.i, .bool e.own, .int .i64 e.til]])) w') : wpList Try.prog ops Q (o :: rest) a w := by
  refine wpList_plain hg fun K' hK' => ?_
  unfold Oper.wp
  rcases iter_next h hr o.type with ⟨hl, hrun⟩ | ⟨e, he, hb, w', hrun, h1, h2, h3, h4, h5⟩
  · simp [execOp, hop, hx, hrun, Result.andThen]
    exact hK' _ _ (hDone hl)
  · simp [execOp, hop, hx, hrun, Result.andThen]
    exact hK' _ _ (hMore e w' he hb h1 h2 h3 h4 h5)
/-- 'out = append(out, u)' on a slice of the call's own, u laid in a new block just before. -/
theorem wpl_appg {B : Nat} (hgd : o.guard = none) (s x : Operand) (ho : o.op = .call { callee := .builtin .append, args := #[s, x], argTypes := #[32, 32] }) {v : Value} {n : Nat} {xs : List Value} {z : Int}
    (hs : a.eval s = v) (hown : w.ownsRow B 3 1 v n xs) (hB : B ≤ w.heap.size) {n0 : Nat} (hx : a.eval x = .slice (some ⟨n0, 0, none⟩) 1 1) (hn0 : n0 = w.heap.size) (hn : n < 1000000000)
    (h : ∀ v' w', w'.ownsRow B 3 1 v' (n + 1) (xs ++ [.int .i64 z]) → w.grownBy w' v.ownBlock → wpList Try.prog ops Q rest (a.put o.dst v') w') : wpList Try.prog ops Q (o :: rest) a (w.alloc (.cells #[.int .i64 z] 3)) := by
  subst hn0
  obtain ⟨i0, hi, hz0, hz, hb⟩ := info_parts (show (Try.prog.info? 3).map (fun i => (i.zero, i.size, i.bytes)) = some (some (.int .i64 0), 1, 8) by kernel_rfl)
  refine wpList_append_own _ hgd s x 32 ho B 3 i0 (.int .i64 0) 1 8 Try.underlying32 hi hz0 hz hb rfl (by decide) v n xs hs (hown.alloc _) ⟨w.heap.size, 0, none⟩ 1 1 [.int .i64 z] hx rfl ?_ ?_ ?_ ?_ ?_ ?_
  · intro j y hj
    match j, hj with
    | 0, hj => simp at hj; subst hj; exact blk_cell (heap_alloc_new _ _) rfl
  · intro y hy; simp at hy; subst hy; rfl
  · unfold maxLen; omega
  · omega
  · simp; omega
  · intro v' w' h1 h2 _
    exact h v' w' h1 (only_trans (World.grownBy_alloc w _ _) h2)
end
/-- The sort, at a slice of the call's own. -/
theorem sort_own {v : Value} {B : Nat} {ss : List Int} {w : World} (hown : w.ownsRow B 3 1 v ss.length (ss.map (Value.int .i64))) (hn : ss.length < 100000) :
    Calls Try.prog 26 #[v] w fun e w' => e = .returned (.tuple #[]) ∧ w'.ownsRow B 3 1 v ss.length ((ss.mergeSort leI).map (Value.int .i64)) ∧ w.grownBy w' v.ownBlock := by
  rcases hown.2 with ⟨rfl, h0⟩ | ⟨g, cap, cur, rfl, hbase, hb, h1, h2, h3, h4⟩
  · have hs : ss = [] := List.eq_nil_of_length_eq_zero h0
    subst hs
    refine (sort_none none 0 w).mono ?_
    rintro e w' ⟨rfl, rfl⟩
    exact ⟨rfl, by simpa using hown, ⟨rfl, rfl, rfl, Nat.le_refl _, fun _ _ _ => rfl⟩⟩
  · have hH : Holds (Value.int .i64) w g 0 ss.toArray := holds_of_blockI hb (by simpa using h4)
    refine (sort_some g 0 cap ss w hH (Array.getElem?_eq_some_iff.1 hb).1 (by omega)).mono ?_
    rintro e w' ⟨rfl, n, os, rfl⟩
    exact ⟨rfl, ownsRow_sortedI (by simp) hbase hb h1 h2 h3, grownBy_sortedI _⟩
theorem row_ne {w : World} {B m r clock : Nat} {es : List Ent} {seen : List Nat} {v : Value} {n : Nat} {xs : List Value} (h : w.ownsRow B 3 1 v n xs) (k : Iter w m r es clock seen) : v.ownBlock ≠ some r ∧ v.ownBlock ≠ some m := by
  rcases h.2 with ⟨rfl, _⟩ | ⟨g, cap, cur, rfl, _, hg, _⟩
  · exact ⟨by simp [Value.ownBlock], by simp [Value.ownBlock]⟩
  · constructor
    · intro e
      have e : g = r := by injection e
      rw [e, k.it] at hg
      cases hg
    · intro e
      have e : g = m := by injection e
      have := k.map
      unfold MapAt at this
      rw [e, this] at hg
      cases hg
/-- What a round of a range that collects keeps. -/
structure Col (w wr : World) (m : Nat) (es : List Ent) (clock : Nat) (ds : List Ent) (v : Value) (l : List Int) : Prop where
  it : Iter wr m w.heap.size es clock (sn ds)
  met : Met es ds
  row : wr.ownsRow w.heap.size 3 1 v l.length (l.map (Value.int .i64))
  bel : Below w.heap.size w wr
theorem Col.start {w : World} {m clock : Nat} {es : List Ent} (w1 : World) (hi : Iter w1 m w.heap.size es clock []) (hw : w1 = w.alloc (.mapIter (some m) clock #[] clock)) : Col w w1 m es clock [] (.slice none 0 0) [] :=
  ⟨hi, Met.nil es, World.ownsRow_nil _ _ _ _, by rw [hw]; exact (Below.refl _ _).alloc (Nat.le_refl _) _⟩
theorem Col.next {w wr w' : World} {m clock : Nat} {es ds : List Ent} {v : Value} {l : List Int} (h : Col w wr m es clock ds v l) {e : Ent} (he : e ∈ es) (hb : e.born ∉ sn ds) (hi : Iter w' m w.heap.size es clock (sn ds ++ [e.born])) (hg : wr.grownBy w' (some w.heap.size)) :
    Col w w' m es clock (ds ++ [e]) v l :=
  ⟨by simpa [sn] using hi, h.met.add he hb, h.row.kept hg (.inr (row_ne h.row h.it).1), h.bel.grown hg h.bel.size fun k hk => by injection hk with hk; omega⟩
theorem Col.below {w wr w' : World} {m clock : Nat} {es ds : List Ent} {v : Value} {l : List Int} (h : Col w wr m es clock ds v l) (hb : Below wr.heap.size wr w') : Col w w' m es clock ds v l :=
  ⟨h.it.kept (row := none) ⟨hb.os, hb.tape, hb.output, hb.size, fun k hk _ => hb.block k hk⟩ (by simp) (by simp), h.met, own_below h.row hb, below_then h.bel hb⟩
theorem Col.app {w wr w' : World} {m clock : Nat} {es ds : List Ent} {v v' : Value} {l : List Int} {z : Int} (h : Col w wr m es clock ds v l) (ho : w'.ownsRow w.heap.size 3 1 v' (l.length + 1) (l.map (Value.int .i64) ++ [.int .i64 z])) (hg : wr.grownBy w' v.ownBlock) :
    Col w w' m es clock ds v' (l ++ [z]) :=
  ⟨h.it.kept hg (Ne.symm (row_ne h.row h.it).2) (Ne.symm (row_ne h.row h.it).1), h.met, by simpa using ho, h.bel.grown hg h.bel.size fun k hk => (h.row.lt k hk).1⟩
theorem Col.two {w wr : World} {m clock : Nat} {es ds : List Ent} {v : Value} {l : List Int} (h : Col w wr m es clock ds v l) (x y : Obj) : Col w ((wr.alloc x).alloc y) m es clock ds v l :=
  h.below (((Below.refl _ _).alloc (Nat.le_refl _) _).alloc (by simp) _)
theorem Col.left {w w2 w3 : World} {m clock : Nat} {es ds : List Ent} {v v' : Value} {l l' : List Int} (h : Col w w2 m es clock ds v l) (h' : Col w w3 m es clock ds v' l') {n : Nat} (hn : w2.rangeLeft m w.heap.size < n) : w3.rangeLeft m w.heap.size < n := by
  rw [h'.it.left, ← h.it.left]
  exact hn
set_option maxRecDepth 100000 in
set_option maxHeartbeats 2000000 in
theorem others_any {w : World} {b m : Nat} {s : Tab} (h : TP w b m s) (c i : Int) (own : Bool) : Calls Try.prog 25 #[.pointer (some ⟨b, 0, none⟩), .int .i64 c, .int .i64 i, .bool own] w fun e w' =>
    ∃ v, e = .returned v ∧ w'.ownsRow w.heap.size 3 1 v (oth s.g c i own).length ((oth s.g c i own).map (Value.int .i64)) ∧ Below w.heap.size w w' := by
  have HOK := Lib.hid h.ok
  have hbl := h.lt.1
  obtain ⟨arr, hb, ha⟩ := h.tab
  obtain ⟨es, clock, hm, hr⟩ := h.map
  have c0 := blk_cell hb ha.2.1
  have HM := Lib.hid hm
  have HR := Lib.hid hr
  clear hm hr hb ha h
  go_enter Try.func25, Try.ntmps25
  go_wp2_with (at_range; refine wpl_range rfl _ rfl rfl HM.out ?_; intro w1 hi1 hw1; have HC := Lib.hid (Col.start w1 hi1 hw1); clear hi1 hw1)
  go_frame
  go_loopw [9] (fun v wr => ∃ ds, Col w wr m es clock ds v (colO c i own ds)) (fun _ wr => wr.rangeLeft m w.heap.size)
  case atStart => exact ⟨[], HC.out⟩
  case round =>
    obtain ⟨ds, hcol⟩ := hrel
    have HCO := Lib.hid hcol
    clear hcol HC
    go_wp2_with (at_next; refine wpl_next rfl _ rfl rfl HCO.out.it HR.out ?_ ?_)
    · intro hall
      have HALL := Lib.hid (oth_eq HCO.out.met HR.out HOK.out hall c i own)
      clear hall
      have HLE := Lib.hid (And.intro (colO_len c i own ds) (HCO.out.met.len HR.out HOK.out))
      go_wp2_with fail
      refine (sort_own HCO.out.row (by have := HLE.out; omega)).mono ?_
      rintro e w2 ⟨rfl, ho2, hg2⟩
      have HRES := Lib.hid (show w2.ownsRow w.heap.size 3 1 u9 (oth s.g c i own).length ((oth s.g c i own).map (Value.int .i64)) from by
        rw [← HALL.out, List.length_mergeSort]; exact ho2)
      have HBL := Lib.hid (HCO.out.bel.grown hg2 HCO.out.bel.size fun k hk => (HCO.out.row.lt k hk).1)
      clear ho2 hg2
      go_wp2_with fail
      go_ret
      exact ⟨_, rfl, HRES.out, HBL.out⟩
    · intro e w2 he hbn hi2 hg2 hs2 hlt2 hen
      have HCN := Lib.hid (HCO.out.next he hbn hi2 hg2)
      have HLE := Lib.hid (And.intro (colO_len c i own ds) (And.intro (HCO.out.met.len HR.out HOK.out) (And.intro hlt2 hs2)))
      have HSN := Lib.hid (colO_snoc c i own ds e)
      have hwz : w.heap.size ≤ w2.heap.size := HCN.out.bel.size
      clear he hbn hi2 hg2 hlt2 hs2
      generalize hw : e.own = eo at *
      have HW := Lib.hid hw
      clear hw
      by_cases h1 : e.i = i
      · have t1 : (e.i == i) = true := by simpa using h1
        by_cases h2 : e.c = c
        · have t2 : (e.c != c) = false := by simpa using h2
          have HO : Hid (othE c i own e = false) := Lib.hid (by simp [othE, t2])
          clear h1 h2
          go_wp2_with fail
          have hc2 := HCN.out.two (.cells #[.int .i64 e.i, .int .i64 e.c] 62) (.cells #[.int .i64 e.c, .int .i64 e.i, .bool eo, .int .i64 e.til] 40)
          exact ⟨⟨_, by rw [HSN.out, HO.out]; simpa using hc2⟩, HCN.out.left hc2 HLE.out.2.2.1⟩
        · have t2 : (e.c != c) = true := by simpa using h2
          clear h1 h2
          cases own
          · cases eo
            · have HO : Hid (othE c i false e = false) := Lib.hid (by simp [othE, HW.out])
              go_wp2_with fail
              have hc2 := HCN.out.two (.cells #[.int .i64 e.i, .int .i64 e.c] 62) (.cells #[.int .i64 e.c, .int .i64 e.i, .bool false, .int .i64 e.til] 40)
              exact ⟨⟨_, by rw [HSN.out, HO.out]; simpa using hc2⟩, HCN.out.left hc2 HLE.out.2.2.1⟩
            · have HO : Hid (othE c i false e = true) := Lib.hid (by simp [othE, HW.out, t1, t2])
              have hc2 := HCN.out.two (.cells #[.int .i64 e.i, .int .i64 e.c] 62) (.cells #[.int .i64 e.c, .int .i64 e.i, .bool true, .int .i64 e.til] 40)
              have HC2 := Lib.hid hc2
              clear hc2
              go_wp2_with (at_builtin; refine wpl_appg rfl _ _ rfl rfl HC2.out.row (by simp; omega) rfl (by simp) (by have := HLE.out; omega) ?_; intro v3 w3 ho3 hg3; have HC3 := Lib.hid (HC2.out.app ho3 hg3); clear ho3 hg3)
              exact ⟨⟨_, by rw [HSN.out, HO.out]; exact HC3.out⟩, HCN.out.left HC3.out HLE.out.2.2.1⟩
          · have HO : Hid (othE c i true e = true) := Lib.hid (by simp [othE, t1, t2])
            have hc2 := HCN.out.two (.cells #[.int .i64 e.i, .int .i64 e.c] 62) (.cells #[.int .i64 e.c, .int .i64 e.i, .bool eo, .int .i64 e.til] 40)
            have HC2 := Lib.hid hc2
            clear hc2
            go_wp2_with (at_builtin; refine wpl_appg rfl _ _ rfl rfl HC2.out.row (by simp; omega) rfl (by simp) (by have := HLE.out; omega) ?_; intro v3 w3 ho3 hg3; have HC3 := Lib.hid (HC2.out.app ho3 hg3); clear ho3 hg3)
            exact ⟨⟨_, by rw [HSN.out, HO.out]; exact HC3.out⟩, HCN.out.left HC3.out HLE.out.2.2.1⟩
      · have t1 : (e.i == i) = false := by simpa using h1
        have HO : Hid (othE c i own e = false) := Lib.hid (by simp [othE, t1])
        clear h1
        go_wp2_with fail
        have hc2 := HCN.out.two (.cells #[.int .i64 e.i, .int .i64 e.c] 62) (.cells #[.int .i64 e.c, .int .i64 e.i, .bool eo, .int .i64 e.til] 40)
        exact ⟨⟨_, by rw [HSN.out, HO.out]; simpa using hc2⟩, HCN.out.left hc2 HLE.out.2.2.1⟩
end Go.Proofs.Ytpjgcpnjfopolaa
