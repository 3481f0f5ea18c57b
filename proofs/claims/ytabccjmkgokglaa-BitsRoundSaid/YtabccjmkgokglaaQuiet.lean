/-
  REGIONS THAT DRAW THEIR ORDER, whose operations read old blocks and call functions that leave old blocks alone: steps for a whole array's load and for the test of two maps.
-/
import Derived.Test.YtabccjmkgokglaaEq
namespace Go.Proofs.Ytabccjmkgokglaa
open Go.RowKit
open Go.Sort (grow)
theorem near_iff {w w' : World} : (∃ p : Regrown, w' = grow (redrawn w p.d) p.os) ↔ Below w.heap.size w w' :=
  ⟨fun ⟨p, h⟩ => by rw [h]; exact below_regrown w p.d p.os, regrown_of_below⟩
section
variable {P : Program} {ops : Array Oper} {rest : List Oper} {o : Oper} {a : Act} {w : World} {Q : Act → Prop}
theorem wpq_on {C : World → Prop} (hw : Region.wanted o (yielded ops a.tmps) = true) (h : o.quiet P a C (wpQuiet P ops C Q rest)) : wpQuiet P ops C Q (o :: rest) a :=
  wpQuiet_step fun K hK => by rw [if_pos hw]; exact Oper.quiet_mono hK h
/-- An operation that yields v, whatever the world of the class. -/
theorem wpq_value {C : World → Prop} (hw : Region.wanted o (yielded ops a.tmps) = true) (v : Value) (hr : ∀ w', C w' → (execOp a.eval o).run P w' = .ok (.value v) w')
    (h : wpQuiet P ops C Q rest (a.put o.dst v)) : wpQuiet P ops C Q (o :: rest) a :=
  wpq_on hw ⟨v, fun w' hC => by unfold Oper.quietAt; rw [hr w' hC]; exact ⟨rfl, rfl⟩, h⟩
end
theorem wpq_load23 {ops : Array Oper} {rest : List Oper} {o : Oper} {a : Act} {w : World} {Q : Act → Prop} {m : List Nat} {g : Nat} {fr : Nat × Nat}
    (hw : Region.wanted o (yielded ops a.tmps) = true) (x : Operand) (ho : o.op = .load 23 x) (hx : a.eval x = .pointer (some ⟨g, 0, none⟩))
    (hg : w.heap[g]? = some (.cells (mcells m) 23 fr)) (hm : m.length = 16)
    (h : wpQuiet Try.prog ops (fun w' => ∃ p : Regrown, w' = grow (redrawn w p.d) p.os) Q rest (a.put o.dst (.agg (mcells m)))) : wpQuiet Try.prog ops (fun w' => ∃ p : Regrown, w' = grow (redrawn w p.d) p.os) Q (o :: rest) a :=
  wpq_value hw _ (fun w' hC => by
    have hb := near_iff.1 hC
    have hg' := blk_below hb (Array.getElem?_eq_some_iff.1 hg).1 hg
    unfold execOp
    simp only [ho, hx, Instr.loadAt, Instr.sureAddr, Sem.run_bind, Sem.run_pure, Result.andThen_ok, run_loadVar_row w' g 23 23 (mcells m) fr _ hg' Try.underlying23 rfl (info23 hm)]) h
theorem wpq_eql23 {C : World → Prop} {ops : Array Oper} {rest : List Oper} {o : Oper} {a : Act} {Q : Act → Prop} {m : List Nat}
    (hw : Region.wanted o (yielded ops a.tmps) = true) (x y : Operand) (t : TypeId) (ho : o.op = .binOp .eql 23 x y t) (hx : a.eval x = .agg (mcells m)) (hy : a.eval y = .agg (mcells m)) (hm : m.length = 16)
    (h : wpQuiet Try.prog ops C Q rest (a.put o.dst (.bool true))) : wpQuiet Try.prog ops C Q (o :: rest) a :=
  wpq_value hw _ (fun w' _ => by
    have hgd : (eqGuard .eql 23 x y (.agg (mcells m)) (.agg (mcells m))).run Try.prog w' = .ok () w' := run_eqGuard_agg w' .eql 23 x y _ _ (by kernel_rfl)
    unfold execOp
    simp only [ho, hx, hy, Sem.run_bind, hgd, Result.andThen_ok, eql_map m hm w', Sem.run_pure]) h
theorem wpl_eql23 {ops : Array Oper} {rest : List Oper} {o : Oper} {a : Act} {w : World} {Q : Exit → Act → World → Prop} {m : List Nat}
    (hw : Region.wanted o (yielded ops a.tmps) = true) (x y : Operand) (t : TypeId) (ho : o.op = .binOp .eql 23 x y t) (hx : a.eval x = .agg (mcells m)) (hy : a.eval y = .agg (mcells m)) (hm : m.length = 16)
    (h : wpList Try.prog ops Q rest (a.put o.dst (.bool true)) w) : wpList Try.prog ops Q (o :: rest) a w :=
  wpl_on hw fun _ hK => by
    have hgd : (eqGuard .eql 23 x y (.agg (mcells m)) (.agg (mcells m))).run Try.prog w = .ok () w := run_eqGuard_agg w .eql 23 x y _ _ (by kernel_rfl)
    unfold Oper.wp execOp
    simp only [ho, hx, hy, Sem.run_bind, hgd, Result.andThen_ok, eql_map m hm w, Sem.run_pure]
    exact hK _ _ h
end Go.Proofs.Ytabccjmkgokglaa
