/-
  LAWS on worlds, rows of cells and bits that the walks of this seat lean on; no statement of the program is made here.
-/
import Derived.Test.YtpjgcpnjfopolaaRows
import Derived.WalkKit
import Derived.WalkSpells
import Derived.WalkLawsBesides
import Derived.BigQuiet
import Derived.Deep.QuietTactic
import Derived.Deep.WholeRow
import Derived.Laws.BitsAllLaws
import Derived.Lib.Hide
import Derived.Lib.QuietBelow
import Derived.ProofKit
import Derived.OpenShut
import Derived.ShutString
import Derived.ChangeOld
import Derived.Deep.Slices
import Derived.Deep.Fields
import Derived.StillTailTactics
namespace Go.Proofs.Ytpjgcpnjfopolaa
open Go.RowKit
theorem blk_new {w w' : World} {o : Obj} (hb : Below (w.alloc o).heap.size (w.alloc o) w') : w'.heap[w.heap.size]? = some o := by
  rw [hb.block _ (by simp), heap_alloc_new]
theorem blk_below {B b : Nat} {w w' : World} {o : Obj} (hb : Below B w w') (hlt : b < B) (h : w.heap[b]? = some o) : w'.heap[b]? = some o := by
  rw [hb.block _ hlt, h]
theorem blk_cell {w : World} {b j : Nat} {cs : Array Value} {t : TypeId} {fr : Nat × Nat} {v : Value} (h : w.heap[b]? = some (.cells cs t fr)) (hj : cs[j]? = some v) : w.cell? ⟨b, j, none⟩ = some v := by
  rw [cell_of_row w b j cs t fr h, hj]
theorem below_new {w w' : World} {o : Obj} (hb : Below (w.alloc o).heap.size (w.alloc o) w') : Below w.heap.size w w' :=
  ((Below.refl _ _).alloc (Nat.le_refl _) o).trans (hb.mono (by simp))
theorem blk_new2 {w w' : World} {o o2 : Obj} (hb : Below ((w.alloc o).alloc o2).heap.size ((w.alloc o).alloc o2) w') : w'.heap[w.heap.size]? = some o := by
  rw [hb.block _ (by simp; omega), heap_alloc2_old]
theorem blk_new2' {w w' : World} {o o2 : Obj} (hb : Below ((w.alloc o).alloc o2).heap.size ((w.alloc o).alloc o2) w') : w'.heap[w.heap.size + 1]? = some o2 := by
  rw [hb.block _ (by simp), heap_alloc2_new]
theorem below_new2 {w w' : World} {o o2 : Obj} (hb : Below ((w.alloc o).alloc o2).heap.size ((w.alloc o).alloc o2) w') : Below w.heap.size w w' :=
  below_new ((below_new hb))
theorem below_setRow' {B g : Nat} {a w : World} (h : Below B a w) (hg : B ≤ g) (cs : Array Value) : Below B a (w.setRow g cs) :=
  h.trans ⟨rfl, rfl, rfl, by simp, fun k hk => setRow_other _ _ _ _ (by omega)⟩
theorem ret_bool {a b : Bool} (h : a = b) : Ending.returned (.bool a) = .returned (.bool b) := by rw [h]
theorem ret_int {k : IntKind} {a b : Int} (h : a = b) : Ending.returned (.int k a) = .returned (.int k b) := by rw [h]
theorem wpl_on {P : Program} {ops : Array Oper} {rest : List Oper} {o : Oper} {a : Act} {w : World} {Q : Exit → Act → World → Prop} (hw : Region.wanted o (yielded ops a.tmps) = true)
    (h : ∀ K : Act → World → Prop, (∀ a w, wpList P ops Q rest a w → K a w) → o.wp P a w K Q) : wpList P ops Q (o :: rest) a w :=
  wpList_step fun K hK => by rw [if_pos hw]; exact h K hK
theorem i64_and7 (n : Int) (h0 : 0 ≤ n) (h1 : n ≤ 9223372036854775807) : bits .and .i64 n 7 = n % 8 := by
  obtain ⟨a, rfl⟩ := Int.eq_ofNat_of_zero_le h0
  have e : ∀ a : Nat, a < 9223372036854775808 → (BitVec.ofInt 64 (a : Int)).toNat = a := fun a ha => by
    rw [BitVec.ofInt_natCast, BitVec.toNat_ofNat]; exact Nat.mod_eq_of_lt (by omega)
  show IntKind.i64.wrap ((BitVec.ofInt 64 (a : Int) &&& BitVec.ofInt 64 ((7:Nat) : Int)).toNat : Int) = _
  rw [BitVec.toNat_and, e a (by omega), e 7 (by omega), nat_mask3, IntKind.wrap_i64]
  omega
theorem shl1_u8 (c : Int) (h0 : 0 ≤ c) (h1 : c < 8) : IntKind.u8.wrap (1 * 2 ^ min c.toNat 8) = 2 ^ c.toNat := by
  rw [IntKind.wrap_u8', Int.one_mul, u8_shl_one_var c h0, if_neg (by omega)]
theorem pow8 (n : Nat) (h : n < 8) : (2:Int) ^ n % 256 = 2 ^ n := by
  have : n = 0 ∨ n = 1 ∨ n = 2 ∨ n = 3 ∨ n = 4 ∨ n = 5 ∨ n = 6 ∨ n = 7 := by omega
  rcases this with rfl | rfl | rfl | rfl | rfl | rfl | rfl | rfl <;> rfl
theorem and_bit (x : Nat) (hx : x < 256) (k : Nat) (hk : k < 8) : (bits BinOp.and IntKind.u8 (x : Int) (2 ^ k) != 0) = decide (x / 2 ^ k % 2 = 1) := by
  have hp : (2:Int) ^ k = ((2 ^ k : Nat) : Int) := by simp
  have hlt : 2 ^ k < 256 := by
    have : 2 ^ k < 2 ^ 8 := Nat.pow_lt_pow_of_lt (by decide) hk
    simpa using this
  rw [hp, u8_and_nat x _ hx hlt, nat_bit]
  have h0 : 0 < 2 ^ k := Nat.two_pow_pos k
  have h2 : x / 2 ^ k % 2 = 0 ∨ x / 2 ^ k % 2 = 1 := by omega
  rcases h2 with h2 | h2 <;> rw [h2] <;> simp
  omega
theorem u8_or' (x : Nat) (hx : x < 256) (k : Nat) (hk : k < 8) : bits BinOp.or IntKind.u8 (x : Int) (2 ^ k) = ((x ||| 2 ^ k : Nat) : Int) := by
  have hp : (2:Int) ^ k = ((2 ^ k : Nat) : Int) := by simp
  have hlt : 2 ^ k < 256 := by
    have : 2 ^ k < 2 ^ 8 := Nat.pow_lt_pow_of_lt (by decide) hk
    simpa using this
  rw [hp, u8_or_nat x _ hx hlt]
theorem u8_andNot' (x : Nat) (hx : x < 256) (k : Nat) (hk : k < 8) : bits BinOp.andNot IntKind.u8 (x : Int) (2 ^ k) = ((x &&& (255 - 2 ^ k) : Nat) : Int) := by
  have hp : (2:Int) ^ k = ((2 ^ k : Nat) : Int) := by simp
  have hlt : 2 ^ k < 256 := by
    have : 2 ^ k < 2 ^ 8 := Nat.pow_lt_pow_of_lt (by decide) hk
    simpa using this
  rw [hp, u8_andNot_nat x _ hx hlt]
theorem below_box {w wr : World} {o : Obj} (h : Below (w.heap.size + 1) (w.alloc o) wr) : Below w.heap.size w wr :=
  ((Below.refl _ _).alloc (Nat.le_refl _) o).trans (h.mono (by omega))
theorem below_then {w wr w' : World} (h : Below w.heap.size w wr) (hb : Below wr.heap.size wr w') : Below w.heap.size w w' := h.trans (hb.mono h.size)
theorem below_then' {B : Nat} {a wr w' : World} (h : Below B a wr) (hB : B ≤ wr.heap.size) (hb : Below wr.heap.size wr w') : Below B a w' := h.trans (hb.mono hB)
theorem size_box {w wr : World} {o : Obj} (h : Below (w.heap.size + 1) (w.alloc o) wr) : w.heap.size + 1 ≤ wr.heap.size := by have := h.size; simp at this; omega
theorem own_mono {w : World} {B B' : Nat} {e : TypeId} {size : Nat} {v : Value} {n : Nat} {xs : List Value} (h : w.ownsRow B e size v n xs) (hB : B' ≤ B) : w.ownsRow B' e size v n xs := by
  refine ⟨h.1, ?_⟩
  rcases h.2 with h0 | ⟨g, cap, cur, hv, hb, r⟩
  · exact .inl h0
  · exact .inr ⟨g, cap, cur, hv, Nat.le_trans hB hb, r⟩
theorem own_below {w w' : World} {B : Nat} {e : TypeId} {size : Nat} {v : Value} {n : Nat} {xs : List Value} (h : w.ownsRow B e size v n xs) (hb : Below w.heap.size w w') : w'.ownsRow B e size v n xs :=
  h.kept (row := none) ⟨hb.os, hb.tape, hb.output, hb.size, fun k hk _ => hb.block k hk⟩ (by cases v.ownBlock <;> simp)
theorem heap3_0 (w : World) (a b c : Obj) : (((w.alloc a).alloc b).alloc c).heap[w.heap.size]? = some a := by
  rw [Below.heap_alloc ((w.alloc a).alloc b) c w.heap.size (by simp; omega), heap_alloc2_old]
theorem heap3_1 (w : World) (a b c : Obj) : (((w.alloc a).alloc b).alloc c).heap[w.heap.size + 1]? = some b := by
  rw [Below.heap_alloc ((w.alloc a).alloc b) c (w.heap.size + 1) (by simp), heap_alloc2_new]
theorem heap3_2 (w : World) (a b c : Obj) : (((w.alloc a).alloc b).alloc c).heap[w.heap.size + 2]? = some c := by
  have h := heap_alloc2_new (w.alloc a) b c
  have e : (w.alloc a).heap.size = w.heap.size + 1 := by simp
  rwa [e] at h
/-- 'out = append(out, u)' on a slice of the call's own, u laid in a new block just before. -/
theorem wpl_app {P : Program} {ops : Array Oper} {rest : List Oper} {o : Oper} {a : Act} {Q : Exit → Act → World → Prop} {w w0 : World} {B : Nat} (T E : TypeId) (z : Value) (bytes : Nat)
    (ht : P.underlying T = some (.slice E)) (hinfo : (P.info? E).map (fun i => (i.zero, i.size, i.bytes)) = some (some z, 1, bytes)) (hz1 : z.cells.size = 1) (hby : bytes ≤ 64)
    (hgd : o.guard = none) (s x : Operand) (ho : o.op = .call { callee := .builtin .append, args := #[s, x], argTypes := #[T, T] }) {v : Value} {n : Nat} {xs : List Value} {u : Value}
    (hs : a.eval s = v) (hown : w.ownsRow B E 1 v n xs) (hbel : Below B w0 w) (hB : B ≤ w.heap.size) (hu : u.oneCell' = true) (hx : a.eval x = .slice (some ⟨w.heap.size, 0, none⟩) 1 1) (hn : n < 1000000000)
    (h : ∀ v' w', w'.ownsRow B E 1 v' (n + 1) (xs ++ [u]) → Below B w0 w' → B ≤ w'.heap.size → wpList P ops Q rest (a.put o.dst v') w') : wpList P ops Q (o :: rest) a (w.alloc (.cells #[u] E)) := by
  obtain ⟨i0, hi, hz0, hz, hb⟩ := info_parts hinfo
  refine wpList_append_own _ hgd s x T ho B E i0 z 1 bytes ht hi hz0 hz hb hz1 (by decide) v n xs hs (hown.alloc _) ⟨w.heap.size, 0, none⟩ 1 1 [u] hx rfl ?_ ?_ ?_ ?_ ?_ ?_
  · intro j y hj
    match j, hj with
    | 0, hj => simp at hj; subst hj; exact blk_cell (heap_alloc_new _ _) rfl
  · intro y hy; simp at hy; subst hy; exact hu
  · unfold maxLen; omega
  · have : (n + 1) * bytes ≤ (n + 1) * 64 := Nat.mul_le_mul_left _ hby
    omega
  · simp; omega
  · intro v' w' h1 h2 _
    refine h v' w' h1 ((hbel.alloc hB _).grown h2 (by simp; omega) fun k hk => ?_) (Nat.le_trans (by simp; omega) h2.size)
    exact (hown.lt k hk).1
/-- An owned row that is not empty lies at the head of a block. -/
theorem own_at {w : World} {B : Nat} {e : TypeId} {v : Value} {n : Nat} {xs : List Value} (h : w.ownsRow B e 1 v n xs) (hn : 0 < n) :
    ∃ g cap, v = .slice (some ⟨g, 0, none⟩) n cap ∧ B ≤ g ∧ g < w.heap.size ∧ n ≤ cap ∧ ∀ j, j < n → w.cell? ⟨g, j, none⟩ = xs[j]? := by
  rcases h.2 with ⟨_, h0⟩ | ⟨g, cap, cur, rfl, hb, hg, hc, h5, h6, h7⟩
  · omega
  · exact ⟨g, cap, rfl, hb, (Array.getElem?_eq_some_iff.1 hg).1, hc, fun j hj => h.cellAt j (by omega)⟩
theorem own_shape {w : World} {B : Nat} {e : TypeId} {v : Value} {n : Nat} {xs : List Value} (h : w.ownsRow B e 1 v n xs) :
    ∃ A c, v = .slice A n c ∧ (0 < n → ∃ g, A = some ⟨g, 0, none⟩ ∧ B ≤ g ∧ g < w.heap.size ∧ ∀ j, j < n → w.cell? ⟨g, j, none⟩ = xs[j]?) := by
  by_cases h0 : 0 < n
  · obtain ⟨g, cap, rfl, k1, k2, k3, k4⟩ := own_at h h0
    exact ⟨_, _, rfl, fun _ => ⟨g, rfl, k1, k2, k4⟩⟩
  · obtain rfl : n = 0 := by omega
    rcases h.2 with ⟨rfl, _⟩ | ⟨g, cap, cur, rfl, _⟩
    · exact ⟨_, _, rfl, fun h => by omega⟩
    · exact ⟨_, _, rfl, fun h => by omega⟩
theorem own_blk {w : World} {B : Nat} {e : TypeId} {g n cap : Nat} {xs : List Value} (h : w.ownsRow B e 1 (.slice (some ⟨g, 0, none⟩) n cap) n xs) :
    ∃ cur, w.heap[g]? = some (.cells cur e (0, 0)) ∧ n ≤ cur.size := by
  rcases h.2 with ⟨h0, _⟩ | ⟨g', cap', cur, hv, hb, hg, hc, h5, h6, h7⟩
  · cases h0
  · injection hv with h1 h2 h3
    injection h1 with h1
    injection h1 with h1
    subst h1
    exact ⟨cur, hg, by omega⟩
theorem only_trans {a b c : World} {row : Option Nat} (h : a.grownBy b row) (k : b.grownBy c row) : a.grownBy c row :=
  ⟨k.os.trans h.os, k.tape.trans h.tape, k.output.trans h.output, Nat.le_trans h.size k.size, fun i hi hn => (k.block i (Nat.lt_of_lt_of_le hi h.size) hn).trans (h.block i hi hn)⟩
theorem only_setCell {a w : World} {g i : Nat} (h : a.grownBy w (some g)) (u : Value) : a.grownBy (w.setCell ⟨g, i, none⟩ u) (some g) :=
  only_trans h ⟨rfl, rfl, rfl, by simp [World.setCell], fun k _ hn => Below.heap_setCell _ _ _ _ (by simpa using hn)⟩
theorem below_only {B : Nat} {a b c : World} {g : Nat} (h : Below B a b) (k : b.grownBy c (some g)) (hB : B ≤ b.heap.size) (hg : B ≤ g) : Below B a c :=
  h.grown k hB (fun _ e => by cases e; exact hg)
/-- One operation alone may come up. -/
theorem wpAny_one {P : Program} {md : Region.Mode} {ops : Array Oper} {Q : Exit → Act → World → Prop} {fuel : Nat} {listed : Array Bool} {a : Act} {w : World} (i : Nat) (o : Oper) (hr : Region.ready md ops listed = [i]) (ho : ops[i]? = some o)
    (hw : Region.wanted o (yielded ops a.tmps) = true) (h : ∀ K : Act → World → Prop, (∀ a w, wpAny P md ops Q fuel (listed.setIfInBounds i true) a w → K a w) → o.wp P a w K Q) : wpAny P md ops Q (fuel + 1) listed a w :=
  wpAny_ready (rs := [i]) hr (by simp) (AllReady.cons ho (fun K hK => by rw [if_pos hw]; exact h K hK) AllReady.nil)
/-- What the walk is told of a slice of bytes that came in. -/
def IsRow (k : IntKind) (w : World) (a : Option Addr) (len cap : Nat) (zs : List Int) : Prop :=
  (a = none ∧ len = 0 ∧ cap = 0 ∧ zs = []) ∨
  ∃ x, a = some x ∧ len ≤ cap ∧ cap ≤ maxLen ∧ zs.length = cap ∧ (∀ i, i < zs.length → w.cell? (x.add i) = some (.int k (zs.getD i 0))) ∧ ∀ n ∈ zs, (Lit.int k n).wf = true
/-- .. and so: nothing is there to be read, or the cells hold bytes. -/
theorem IsRow.bytes {w : World} {A : Option Addr} {len cap : Nat} {zs : List Int} (h : IsRow .u8 w A len cap zs) (h0 : 0 < len) :
    ∃ b off, A = some ⟨b, off, none⟩ ∧ len ≤ cap ∧ cap ≤ maxLen ∧ b < w.heap.size ∧ ∃ f : Nat → Nat, (∀ j, f j < 256) ∧ ∀ j, j < len → w.cell? ⟨b, off + j, none⟩ = some (.int .u8 (f j : Nat)) := by
  rcases h with ⟨_, h1, _⟩ | ⟨⟨b, off, spot⟩, rfl, h1, h2, h3, h4, h5⟩
  · omega
  · have c0 := h4 0 (by omega)
    have hs : spot = none := by simpa [Addr.add] using World.cell?_spot c0
    subst hs
    refine ⟨b, off, rfl, h1, h2, World.block_lt_of_cell? _ _ (by simpa [Addr.add] using c0), fun j => (zs.getD j 0).toNat, fun j => ?_, fun j hj => ?_⟩
    · have := range_u8 h5 j
      simp only [List.getD_eq_getElem?_getD]
      omega
    · have hc := h4 j (by omega)
      have hadd : (⟨b, off, none⟩ : Addr).add j = ⟨b, off + j, none⟩ := by unfold Addr.add; split <;> simp_all
      have hr := range_u8 h5 j
      simp only [List.getD_eq_getElem?_getD] at hc ⊢
      rw [← hadd, hc, Int.toNat_of_nonneg hr.1]
theorem int_eq {k : IntKind} {a b : Int} (h : a = b) : Value.int k a = Value.int k b := by rw [h]
theorem setRow_cell (w : World) (g : Nat) (cs : Array Value) (t : TypeId) (v : Value) (i : Nat) (hg : w.heap[g]? = some (.cells cs t (0, 0))) :
    (w.setCell ⟨g, i, none⟩ v).heap[g]? = some (.cells (cs.setIfInBounds i v) t (0, 0)) := heap_setCell_same w g i cs t v hg
section
open Go.Sort (grow)
theorem near_iff {w w' : World} : (∃ p : Regrown, w' = grow (redrawn w p.d) p.os) ↔ Below w.heap.size w w' :=
  ⟨fun ⟨p, h⟩ => by rw [h]; exact below_regrown w p.d p.os, regrown_of_below⟩
section
variable {P : Program} {ops : Array Oper} {rest : List Oper} {o : Oper} {a : Act} {w : World} {Q : Act → Prop}
theorem wpq_on {C : World → Prop} (hw : Region.wanted o (yielded ops a.tmps) = true) (h : o.quiet P a C (wpQuiet P ops C Q rest)) : wpQuiet P ops C Q (o :: rest) a :=
  wpQuiet_step fun K hK => by rw [if_pos hw]; exact Oper.quiet_mono hK h
/-- An operation that yields v, whatever the world of the class. -/
theorem wpq_value {C : World → Prop} (hw : Region.wanted o (yielded ops a.tmps) = true) (v : Value) (hr : ∀ w', C w' → (execOp a.eval o).run P w' = .ok (.value v) w')
    (h : wpQuiet P ops C Q rest (a.put o.dst v)) : wpQuiet P ops C Q (o :: rest) a :=
  wpq_on hw ⟨v, fun w' hC => by unfold Oper.quietAt; rw [hr w' hC]; exact ⟨rfl, rfl⟩, h⟩
end
end
theorem run_eq_list {P : Program} (w : World) (d : Nat) (e : TypeId) (k : Nat) (xs ys : Array Value) (X Y : Nat → Value) (b : Nat → Bool) :
    ∀ l : List Nat, (∀ i ∈ l, (part e xs (i * k)).run P w = .ok (X i) w) → (∀ i ∈ l, (part e ys (i * k)).run P w = .ok (Y i) w) → (∀ i ∈ l, (Op.equalIn d e (X i) (Y i)).run P w = .ok (b i) w) →
    Sem.run P (forIn l ((none : Option Bool), ()) fun i _ => do
            let x ← part e xs (i * k)
            let y ← part e ys (i * k)
            let r ← Op.equalIn d e x y
            if (!r) = true then pure (ForInStep.done (some false, ())) else pure (ForInStep.yield (none, ()))) w =
      .ok (if l.all b then (none, ()) else (some false, ())) w := by
  intro l
  induction l with
  | nil => intro _ _ _; simp
  | cons i l ih =>
    intro hx hy hb
    simp only [List.forIn_cons, Sem.run_bind, hx i (by simp), hy i (by simp), hb i (by simp), Result.andThen_ok, Sem.run_ite]
    cases hbi : b i
    · simp [hbi]
    · simp only [Bool.not_true, Bool.false_eq_true, if_false, Sem.run_pure, Result.andThen_ok]
      rw [ih (fun j hj => hx j (by simp [hj])) (fun j hj => hy j (by simp [hj])) (fun j hj => hb j (by simp [hj]))]
      simp [hbi]
theorem run_equalIn_array {P : Program} (w : World) (d : Nat) (t e : TypeId) (n k : Nat) (xs ys : Array Value) (X Y : Nat → Value) (b : Nat → Bool) (ht : P.underlying t = some (.array n e)) (hs : (sizeOf e).run P w = .ok k w)
    (hx : ∀ i, i < n → (part e xs (i * k)).run P w = .ok (X i) w) (hy : ∀ i, i < n → (part e ys (i * k)).run P w = .ok (Y i) w) (hb : ∀ i, i < n → (Op.equalIn d e (X i) (Y i)).run P w = .ok (b i) w) :
    (Op.equalIn (d + 1) t (.agg xs) (.agg ys)).run P w = .ok ((List.range n).all b) w := by
  simp only [Op.equalIn, Sem.run_bind, run_underlying ht, Result.andThen_ok, hs]
  rw [Std.Legacy.Range.forIn_eq_forIn_range']
  have hr : List.range' [:n].start [:n].size [:n].step = List.range n := by
    simp [Std.Legacy.Range.size, List.range_eq_range']
  rw [hr, run_eq_list w d e k xs ys X Y b (List.range n) (fun i hi => hx i (by simpa using hi)) (fun i hi => hy i (by simpa using hi)) (fun i hi => hb i (by simpa using hi))]
  cases (List.range n).all b <;> simp
theorem results_cell_tmp {P : Program} {fn : Func} {p t' : Tmp} {ty : TypeId} (h : fn.results = #[.cell p ty, .tmp t']) (tmps : Array Value) (w : World) (g : Nat) (t : TypeId) (cs : Array Value) (fr : Nat × Nat) (d : TypeDesc)
    (hp : tmps.getD p undef = .pointer (some ⟨g, 0, none⟩)) (hg : w.heap[g]? = some (.cells cs t fr))
    (hu : P.underlying ty = some d) (hd : (match d with | .struct _ | .array _ _ => true | _ => false) = true) (hi : (P.info? ty).map (·.size) = some cs.size) :
    (results fn tmps).run P w = .ok (.tuple #[.agg cs, tmps.getD t' undef]) w := by
  have hp' : tmps[p]?.getD undef = .pointer (some ⟨g, 0, none⟩) := by simpa using hp
  simp [results, h, hp', asAddr, run_loadVar_row w g t ty cs fr d hg hu hd hi]
/-- An integer result of which something is known. -/
def SomeInt (p : Int → Prop) (w : World) (e : Ending) (w' : World) : Prop := ∃ n : Int, p n ∧ e = .returned (.int .i64 n) ∧ Below w.heap.size w w'
/-! ### What is left as it was but for some blocks -/
/-- w' is w, but for the blocks in S and new blocks. -/
structure Fr (S : Nat → Prop) (w w' : World) : Prop where
  os : w'.os = w.os
  tape : w'.tape = w.tape
  output : w'.output = w.output
  size : w.heap.size ≤ w'.heap.size
  block : ∀ k, k < w.heap.size → ¬ S k → w'.heap[k]? = w.heap[k]?
theorem Fr.refl (S : Nat → Prop) (w : World) : Fr S w w := ⟨rfl, rfl, rfl, Nat.le_refl _, fun _ _ _ => rfl⟩
theorem Fr.trans {S : Nat → Prop} {a b c : World} (h : Fr S a b) (k : Fr S b c) : Fr S a c :=
  ⟨k.os.trans h.os, k.tape.trans h.tape, k.output.trans h.output, Nat.le_trans h.size k.size, fun i hi hn => (k.block i (Nat.lt_of_lt_of_le hi h.size) hn).trans (h.block i hi hn)⟩
theorem Fr.mono {S T : Nat → Prop} {w w' : World} (h : Fr S w w') (hs : ∀ k, S k → T k) : Fr T w w' := ⟨h.os, h.tape, h.output, h.size, fun k hk hn => h.block k hk (fun e => hn (hs k e))⟩
theorem Fr.of_below {S : Nat → Prop} {w w' : World} (h : Below w.heap.size w w') : Fr S w w' := ⟨h.os, h.tape, h.output, h.size, fun k hk _ => h.block k hk⟩
theorem Fr.alloc {S : Nat → Prop} {a w : World} (h : Fr S a w) (o : Obj) : Fr S a (w.alloc o) := h.trans (Fr.of_below ((Below.refl _ _).alloc (Nat.le_refl _) o))
theorem Fr.drew {S : Nat → Prop} {a w : World} (h : Fr S a w) : Fr S a w.drew := ⟨h.os, h.tape, h.output, h.size, h.block⟩
theorem Fr.drewN {S : Nat → Prop} {a w : World} (h : Fr S a w) (n : Nat) : Fr S a (w.drewN n) := ⟨h.os, h.tape, h.output, h.size, h.block⟩
theorem Fr.setCell {S : Nat → Prop} {a w : World} (h : Fr S a w) {b i : Nat} (hb : S b ∨ a.heap.size ≤ b) (u : Value) : Fr S a (w.setCell ⟨b, i, none⟩ u) :=
  ⟨h.os, h.tape, h.output, by simpa [World.setCell] using h.size, fun k hk hn => (Below.heap_setCell _ _ _ _ (by
    rintro rfl
    rcases hb with hb | hb
    · exact hn hb
    · exact Nat.not_lt.2 hb hk)).trans (h.block k hk hn)⟩
theorem Fr.below {S : Nat → Prop} {w w' : World} {B : Nat} (h : Fr S w w') (hB : B ≤ w.heap.size) (hs : ∀ k, S k → B ≤ k) : Below B w w' :=
  ⟨h.os, h.tape, h.output, h.size, fun k hk => h.block k (by omega) (fun e => by have := hs k e; omega)⟩
theorem Fr.blk {S : Nat → Prop} {w w' : World} {b : Nat} {o : Obj} (h : Fr S w w') (hb : ¬ S b) (hg : w.heap[b]? = some o) : w'.heap[b]? = some o := by
  rw [h.block b (Array.getElem?_eq_some_iff.1 hg).1 hb, hg]
theorem Fr.cell {S : Nat → Prop} {w w' : World} {b i : Nat} {v : Value} (h : Fr S w w') (hb : ¬ S b) (hg : w.cell? ⟨b, i, none⟩ = some v) : w'.cell? ⟨b, i, none⟩ = some v := by
  have hlt := World.block_lt_of_cell? _ _ hg
  rw [World.cell?_of_block (w := w) (h.block b hlt hb), hg]
theorem blk_lt {w : World} {b : Nat} {o : Obj} (h : w.heap[b]? = some o) : b < w.heap.size := (Array.getElem?_eq_some_iff.1 h).1
theorem blk_alloc {w : World} {b : Nat} {o x : Obj} (h : w.heap[b]? = some o) : (w.alloc x).heap[b]? = some o := by rw [Below.heap_alloc _ _ _ (blk_lt h)]; exact h
theorem blk_set_other {w : World} {b g i : Nat} {o : Obj} {u : Value} (h : w.heap[b]? = some o) (hne : b ≠ g) : (w.setCell ⟨g, i, none⟩ u).heap[b]? = some o := by rw [Below.heap_setCell _ _ _ _ hne]; exact h
theorem own : ownKnob Try.prog.godebug = none := by kernel_rfl
theorem laidOut : laidOutB Try.prog = true := by kernel_rfl
end Go.Proofs.Ytpjgcpnjfopolaa
