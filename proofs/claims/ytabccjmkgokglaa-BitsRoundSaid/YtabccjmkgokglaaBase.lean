/-
  LAWS on worlds, rows of cells and bits that the walks of this seat lean on; no statement of the program is made here.
-/
import Derived.Test.YtabccjmkgokglaaRows
import Derived.WalkKit
import Derived.WalkSpells
import Derived.WalkLawsBesides
import Derived.BigQuiet
import Derived.Deep.QuietTactic
import Derived.Deep.WholeRow
import Derived.Laws.BitsAllLaws
import Derived.Lib.Hide
import Derived.Lib.QuietBelow
namespace Go.Proofs.Ytabccjmkgokglaa
open Go.RowKit
theorem blk_new {w w' : World} {o : Obj} (hb : Below (w.alloc o).heap.size (w.alloc o) w') : w'.heap[w.heap.size]? = some o := by
  rw [hb.block _ (by simp), heap_alloc_new]
theorem blk_below {B b : Nat} {w w' : World} {o : Obj} (hb : Below B w w') (hlt : b < B) (h : w.heap[b]? = some o) : w'.heap[b]? = some o := by
  rw [hb.block _ hlt, h]
theorem blk_cell {w : World} {b j : Nat} {cs : Array Value} {t : TypeId} {fr : Nat × Nat} {v : Value} (h : w.heap[b]? = some (.cells cs t fr)) (hj : cs[j]? = some v) : w.cell? ⟨b, j, none⟩ = some v := by
  rw [cell_of_row w b j cs t fr h, hj]
theorem below_new {w w' : World} {o : Obj} (hb : Below (w.alloc o).heap.size (w.alloc o) w') : Below w.heap.size w w' :=
  ((Below.refl _ _).alloc (Nat.le_refl _) o).trans (hb.mono (by simp))
theorem blk_new2 {w w' : World} {o o2 : Obj} (hb : Below ((w.alloc o).alloc o2).heap.size ((w.alloc o).alloc o2) w') : w'.heap[w.heap.size]? = some o := by
  rw [hb.block _ (by simp; omega), heap_alloc2_old]
theorem blk_new2' {w w' : World} {o o2 : Obj} (hb : Below ((w.alloc o).alloc o2).heap.size ((w.alloc o).alloc o2) w') : w'.heap[w.heap.size + 1]? = some o2 := by
  rw [hb.block _ (by simp), heap_alloc2_new]
theorem below_new2 {w w' : World} {o o2 : Obj} (hb : Below ((w.alloc o).alloc o2).heap.size ((w.alloc o).alloc o2) w') : Below w.heap.size w w' :=
  below_new ((below_new hb))
theorem below_setRow' {B g : Nat} {a w : World} (h : Below B a w) (hg : B ≤ g) (cs : Array Value) : Below B a (w.setRow g cs) :=
  h.trans ⟨rfl, rfl, rfl, by simp, fun k hk => setRow_other _ _ _ _ (by omega)⟩
theorem ret_bool {a b : Bool} (h : a = b) : Ending.returned (.bool a) = .returned (.bool b) := by rw [h]
theorem ret_int {k : IntKind} {a b : Int} (h : a = b) : Ending.returned (.int k a) = .returned (.int k b) := by rw [h]
theorem wpl_on {P : Program} {ops : Array Oper} {rest : List Oper} {o : Oper} {a : Act} {w : World} {Q : Exit → Act → World → Prop} (hw : Region.wanted o (yielded ops a.tmps) = true)
    (h : ∀ K : Act → World → Prop, (∀ a w, wpList P ops Q rest a w → K a w) → o.wp P a w K Q) : wpList P ops Q (o :: rest) a w :=
  wpList_step fun K hK => by rw [if_pos hw]; exact h K hK
theorem i64_and7 (n : Int) (h0 : 0 ≤ n) (h1 : n ≤ 9223372036854775807) : bits .and .i64 n 7 = n % 8 := by
  obtain ⟨a, rfl⟩ := Int.eq_ofNat_of_zero_le h0
  have e : ∀ a : Nat, a < 9223372036854775808 → (BitVec.ofInt 64 (a : Int)).toNat = a := fun a ha => by
    rw [BitVec.ofInt_natCast, BitVec.toNat_ofNat]; exact Nat.mod_eq_of_lt (by omega)
  show IntKind.i64.wrap ((BitVec.ofInt 64 (a : Int) &&& BitVec.ofInt 64 ((7:Nat) : Int)).toNat : Int) = _
  rw [BitVec.toNat_and, e a (by omega), e 7 (by omega), nat_mask3, IntKind.wrap_i64]
  omega
theorem shl1_u8 (c : Int) (h0 : 0 ≤ c) (h1 : c < 8) : IntKind.u8.wrap (1 * 2 ^ min c.toNat 8) = 2 ^ c.toNat := by
  rw [IntKind.wrap_u8', Int.one_mul, u8_shl_one_var c h0, if_neg (by omega)]
theorem pow8 (n : Nat) (h : n < 8) : (2:Int) ^ n % 256 = 2 ^ n := by
  have : n = 0 ∨ n = 1 ∨ n = 2 ∨ n = 3 ∨ n = 4 ∨ n = 5 ∨ n = 6 ∨ n = 7 := by omega
  rcases this with rfl | rfl | rfl | rfl | rfl | rfl | rfl | rfl <;> rfl
theorem and_bit (x : Nat) (hx : x < 256) (k : Nat) (hk : k < 8) : (bits BinOp.and IntKind.u8 (x : Int) (2 ^ k) != 0) = decide (x / 2 ^ k % 2 = 1) := by
  have hp : (2:Int) ^ k = ((2 ^ k : Nat) : Int) := by simp
  have hlt : 2 ^ k < 256 := by
    have : 2 ^ k < 2 ^ 8 := Nat.pow_lt_pow_of_lt (by decide) hk
    simpa using this
  rw [hp, u8_and_nat x _ hx hlt, nat_bit]
  have h0 : 0 < 2 ^ k := Nat.two_pow_pos k
  have h2 : x / 2 ^ k % 2 = 0 ∨ x / 2 ^ k % 2 = 1 := by omega
  rcases h2 with h2 | h2 <;> rw [h2] <;> simp
  omega
theorem u8_or' (x : Nat) (hx : x < 256) (k : Nat) (hk : k < 8) : bits BinOp.or IntKind.u8 (x : Int) (2 ^ k) = ((x ||| 2 ^ k : Nat) : Int) := by
  have hp : (2:Int) ^ k = ((2 ^ k : Nat) : Int) := by simp
  have hlt : 2 ^ k < 256 := by
    have : 2 ^ k < 2 ^ 8 := Nat.pow_lt_pow_of_lt (by decide) hk
    simpa using this
  rw [hp, u8_or_nat x _ hx hlt]
theorem u8_andNot' (x : Nat) (hx : x < 256) (k : Nat) (hk : k < 8) : bits BinOp.andNot IntKind.u8 (x : Int) (2 ^ k) = ((x &&& (255 - 2 ^ k) : Nat) : Int) := by
  have hp : (2:Int) ^ k = ((2 ^ k : Nat) : Int) := by simp
  have hlt : 2 ^ k < 256 := by
    have : 2 ^ k < 2 ^ 8 := Nat.pow_lt_pow_of_lt (by decide) hk
    simpa using this
  rw [hp, u8_andNot_nat x _ hx hlt]
theorem below_box {w wr : World} {o : Obj} (h : Below (w.heap.size + 1) (w.alloc o) wr) : Below w.heap.size w wr :=
  ((Below.refl _ _).alloc (Nat.le_refl _) o).trans (h.mono (by omega))
theorem below_then {w wr w' : World} (h : Below w.heap.size w wr) (hb : Below wr.heap.size wr w') : Below w.heap.size w w' := h.trans (hb.mono h.size)
theorem below_then' {B : Nat} {a wr w' : World} (h : Below B a wr) (hB : B ≤ wr.heap.size) (hb : Below wr.heap.size wr w') : Below B a w' := h.trans (hb.mono hB)
theorem size_box {w wr : World} {o : Obj} (h : Below (w.heap.size + 1) (w.alloc o) wr) : w.heap.size + 1 ≤ wr.heap.size := by have := h.size; simp at this; omega
theorem own_mono {w : World} {B B' : Nat} {e : TypeId} {size : Nat} {v : Value} {n : Nat} {xs : List Value} (h : w.ownsRow B e size v n xs) (hB : B' ≤ B) : w.ownsRow B' e size v n xs := by
  refine ⟨h.1, ?_⟩
  rcases h.2 with h0 | ⟨g, cap, cur, hv, hb, r⟩
  · exact .inl h0
  · exact .inr ⟨g, cap, cur, hv, Nat.le_trans hB hb, r⟩
theorem own_below {w w' : World} {B : Nat} {e : TypeId} {size : Nat} {v : Value} {n : Nat} {xs : List Value} (h : w.ownsRow B e size v n xs) (hb : Below w.heap.size w w') : w'.ownsRow B e size v n xs :=
  h.kept (row := none) ⟨hb.os, hb.tape, hb.output, hb.size, fun k hk _ => hb.block k hk⟩ (by cases v.ownBlock <;> simp)
theorem heap3_0 (w : World) (a b c : Obj) : (((w.alloc a).alloc b).alloc c).heap[w.heap.size]? = some a := by
  rw [Below.heap_alloc ((w.alloc a).alloc b) c w.heap.size (by simp; omega), heap_alloc2_old]
theorem heap3_1 (w : World) (a b c : Obj) : (((w.alloc a).alloc b).alloc c).heap[w.heap.size + 1]? = some b := by
  rw [Below.heap_alloc ((w.alloc a).alloc b) c (w.heap.size + 1) (by simp), heap_alloc2_new]
theorem heap3_2 (w : World) (a b c : Obj) : (((w.alloc a).alloc b).alloc c).heap[w.heap.size + 2]? = some c := by
  have h := heap_alloc2_new (w.alloc a) b c
  have e : (w.alloc a).heap.size = w.heap.size + 1 := by simp
  rwa [e] at h
/-- 'out = append(out, u)' on a slice of the call's own, u laid in a new block just before. -/
theorem wpl_app {P : Program} {ops : Array Oper} {rest : List Oper} {o : Oper} {a : Act} {Q : Exit → Act → World → Prop} {w w0 : World} {B : Nat} (T E : TypeId) (z : Value) (bytes : Nat)
    (ht : P.underlying T = some (.slice E)) (hinfo : (P.info? E).map (fun i => (i.zero, i.size, i.bytes)) = some (some z, 1, bytes)) (hz1 : z.cells.size = 1) (hby : bytes ≤ 64)
    (hgd : o.guard = none) (s x : Operand) (ho : o.op = .call { callee := .builtin .append, args := #[s, x], argTypes := #[T, T] }) {v : Value} {n : Nat} {xs : List Value} {u : Value}
    (hs : a.eval s = v) (hown : w.ownsRow B E 1 v n xs) (hbel : Below B w0 w) (hB : B ≤ w.heap.size) (hu : u.oneCell' = true) (hx : a.eval x = .slice (some ⟨w.heap.size, 0, none⟩) 1 1) (hn : n < 1000000000)
    (h : ∀ v' w', w'.ownsRow B E 1 v' (n + 1) (xs ++ [u]) → Below B w0 w' → B ≤ w'.heap.size → wpList P ops Q rest (a.put o.dst v') w') : wpList P ops Q (o :: rest) a (w.alloc (.cells #[u] E)) := by
  obtain ⟨i0, hi, hz0, hz, hb⟩ := info_parts hinfo
  refine wpList_append_own _ hgd s x T ho B E i0 z 1 bytes ht hi hz0 hz hb hz1 (by decide) v n xs hs (hown.alloc _) ⟨w.heap.size, 0, none⟩ 1 1 [u] hx rfl ?_ ?_ ?_ ?_ ?_ ?_
  · intro j y hj
    match j, hj with
    | 0, hj => simp at hj; subst hj; exact blk_cell (heap_alloc_new _ _) rfl
  · intro y hy; simp at hy; subst hy; exact hu
  · unfold maxLen; omega
  · have : (n + 1) * bytes ≤ (n + 1) * 64 := Nat.mul_le_mul_left _ hby
    omega
  · simp; omega
  · intro v' w' h1 h2 _
    refine h v' w' h1 ((hbel.alloc hB _).grown h2 (by simp; omega) fun k hk => ?_) (Nat.le_trans (by simp; omega) h2.size)
    exact (hown.lt k hk).1
end Go.Proofs.Ytabccjmkgokglaa
