/-
  THE TABLE as the document has it; as the program holds it; New, in, Find, Give.
-/
import Derived.Test.YtpjgcpnjfopolaaIter
namespace Go.Proofs.Ytpjgcpnjfopolaa
open Go.RowKit Go.Deep
/-- Grants by inode and client; who waits for an inode (0: nobody), and up to when. -/
structure Tab where
  g : Int → Int → Option (Bool × Int)
  wc : Int → Int
  wt : Int → Int
structure Tab.Ok (s : Tab) : Prop where
  g : ∀ i c p, s.g i c = some p → (1 ≤ i ∧ i ≤ 32) ∧ 1 ≤ c ∧ c ≤ 8
  wc : ∀ i, 0 ≤ s.wc i ∧ s.wc i ≤ 8
  z : s.wc 0 = 0
def s0 : Tab := ⟨fun _ _ => none, fun _ => 0, fun _ => 0⟩
/-- The waits, in a struct's array. -/
def Waits (arr : Array Value) (m : Nat) (s : Tab) : Prop := arr.size = 67 ∧ arr[0]? = some (.map (some m)) ∧
  ∀ i : Nat, i ≤ 32 → arr[1 + i * 2]? = some (.int .i64 (s.wc i)) ∧ ∃ t, arr[1 + i * 2 + 1]? = some (.int .i64 t) ∧ (s.wc i ≠ 0 → t = s.wt i)
/-- The program's table: its struct in block b, its map in block m. -/
structure TP (w : World) (b m : Nat) (s : Tab) : Prop where
  ok : s.Ok
  tab : ∃ arr, w.heap[b]? = some (.cells arr 56 (0, 0)) ∧ Waits arr m s
  map : ∃ es clock, MapAt w m es clock ∧ Rep es clock s.g
  ne : b ≠ m
theorem TP.lt {w : World} {b m : Nat} {s : Tab} (h : TP w b m s) : b < w.heap.size ∧ m < w.heap.size := by
  obtain ⟨arr, h1, _⟩ := h.tab
  obtain ⟨es, clock, h2, _⟩ := h.map
  exact ⟨blk_lt h1, blk_lt (o := .map (es.map Ent.me).toArray clock) h2⟩
theorem TP.fr {S : Nat → Prop} {w w' : World} {b m : Nat} {s : Tab} (h : TP w b m s) (k : Fr S w w') (hb : ¬ S b) (hm : ¬ S m) : TP w' b m s := by
  obtain ⟨arr, h1, h2⟩ := h.tab
  obtain ⟨es, clock, h3, h4⟩ := h.map
  exact ⟨h.ok, ⟨arr, k.blk hb h1, h2⟩, ⟨es, clock, k.blk (o := .map (es.map Ent.me).toArray clock) hm h3, h4⟩, h.ne⟩
theorem TP.below {w w' : World} {b m : Nat} {s : Tab} (h : TP w b m s) (k : Below w.heap.size w w') : TP w' b m s := h.fr (S := fun _ => False) (Fr.of_below k) id id
def inB (a n b : Int) : Bool := decide (a ≤ n ∧ n ≤ b)
theorem in_any (n a b : Int) (w : World) : Calls Try.prog 24 #[.int .i64 n, .int .i64 a, .int .i64 b] w fun e w' => e = .returned (.bool (inB a n b)) ∧ w = w' := by
  by_cases h1 : a ≤ n
  · by_cases h2 : n ≤ b
    · have HD : inB a n b = true := by unfold inB; simp; omega
      rw [HD]
      clear HD
      go_enter Try.func24, Try.ntmps24
      go_wp2
      go_ret
      exact ⟨rfl, rfl⟩
    · have HD : inB a n b = false := by unfold inB; simp; omega
      rw [HD]
      clear HD
      go_enter Try.func24, Try.ntmps24
      go_wp2
      go_ret
      exact ⟨rfl, rfl⟩
  · have HD : inB a n b = false := by unfold inB; simp; omega
    rw [HD]
    clear HD
    go_enter Try.func24, Try.ntmps24
    go_wp2
    go_ret
    exact ⟨rfl, rfl⟩
theorem zc56 : Try.zeroCells56 = #[.map none] ++ Array.replicate 66 (.int .i64 0) := by kernel_rfl
theorem waits0 (m : Nat) : Waits (Try.zeroCells56.setIfInBounds 0 (.map (some m))) m s0 := by
  rw [zc56]
  have hz : ∀ j, 1 ≤ j → j < 67 → ((#[Value.map none] ++ Array.replicate 66 (Value.int .i64 0)).setIfInBounds 0 (.map (some m)))[j]? = some (.int .i64 0) := fun j h1 h2 => by
    rw [Array.getElem?_setIfInBounds, if_neg (by omega), Array.getElem?_append_right (by simp; omega), Array.getElem?_replicate, if_pos (by simp; omega)]
  exact ⟨by simp, by simp, fun i hi => ⟨hz _ (by omega) (by omega), 0, hz _ (by omega) (by omega), fun h => absurd rfl h⟩⟩
set_option maxRecDepth 100000 in
set_option maxHeartbeats 400000 in
theorem new_any (w : World) : Calls Try.prog 8 #[] w fun e w' => ∃ b m, e = .returned (.pointer (some ⟨b, 0, none⟩)) ∧ TP w' b m s0 ∧ w.heap.size ≤ b ∧ w.heap.size ≤ m ∧ Below w.heap.size w w' := by
  have hmm := @run_makeMap Try.prog
  go_enter Try.func8, Try.ntmps8
  go_wp2_with fail
  go_ret
  have hok : s0.Ok := ⟨(fun _ _ _ h => by cases h), fun _ => ⟨Int.le_refl _, (by decide : (0 : Int) ≤ 8)⟩, rfl⟩
  refine ⟨_, _, rfl, ⟨hok, ⟨_, heap_alloc2_new _ _ _, waits0 _⟩, ⟨[], 0, heap_alloc2_old _ _ _, ⟨by simp, by simp, by simp, by simp, (fun _ _ _ h => by cases h)⟩⟩, by omega⟩, by omega, by omega, ?_⟩
  exact ((Below.refl _ _).alloc (Nat.le_refl _) _).alloc (by simp) _
set_option maxRecDepth 100000 in
set_option maxHeartbeats 400000 in
theorem find_any {w : World} {b m : Nat} {s : Tab} (h : TP w b m s) (c i : Int) : Calls Try.prog 14 #[.pointer (some ⟨b, 0, none⟩), .int .i64 c, .int .i64 i] w fun e w' =>
    e = .returned (.tuple #[got s.g i c, .bool (s.g i c).isSome]) ∧ Below w.heap.size w w' := by
  obtain ⟨arr, hb, ha⟩ := h.tab
  obtain ⟨es, clock, hm, hr⟩ := h.map
  have c0 := blk_cell hb ha.2.1
  have hbl := h.lt.1
  have hlk := fun W (k : Below w.heap.size w W) => run_look (w := W) (blk_below (o := .map (es.map Ent.me).toArray clock) k h.lt.2 hm) hr i c
  have hl1 := hlk (w.alloc (.cells #[.int .i64 0, .int .i64 0, .bool false, .int .i64 0] 40)) ((Below.refl _ _).alloc (Nat.le_refl _) _)
  clear hm hr ha hb h hlk
  have hbel : ∀ x y : Array Value, Below w.heap.size w ((w.alloc (.cells x 40)).alloc (.cells y 40)) := fun x y => ((Below.refl _ _).alloc (Nat.le_refl _) _).alloc (by simp) _
  have HBEL := Lib.hid hbel
  clear hbel
  cases hg : s.g i c with
  | none =>
    have e1 : got s.g i c = .agg #[.int .i64 0, .int .i64 0, .bool false, .int .i64 0] := by unfold got; rw [hg]; rfl
    rw [hg, e1] at hl1
    rw [e1]
    clear hg e1
    go_enter Try.func14, Try.ntmps14
    go_wp2_with fail
    exact bodyPost_ret (v := .tuple #[.agg #[.int .i64 0, .int .i64 0, .bool false, .int .i64 0], .bool false]) (by simp [results, Try.results14, go_sem]) rfl ⟨rfl, HBEL.out _ _⟩
  | some p =>
    have e1 : got s.g i c = .agg #[.int .i64 c, .int .i64 i, .bool p.1, .int .i64 p.2] := by unfold got; rw [hg]; rfl
    rw [hg, e1] at hl1
    rw [e1]
    clear hg e1
    go_enter Try.func14, Try.ntmps14
    go_wp2_with fail
    exact bodyPost_ret (v := .tuple #[.agg #[.int .i64 c, .int .i64 i, .bool p.1, .int .i64 p.2], .bool true]) (by simp [results, Try.results14, go_sem]) rfl ⟨rfl, HBEL.out _ _⟩
end Go.Proofs.Ytpjgcpnjfopolaa
