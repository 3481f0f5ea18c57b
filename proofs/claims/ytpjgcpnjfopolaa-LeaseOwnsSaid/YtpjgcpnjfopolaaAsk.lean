/-
  Ask.
-/
import Derived.Test.YtpjgcpnjfopolaaOthers
namespace Go.Proofs.Ytpjgcpnjfopolaa
open Go.RowKit Go.Deep
def Tab.setW (s : Tab) (i c t : Int) : Tab := { s with wc := fun j => if j = i then c else s.wc j, wt := fun j => if j = i then t else s.wt j }
def Tab.setG (s : Tab) (i c : Int) (p : Option (Bool × Int)) : Tab := { s with g := upd s.g i c p }
/-- Does another client wait for the inode? -/
def anoB (s : Tab) (now c i : Int) : Bool := s.wc i != 0 && (s.wc i != c && decide (now < s.wt i))
def badAsk (now c i : Int) : Bool := !(inB 0 now 1099511627776 && (inB 1 c 8 && inB 1 i 32))
def ask (s : Tab) (now c i : Int) (own : Bool) : List Int × Int × Tab :=
  if badAsk now c i then ([], 1, s)
  else if oth s.g c i own = [] then
    if anoB s now c i then ([], 32, s)
    else ([], 0, (if s.wc i = c then s.setW i 0 0 else s).setG i c (some (own, now + 64)))
  else (oth s.g c i own, 32, if anoB s now c i then s else s.setW i c (now + 64))
theorem Tab.Ok.setW {s : Tab} (h : s.Ok) (i c t : Int) (h0 : 0 ≤ c) (h1 : c ≤ 8) (hz : i ≠ 0 ∨ c = 0) : (s.setW i c t).Ok := ⟨h.g, fun j => by
  unfold Tab.setW
  simp only
  split
  · exact ⟨h0, h1⟩
  · exact h.wc j, by
  unfold Tab.setW
  simp only
  split
  · omega
  · exact h.z⟩
theorem Tab.Ok.setG {s : Tab} (h : s.Ok) (i c : Int) (p : Option (Bool × Int)) (hi : 1 ≤ i ∧ i ≤ 32) (hc : 1 ≤ c ∧ c ≤ 8) : (s.setG i c p).Ok := ⟨fun i' c' p' hp => by
  unfold Tab.setG upd at hp
  simp only at hp
  split at hp
  · rename_i e; rw [e.1, e.2]; exact ⟨hi, hc⟩
  · exact h.g i' c' p' hp, h.wc, h.z⟩
theorem Waits.set {arr : Array Value} {m : Nat} {s : Tab} (h : Waits arr m s) (k : Nat) (hk : k ≤ 32) (c t : Int) : Waits ((arr.setIfInBounds (1 + k * 2) (.int .i64 c)).setIfInBounds (1 + k * 2 + 1) (.int .i64 t)) m (s.setW k c t) := by
  obtain ⟨h1, h2, h3⟩ := h
  refine ⟨by simpa using h1, ?_, fun i hi => ?_⟩
  · rw [Array.getElem?_setIfInBounds, Array.getElem?_setIfInBounds, if_neg (by omega), if_neg (by omega)]
    exact h2
  · unfold Tab.setW
    simp only
    by_cases hik : i = k
    · subst hik
      refine ⟨?_, t, ?_, fun _ => by simp⟩
      · rw [Array.getElem?_setIfInBounds, Array.getElem?_setIfInBounds, if_neg (by omega), if_pos rfl, if_pos (by omega)]
        simp
      · rw [Array.getElem?_setIfInBounds, if_pos rfl, if_pos (by simp; omega)]
    · have hne : ¬ ((i : Int) = (k : Int)) := by omega
      obtain ⟨h4, t', h5, h6⟩ := h3 i hi
      refine ⟨?_, t', ?_, fun h => ?_⟩
      · rw [Array.getElem?_setIfInBounds, Array.getElem?_setIfInBounds, if_neg (by omega), if_neg (by omega), if_neg hne]
        exact h4
      · rw [Array.getElem?_setIfInBounds, Array.getElem?_setIfInBounds, if_neg (by omega), if_neg (by omega)]
        exact h5
      · rw [if_neg hne] at h ⊢
        exact h6 h
theorem TP.setW {w : World} {b m : Nat} {s : Tab} (h : TP w b m s) (k : Nat) (hk : k ≤ 32) (c t : Int) (h0 : 0 ≤ c) (h1 : c ≤ 8) (hz : 1 ≤ k ∨ c = 0) :
    TP ((w.setCell ⟨b, 1 + k * 2, none⟩ (.int .i64 c)).setCell ⟨b, 1 + k * 2 + 1, none⟩ (.int .i64 t)) b m (s.setW k c t) := by
  obtain ⟨arr, ha, hw⟩ := h.tab
  obtain ⟨es, clock, hm, hr⟩ := h.map
  exact ⟨h.ok.setW _ _ _ h0 h1 (by omega), ⟨_, setRow_cell _ _ _ _ _ _ (setRow_cell _ _ _ _ _ _ ha), hw.set k hk c t⟩,
    ⟨es, clock, blk_set_other (o := .map (es.map Ent.me).toArray clock) (blk_set_other (o := .map (es.map Ent.me).toArray clock) hm (Ne.symm h.ne)) (Ne.symm h.ne), hr⟩, h.ne⟩
theorem TP.setG {w w' : World} {b m : Nat} {s : Tab} (h : TP w b m s) {es : List Ent} {clock : Nat} {i c : Int} {p : Option (Bool × Int)} (hm : MapAt w' m es clock) (hr : Rep es clock (upd s.g i c p)) (hg : w.grownBy w' (some m)) (hi : 1 ≤ i ∧ i ≤ 32) (hc : 1 ≤ c ∧ c ≤ 8) :
    TP w' b m (s.setG i c p) := by
  obtain ⟨arr, ha, hw⟩ := h.tab
  exact ⟨h.ok.setG _ _ _ hi hc, ⟨arr, (hg.block b h.lt.1 (by simpa using h.ne)).trans ha, hw⟩, ⟨es, clock, hm, hr⟩, h.ne⟩
set_option maxRecDepth 100000 in
set_option maxHeartbeats 1000000 in
theorem ask_bad {w : World} {b : Nat} (now c i : Int) (own : Bool) (hbad : badAsk now c i = true) : Calls Try.prog 12 #[.pointer (some ⟨b, 0, none⟩), .int .i64 now, .int .i64 c, .int .i64 i, .bool own] w fun e w' =>
    e = .returned (.tuple #[.slice none 0 0, .int .i64 1]) ∧ w = w' := by

  cases h1 : inB 0 now 1099511627776
  · clear hbad
    go_enter Try.func12, Try.ntmps12
    go_wp2_with (go_at_call 24; refine (in_any _ _ _ _).mono ?_; rintro e w' ⟨rfl, rfl⟩)
    go_ret2
    exact ⟨rfl, rfl⟩
  · cases h2 : inB 1 c 8
    · clear hbad
      go_enter Try.func12, Try.ntmps12
      go_wp2_with (go_at_call 24; refine (in_any _ _ _ _).mono ?_; rintro e w' ⟨rfl, rfl⟩)
      go_ret2
      exact ⟨rfl, rfl⟩
    · have h3 : inB 1 i 32 = false := by simpa [badAsk, h1, h2] using hbad
      clear hbad
      go_enter Try.func12, Try.ntmps12
      go_wp2_with (go_at_call 24; refine (in_any _ _ _ _).mono ?_; rintro e w' ⟨rfl, rfl⟩)
      go_ret2
      exact ⟨rfl, rfl⟩
end Go.Proofs.Ytpjgcpnjfopolaa
