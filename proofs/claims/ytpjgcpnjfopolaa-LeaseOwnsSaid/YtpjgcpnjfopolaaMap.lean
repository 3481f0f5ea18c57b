/-
  THE TABLE's MAP: keys of two numbers, grants as elements; found, stored, struck out, ranged over.
-/
import Derived.Test.YtpjgcpnjfopolaaBase
import Derived.Maps.RangeRun
import Derived.Laws.StructEq
namespace Go.Proofs.Ytpjgcpnjfopolaa
open Go.RowKit Go.Deep
def key (i c : Int) : Value := .agg #[.int .i64 i, .int .i64 c]
/-- A grant: inode, client, own, until; and its stamp in the model's map. -/
structure Ent where
  i : Int
  c : Int
  own : Bool
  til : Int
  born : Nat
def held (c i : Int) (own : Bool) (til : Int) : Value := .agg #[.int .i64 c, .int .i64 i, .bool own, .int .i64 til]
def Ent.me (e : Ent) : MapEntry := { key := key e.i e.c, val := held e.c e.i e.own e.til, born := e.born }
def Ent.at (i c : Int) (e : Ent) : Bool := e.i == i && e.c == c
theorem part3a (w : World) (x y : Value) : (part 3 #[x, y] 0).run Try.prog w = .ok x w := by simp [part, isAgg, run_underlying Try.underlying3]
theorem part3b (w : World) (x y : Value) : (part 3 #[x, y] 1).run Try.prog w = .ok y w := by simp [part, isAgg, run_underlying Try.underlying3]
theorem run_equal_key (w : World) (i c i' c' : Int) : (Op.equal 62 (key i c) (key i' c')).run Try.prog w = .ok (i == i' && c == c') w := by
  show (Op.equalIn (9999 + 1) 62 (key i c) (key i' c')).run Try.prog w = _
  unfold key
  rw [run_equalIn_agg (P := Try.prog) w 9999 62 _ _ (by kernel_rfl) (by kernel_rfl)]
  have hf : (Try.prog.fieldsOf 62).toList = [{ name := "inode", type := 3, offset := 0, embedded := false, tag := "", pkgPath := "commons/lease", byteOffset := 0 }, { name := "client", type := 3, offset := 1, embedded := false, tag := "", pkgPath := "commons/lease", byteOffset := 8 }] := by kernel_rfl
  rw [hf]
  show Sem.run Try.prog (Op.eqFields (9998 + 1) _ _ _) w = _
  generalize 9998 = n
  have hq := fun (w : World) (a b : Int) => run_equalIn_int (P := Try.prog) w n 3 .i64 .i64 a b Try.underlying3
  cases h0 : i == i' <;> cases h1 : c == c' <;> simp [Op.eqFields, part3a, part3b, hq, h0, h1]
theorem run_check_key (w : World) (em : Bool) (i c : Int) : (Instr.checkKey em 10000 62 (key i c)).run Try.prog w = .ok () w := by
  show (Instr.checkKey em (9998 + 1 + 1) 62 (key i c)).run Try.prog w = _
  generalize 9998 = n
  unfold key Instr.checkKey
  simp only [Sem.run_bind, run_underlying Try.underlying62, Result.andThen_ok]
  simp [part3a, part3b, Instr.checkKey, run_underlying Try.underlying3]
theorem run_stays_key (w : World) (i c : Int) : (Instr.keyThatStays (key i c) (key i c)).run Try.prog w = .ok (key i c) w := by
  unfold key Instr.keyThatStays
  rw [if_pos (by simp [Instr.sameBits])]
  rfl
/-- Where a key stands. -/
def whr (i c : Int) : List Ent → Nat → Option (Nat × Ent)
  | [], _ => none
  | e :: es, n => if e.at i c then some (n, e) else whr i c es (n + 1)
theorem run_asking (w : World) (i c : Int) : ∀ (es : List Ent) (n : Nat), (Instr.findAsking 62 (key i c) (es.map Ent.me) n).run Try.prog w = .ok ((whr i c es n).map fun p => (p.1, (p.2.me).val)) w
  | [], n => by simp [Instr.findAsking, whr]
  | e :: es, n => by
    have hq : (Op.equal 62 (key i c) e.me.key).run Try.prog w = .ok (e.at i c) w := by
      rw [show e.me.key = key e.i e.c from rfl, run_equal_key]
      unfold Ent.at
      rw [BEq.comm (a := i), BEq.comm (a := c)]
    simp only [List.map_cons, Instr.findAsking, Sem.run_bind, hq, Result.andThen_ok, whr]
    cases h : e.at i c
    · simpa using run_asking w i c es (n + 1)
    · simp
theorem run_find (w : World) (i c : Int) (es : List Ent) : (Instr.findKey 62 (key i c) (es.map Ent.me)).run Try.prog w = .ok ((whr i c es 0).map fun p => (p.1, (p.2.me).val)) w := by
  unfold Instr.findKey
  simp only [Sem.run_bind, run_underlying Try.underlying62, Result.andThen_ok]
  cases es with
  | nil => simp [Instr.findNow, whr]
  | cons e es =>
    have : ∀ d, Instr.findNow (.struct d) (key i c) ((e :: es).map Ent.me) 0 = none := fun d => by simp [Instr.findNow, Instr.sameNow]
    rw [this]
    exact run_asking w i c (e :: es) 0
theorem whr_some {i c : Int} : ∀ {es : List Ent} {n j : Nat} {e : Ent}, whr i c es n = some (j, e) → n ≤ j ∧ es[j - n]? = some e ∧ e.i = i ∧ e.c = c
  | [], n, j, e, h => by simp [whr] at h
  | x :: es, n, j, e, h => by
    unfold whr at h
    split at h
    · rename_i hx
      simp at h
      obtain ⟨rfl, rfl⟩ := h
      simp [Ent.at] at hx
      exact ⟨Nat.le_refl _, by simp, hx.1, hx.2⟩
    · obtain ⟨h1, h2, h3⟩ := whr_some h
      refine ⟨by omega, ?_, h3⟩
      rw [show j - n = (j - (n + 1)) + 1 by omega, List.getElem?_cons_succ]
      exact h2
theorem whr_none {i c : Int} : ∀ {es : List Ent} {n : Nat}, whr i c es n = none → ∀ e ∈ es, ¬ (e.i = i ∧ e.c = c)
  | [], n, _, e, he => by simp at he
  | x :: es, n, h, e, he => by
    unfold whr at h
    split at h
    · cases h
    · rename_i hx
      rcases List.mem_cons.1 he with rfl | he
      · simpa [Ent.at] using hx
      · exact whr_none h e he
/-- The map's entries say what the grants say. -/
structure Rep (es : List Ent) (clock : Nat) (g : Int → Int → Option (Bool × Int)) : Prop where
  born : ∀ e ∈ es, e.born < clock
  nodup : (es.map Ent.born).Nodup
  keys : es.Pairwise fun a b => ¬ (a.i = b.i ∧ a.c = b.c)
  sound : ∀ e ∈ es, g e.i e.c = some (e.own, e.til)
  full : ∀ i c p, g i c = some p → ∃ e ∈ es, e.i = i ∧ e.c = c
def MapAt (w : World) (m : Nat) (es : List Ent) (clock : Nat) : Prop := w.heap[m]? = some (.map (es.map Ent.me).toArray clock)
theorem zero40 (w : World) : (zeroValue 40).run Try.prog w = .ok (held 0 0 false 0) w := by
  have h : (Try.prog.info? 40).map (fun i => i.zero) = some (some (held 0 0 false 0)) := by kernel_rfl
  obtain ⟨i, hi, hz⟩ := Option.map_eq_some_iff.1 h
  simp [zeroValue, typeInfo, hi, hz]
def got (g : Int → Int → Option (Bool × Int)) (i c : Int) : Value := match g i c with
  | some p => held c i p.1 p.2
  | none => held 0 0 false 0
theorem run_obj {w : World} {m clock : Nat} {es : List Ent} (h : MapAt w m es clock) : (getObj m).run Try.prog w = .ok (.map (es.map Ent.me).toArray clock) w := by
  unfold MapAt at h
  simp [getObj, Sem.run, h]
theorem run_look {w : World} {m clock : Nat} {es : List Ent} {g : Int → Int → Option (Bool × Int)} (h : MapAt w m es clock) (hr : Rep es clock g) (i c : Int) :
    (Instr.lookup 51 (.map (some m)) (.agg #[.int .i64 i, .int .i64 c]) true).run Try.prog w = .ok (.tuple #[got g i c, .bool (g i c).isSome]) w := by
  have hk := fun em => run_check_key w em i c
  have hf := run_find w i c es
  have ho := run_obj h
  unfold key at hk hf
  cases hw : whr i c es 0 with
  | none =>
    have hg : g i c = none := by
      cases hg : g i c with
      | none => rfl
      | some p =>
        obtain ⟨e, he, h1, h2⟩ := hr.full i c p hg
        exact absurd ⟨h1, h2⟩ (whr_none hw e he)
    rw [hw] at hf
    simp [Instr.lookup, run_underlying Try.underlying51, ho, hk, hf, got, hg]
    rfl
  | some p =>
    obtain ⟨j, e⟩ := p
    rw [hw] at hf
    obtain ⟨_, h1, rfl, rfl⟩ := whr_some hw
    have hg := hr.sound e (List.mem_of_getElem? h1)
    simp [Instr.lookup, run_underlying Try.underlying51, ho, hk, hf, got, hg, Ent.me]
/-- 'setObj' at the map's block. -/
theorem run_set {w : World} {m clock clock' : Nat} {es es' : List Ent} (h : MapAt w m es clock) : ∃ w', (setObj m (.map (es'.map Ent.me).toArray clock')).run Try.prog w = .ok () w' ∧ MapAt w' m es' clock' ∧ w.grownBy w' (some m) ∧ w'.heap.size = w.heap.size := by
  unfold MapAt at h
  refine ⟨Go.ChangeMaps.setBlock w m (.map (es'.map Ent.me).toArray clock'), by simp [setObj, Sem.run, h, Go.ChangeMaps.setBlock], ?_, ⟨rfl, rfl, rfl, by simp [Go.ChangeMaps.setBlock], fun i _ hi => ?_⟩, by simp [Go.ChangeMaps.setBlock]⟩
  · exact Go.ChangeMaps.heap_setBlock_same h _
  · exact Go.ChangeMaps.heap_setBlock_other h _ (fun e => hi (by rw [e]))
def upd (g : Int → Int → Option (Bool × Int)) (i c : Int) (p : Option (Bool × Int)) : Int → Int → Option (Bool × Int) := fun i' c' => if i' = i ∧ c' = c then p else g i' c'
theorem rep_push {es : List Ent} {clock : Nat} {g : Int → Int → Option (Bool × Int)} (hr : Rep es clock g) (i c : Int) (own : Bool) (til : Int) (hn : ∀ e ∈ es, ¬ (e.i = i ∧ e.c = c)) :
    Rep (es ++ [⟨i, c, own, til, clock⟩]) (clock + 1) (upd g i c (some (own, til))) := by
  refine ⟨fun e he => ?_, ?_, ?_, fun e he => ?_, fun i' c' p hp => ?_⟩
  · rcases List.mem_append.1 he with he | he
    · have := hr.born e he; omega
    · simp at he; subst he; simp
  · rw [List.map_append, List.nodup_append]
    refine ⟨hr.nodup, by simp, fun a ha b hb => ?_⟩
    obtain ⟨e, he, rfl⟩ := List.mem_map.1 ha
    simp at hb
    have := hr.born e he
    omega
  · rw [List.pairwise_append]
    refine ⟨hr.keys, by simp, fun a ha b hb => ?_⟩
    simp at hb
    subst hb
    exact hn a ha
  · rcases List.mem_append.1 he with he | he
    · unfold upd
      rw [if_neg (hn e he)]
      exact hr.sound e he
    · simp at he
      subst he
      simp [upd]
  · unfold upd at hp
    split at hp
    · rename_i h
      exact ⟨_, List.mem_append_right _ (List.mem_singleton.2 rfl), h.1.symm, h.2.symm⟩
    · obtain ⟨e, he, h⟩ := hr.full i' c' p hp
      exact ⟨e, List.mem_append_left _ he, h⟩
theorem pair_get {es : List Ent} (hp : es.Pairwise fun a b => ¬ (a.i = b.i ∧ a.c = b.c)) {j k : Nat} {a b : Ent} (ha : es[j]? = some a) (hb : es[k]? = some b) (h : a.i = b.i ∧ a.c = b.c) : j = k := by
  rw [List.pairwise_iff_getElem] at hp
  obtain ⟨hj, rfl⟩ := List.getElem?_eq_some_iff.1 ha
  obtain ⟨hk, rfl⟩ := List.getElem?_eq_some_iff.1 hb
  rcases Nat.lt_trichotomy j k with hlt | h' | hlt
  · exact absurd h (hp j k hj hk hlt)
  · exact h'
  · exact absurd ⟨h.1.symm, h.2.symm⟩ (hp k j hk hj hlt)
theorem rep_set {es : List Ent} {clock : Nat} {g : Int → Int → Option (Bool × Int)} (hr : Rep es clock g) (own : Bool) (til : Int) {j : Nat} {e : Ent} (hj : es[j]? = some e) :
    Rep (es.set j ⟨e.i, e.c, own, til, e.born⟩) clock (upd g e.i e.c (some (own, til))) := by
  have hjl := (List.getElem?_eq_some_iff.1 hj).1
  have mem : ∀ x ∈ es.set j ⟨e.i, e.c, own, til, e.born⟩, x = ⟨e.i, e.c, own, til, e.born⟩ ∨ ∃ k, k ≠ j ∧ es[k]? = some x := fun x hx => by
    obtain ⟨k, hk⟩ := List.getElem?_of_mem hx
    rw [List.getElem?_set] at hk
    split at hk
    · injection hk with hk
      exact .inl hk.symm
    · rename_i h
      exact .inr ⟨k, fun e => h e.symm, hk⟩
  refine ⟨fun x hx => ?_, ?_, ?_, fun x hx => ?_, fun i' c' p hp => ?_⟩
  · rcases mem x hx with rfl | ⟨k, _, hk⟩
    · exact hr.born e (List.mem_of_getElem? hj)
    · exact hr.born x (List.mem_of_getElem? hk)
  · rw [show (es.set j ⟨e.i, e.c, own, til, e.born⟩).map Ent.born = es.map Ent.born from ?_]
    · exact hr.nodup
    · rw [List.map_set]
      apply List.ext_getElem?
      intro k
      rw [List.getElem?_set]
      split
      · rename_i h
        subst h
        rw [List.getElem?_map, hj]
        simp [hjl]
      · rfl
  · rw [List.pairwise_iff_getElem]
    have hp := hr.keys
    rw [List.pairwise_iff_getElem] at hp
    obtain ⟨_, he⟩ := List.getElem?_eq_some_iff.1 hj
    intro a b ha hb hab
    simp only [List.length_set] at ha hb
    have := hp a b ha hb hab
    simp only [List.getElem_set]
    split <;> split
    · omega
    · rename_i h _; subst h; rw [he] at this; exact this
    · rename_i _ h; subst h; rw [he] at this; exact this
    · exact this
  · rcases mem x hx with rfl | ⟨k, hkj, hk⟩
    · simp [upd]
    · unfold upd
      rw [if_neg fun h => hkj (pair_get hr.keys hk hj h)]
      exact hr.sound x (List.mem_of_getElem? hk)
  · unfold upd at hp
    split at hp
    · rename_i h
      exact ⟨_, List.mem_of_getElem? (i := j) (List.getElem?_set_self hjl), h.1.symm, h.2.symm⟩
    · rename_i h
      obtain ⟨x, hx, h1, h2⟩ := hr.full i' c' p hp
      obtain ⟨k, hk⟩ := List.getElem?_of_mem hx
      refine ⟨x, List.mem_of_getElem? (i := k) ?_, h1, h2⟩
      rw [List.getElem?_set, if_neg, hk]
      rintro rfl
      rw [hk] at hj
      injection hj with hj
      subst hj
      exact h ⟨h1.symm, h2.symm⟩
theorem rep_erase {es : List Ent} {clock : Nat} {g : Int → Int → Option (Bool × Int)} (hr : Rep es clock g) {j : Nat} {e : Ent} (hj : es[j]? = some e) : Rep (es.eraseIdx j) clock (upd g e.i e.c none) := by
  have hsub := List.eraseIdx_sublist es j
  have mem : ∀ x ∈ es.eraseIdx j, ∃ k, k ≠ j ∧ es[k]? = some x := fun x hx => by
    obtain ⟨k, hk⟩ := List.getElem?_of_mem hx
    rw [List.getElem?_eraseIdx] at hk
    split at hk
    · exact ⟨k, by omega, hk⟩
    · exact ⟨k + 1, by omega, hk⟩
  refine ⟨fun x hx => hr.born x (hsub.subset hx), (hsub.map _).nodup hr.nodup, hr.keys.sublist hsub, fun x hx => ?_, fun i' c' p hp => ?_⟩
  · obtain ⟨k, hkj, hk⟩ := mem x hx
    unfold upd
    rw [if_neg fun h => hkj (pair_get hr.keys hk hj h)]
    exact hr.sound x (List.mem_of_getElem? hk)
  · unfold upd at hp
    split at hp
    · cases hp
    · rename_i h
      obtain ⟨x, hx, h1, h2⟩ := hr.full i' c' p hp
      obtain ⟨k, hk⟩ := List.getElem?_of_mem hx
      have hkj : k ≠ j := by
        rintro rfl
        rw [hk] at hj
        injection hj with hj
        subst hj
        exact h ⟨h1.symm, h2.symm⟩
      refine ⟨x, ?_, h1, h2⟩
      by_cases hlt : k < j
      · exact List.mem_of_getElem? (i := k) (by rw [List.getElem?_eraseIdx, if_pos hlt, hk])
      · exact List.mem_of_getElem? (i := k - 1) (by rw [List.getElem?_eraseIdx, if_neg (by omega), show k - 1 + 1 = k by omega, hk])
theorem run_store {w : World} {m clock : Nat} {es : List Ent} {g : Int → Int → Option (Bool × Int)} (h : MapAt w m es clock) (hr : Rep es clock g) (i c : Int) (own : Bool) (til : Int) :
    ∃ w' es' clock', (Instr.mapUpdate 51 (.map (some m)) (.agg #[.int .i64 i, .int .i64 c]) (.agg #[.int .i64 c, .int .i64 i, .bool own, .int .i64 til])).run Try.prog w = .ok () w' ∧ MapAt w' m es' clock' ∧ Rep es' clock' (upd g i c (some (own, til))) ∧ w.grownBy w' (some m) := by
  have hk := fun em => run_check_key w em i c
  have hf := run_find w i c es
  have ho := run_obj h
  have hs := run_stays_key w i c
  unfold key at hk hf hs
  cases hw : whr i c es 0 with
  | none =>
    rw [hw] at hf
    obtain ⟨w', hset, h1, h2, _⟩ := run_set (es' := es ++ [⟨i, c, own, til, clock⟩]) (clock' := clock + 1) h
    refine ⟨w', _, _, ?_, h1, rep_push hr i c own til (whr_none hw), h2⟩
    simp [Ent.me, key, held] at hset
    simp [Instr.mapUpdate, run_underlying Try.underlying51, ho, hk, hf, hset]
  | some p =>
    obtain ⟨j, e⟩ := p
    rw [hw] at hf
    obtain ⟨_, hj, rfl, rfl⟩ := whr_some hw
    simp only [Nat.sub_zero] at hj
    obtain ⟨w', hset, h1, h2, _⟩ := run_set (es' := es.set j ⟨e.i, e.c, own, til, e.born⟩) (clock' := clock) h
    refine ⟨w', _, _, ?_, h1, rep_set hr own til hj, h2⟩
    have hmod : (es.map Ent.me).modify j (fun x => { x with key := .agg #[.int .i64 e.i, .int .i64 e.c], val := .agg #[.int .i64 e.c, .int .i64 e.i, .bool own, .int .i64 til] }) = (es.set j ⟨e.i, e.c, own, til, e.born⟩).map Ent.me := by
      apply List.ext_getElem?
      intro k
      rw [List.getElem?_modify, List.getElem?_map, List.getElem?_map, List.getElem?_set]
      by_cases hjk : j = k
      · subst hjk
        have := (List.getElem?_eq_some_iff.1 hj).1
        rw [hj]
        simp [this, Ent.me, key, held]
      · simp [hjk]
    rw [← hmod] at hset
    simpa [Instr.mapUpdate, run_underlying Try.underlying51, ho, hk, hf, hj, Ent.me, key, hs] using hset
theorem map_erase (l : List Ent) (j : Nat) : (l.eraseIdx j).map Ent.me = (l.map Ent.me).eraseIdx j := by
  induction l generalizing j with
  | nil => simp
  | cons a l ih => cases j <;> simp [ih]
theorem run_strike {w : World} {m clock : Nat} {es : List Ent} {g : Int → Int → Option (Bool × Int)} (h : MapAt w m es clock) (hr : Rep es clock g) (i c : Int) (ty : TypeId) :
    ∃ w' es', (Builtin.delete_ #[51, 62] ty #[.map (some m), .agg #[.int .i64 i, .int .i64 c]]).run Try.prog w = .ok (.tuple #[]) w' ∧ MapAt w' m es' clock ∧ Rep es' clock (upd g i c none) ∧ w.grownBy w' (some m) ∧ (∀ e, e ∈ es' ↔ e ∈ es ∧ ¬ (e.i = i ∧ e.c = c)) ∧ es'.Sublist es := by
  have hk := fun em => run_check_key w em i c
  have hf := run_find w i c es
  have ho := run_obj h
  unfold key at hk hf
  cases hw : whr i c es 0 with
  | none =>
    rw [hw] at hf
    obtain ⟨w', hset, h1, h2, _⟩ := run_set (es' := es) (clock' := clock) h
    have hno := whr_none hw
    have hg : upd g i c none = g := by
      funext i' c'
      unfold upd
      split
      · rename_i h
        cases hg : g i' c' with
        | none => rfl
        | some p =>
          obtain ⟨e, he, h3, h4⟩ := hr.full i' c' p hg
          exact absurd ⟨h3.trans h.1, h4.trans h.2⟩ (hno e he)
      · rfl
    refine ⟨w', _, ?_, h1, by rw [hg]; exact hr, h2, fun e => ⟨fun he => ⟨he, hno e he⟩, fun he => he.1⟩, List.Sublist.refl _⟩
    simp [Builtin.delete_, run_underlying Try.underlying51, ho, hk, hf, hset]
  | some p =>
    obtain ⟨j, e⟩ := p
    rw [hw] at hf
    obtain ⟨_, hj, rfl, rfl⟩ := whr_some hw
    simp only [Nat.sub_zero] at hj
    obtain ⟨w', hset, h1, h2, _⟩ := run_set (es' := es.eraseIdx j) (clock' := clock) h
    refine ⟨w', _, ?_, h1, rep_erase hr hj, h2, ?_, List.eraseIdx_sublist es j⟩
    · rw [map_erase] at hset
      simp [Builtin.delete_, run_underlying Try.underlying51, ho, hk, hf, hset]
    · intro x
      refine ⟨fun hx => ⟨(List.eraseIdx_sublist es j).subset hx, fun hx2 => ?_⟩, fun ⟨hx, hx2⟩ => ?_⟩
      · have := (rep_erase hr hj).sound x hx
        unfold upd at this
        rw [if_pos hx2] at this
        cases this
      · have hm := (rep_erase hr hj).full x.i x.c (x.own, x.til) (by unfold upd; rw [if_neg hx2]; exact hr.sound x hx)
        obtain ⟨y, hy, h3, h4⟩ := hm
        have hy' := (List.eraseIdx_sublist es j).subset hy
        obtain ⟨a, ha⟩ := List.getElem?_of_mem hx
        obtain ⟨b, hb⟩ := List.getElem?_of_mem hy'
        obtain rfl := pair_get hr.keys ha hb ⟨h3.symm, h4.symm⟩
        rw [ha] at hb
        injection hb with hb
        rw [hb]
        exact hy
end Go.Proofs.Ytpjgcpnjfopolaa
