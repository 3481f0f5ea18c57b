/-
  slices.Delete of one packet; Drop.
-/
import Derived.Test.YtmicejjlfojncaaTo
import Derived.Deep.RegionLaw
import Derived.Deep.LoopGhost
import Derived.Shelf.RegionOpenPlain
import Derived.Lib.SliceRun
import Derived.Lib.SlicesDelete
namespace Go.Proofs.Ytmicejjlfojncaa
open Go.RowKit Go.Deep
theorem blk_setCells {b : Nat} {t : TypeId} : ∀ (vs : List Value) (o : Nat) (w : World) (cs : Array Value), w.heap[b]? = some (.cells cs t (0, 0)) → (w.setCells b o vs).heap[b]? = some (.cells (Lib.lay cs o vs) t (0, 0))
  | [], _, _, _, h => h
  | _ :: r, o, w, _, h => blk_setCells r (o + 1) _ _ (setRow_cell w b _ _ _ o h)
theorem grown_setCells {b : Nat} {w0 : World} : ∀ (vs : List Value) (o : Nat) (w : World), w0.grownBy w (some b) → w0.grownBy (w.setCells b o vs) (some b)
  | [], _, _, h => h
  | v :: r, o, _, h => grown_setCells r (o + 1) _ (only_setCell h v)
theorem flat_erase : ∀ (ps : List Pk) (k : Nat), flat (ps.eraseIdx k) = (flat ps).take (k * 2) ++ (flat ps).drop ((k + 1) * 2)
  | [], k => by simp [flat]
  | p :: ps, 0 => by simp [flat]
  | p :: ps, k + 1 => by
    rw [List.eraseIdx_cons_succ, flat, flat_erase ps k, flat, show (k + 1) * 2 = k * 2 + 2 by omega, show (k + 1 + 1) * 2 = (k * 2 + 2) + 2 by omega]
    rfl
theorem zero49 (w : World) : (zeroValue 49).run Try.prog w = .ok (.agg #[.int .i64 0, .slice none 0 0]) w := by
  obtain ⟨i0, hi, hz0, _, _⟩ := info_parts info49
  simp [zeroValue, typeInfo, hi, hz0]
theorem flat_one : ∀ (ps : List Pk), (∀ p ∈ ps, p.v.oneCell' = true) → ∀ u ∈ flat ps, u.oneCell' = true
  | [], _, u, h => by simp [flat] at h
  | p :: ps, hp, u, h => by
    simp only [flat, List.mem_cons] at h
    rcases h with rfl | rfl | h
    · rfl
    · exact hp p (by simp)
    · exact flat_one ps (fun q hq => hp q (by simp [hq])) u h
/-- 'clear' of one packet. -/
theorem run_clear_one (w : World) (ty : TypeId) (b o c : Nat) (hc : ∀ j, j < 2 → (w.cell? ⟨b, o + j, none⟩).isSome = true) (hf : ∀ j, j < 2 → w.frozen? ⟨b, o + j, none⟩ = false) :
    (Builtin.clear_ #[44] ty #[.slice (some ⟨b, o, none⟩) 1 c]).run Try.prog w = .ok (.tuple #[]) (w.setCells b o [.int .i64 0, .slice none 0 0]) := by
  have hst := run_storeCells_cells (P := Try.prog) b o [.int .i64 0, .slice none 0 0] 0 w (by simpa using hc) (by simpa using hf) (by intro v hv; simp at hv; rcases hv with rfl | rfl <;> rfl)
  simp only [Nat.add_zero] at hst
  have hz : (Builtin.zeroCells (Value.agg #[.int .i64 0, .slice none 0 0]).cells 1).toList = [.int .i64 0, .slice none 0 0] := by kernel_rfl
  simp [Builtin.clear_, run_underlying Try.underlying44, hz, hst]
set_option maxHeartbeats 4000000 in
/-- slices.Delete of one packet. -/
theorem del_one (g n cap k j' : Nat) (cur : Array Value) (ps : List Pk) (w : World) (hg : w.heap[g]? = some (.cells cur 49 (0, 0))) (hs : cur.size = cap * 2) (hn : n ≤ cap) (hm : cap ≤ maxLen) (ht : cur.toList.take (n * 2) = flat ps) (hps : ps.length = n) (hk : k < n) (hj : j' = k + 1)
    (h1 : ∀ p ∈ ps, p.v.oneCell' = true) :
    Calls Try.prog 25 #[.slice (some ⟨g, 0, none⟩) n cap, .int .i64 k, .int .i64 j'] w fun e w' => e = .returned (.slice (some ⟨g, 0, none⟩) (n - 1) cap) ∧
      (∃ cur', w'.heap[g]? = some (.cells cur' 49 (0, 0)) ∧ cur'.size = cap * 2 ∧ cur'.toList.take ((n - 1) * 2) = flat (ps.eraseIdx k)) ∧ w.grownBy w' (some g) := by
  have hm' := hm
  unfold maxLen at hm
  have hcell : ∀ (W : World) (c : Array Value), W.heap[g]? = some (.cells c 49 (0, 0)) → ∀ j, W.cell? ⟨g, j, none⟩ = c[j]? := fun W c h j => cell_of_row W g j c 49 (0, 0) h
  have hfl := flat_len ps
  rw [hps] at hfl
  have hcur : ∀ j, j < n * 2 → cur[j]? = (flat ps)[j]? := fun j hj => by
    rw [← ht, List.getElem?_take, if_pos hj, Array.getElem?_toList]
  obtain ⟨news, hnews⟩ : ∃ news, news = (flat ps).drop (j' * 2) := ⟨_, rfl⟩
  have hlen : news.length = (n - j') * 2 := by rw [hnews]; simp; omega
  have hgd : w.drew.heap[g]? = some (.cells cur 49 (0, 0)) := hg
  obtain ⟨A, hA, hsrc⟩ : ∃ A : Addr, (if cap = j' then some (⟨g, 0, none⟩ : Addr) else some ⟨g, j' * 2, none⟩) = some A ∧ Hid (∀ t u, news[t]? = some u → w.drew.cell? (A.add t) = some u) := by
    by_cases h : cap = j'
    · refine ⟨⟨g, 0, none⟩, by simp [h], fun t u hu => ?_⟩
      have h0 : news.length = 0 := by rw [hlen]; omega
      rw [List.length_eq_zero_iff.1 h0] at hu
      simp at hu
    · refine ⟨⟨g, j' * 2, none⟩, by simp [h], fun t u hu => ?_⟩
      have htl : t < news.length := (List.getElem?_eq_some_iff.1 hu).1
      rw [hnews, List.getElem?_drop] at hu
      rw [Addr.add_lit, hcell _ _ hgd, hcur _ (by rw [hlen] at htl; omega)]
      exact hu
  have s1 : Hid (news.length = (n - j') * 2) := hlen
  have s2 : Hid (∀ u ∈ news, u.oneCell' = true) := fun u hu => flat_one ps h1 u (by rw [hnews] at hu; exact List.mem_of_mem_drop hu)
  have s3 : Hid (∀ t, t < news.length → (w.drew.cell? ⟨g, 0 + k * 2 + t, none⟩).isSome = true ∧ w.drew.frozen? ⟨g, 0 + k * 2 + t, none⟩ = false) := fun t ht => by
    rw [hlen] at ht
    exact ⟨by rw [hcell _ _ hgd, Array.getElem?_eq_getElem (by omega)]; rfl, frozen_of_row _ _ _ _ _ hgd⟩
  obtain ⟨W1, hW1⟩ : ∃ W1, W1 = w.drew.setCells g (0 + k * 2) news := ⟨_, rfl⟩
  have hb1 : W1.heap[g]? = some (.cells (Lib.lay cur (0 + k * 2) news) 49 (0, 0)) := by rw [hW1]; exact blk_setCells _ _ _ _ hgd
  have hl1 : (Lib.lay cur (0 + k * 2) news).size = cap * 2 := by rw [Lib.lay_size]; exact hs
  have hcl : ∀ ty, (Builtin.clear_ #[44] ty #[.slice (some ⟨g, (k + (n - j')) * 2, none⟩) (n - (k + (n - j'))) (cap - (k + (n - j')))]).run Try.prog W1 = .ok (.tuple #[]) (W1.setCells g ((n - 1) * 2) [.int .i64 0, .slice none 0 0]) := fun ty => by
    rw [show n - (k + (n - j')) = 1 by omega, show k + (n - j') = n - 1 by omega]
    exact run_clear_one W1 ty g _ _ (fun j hj => by rw [hcell _ _ hb1, Array.getElem?_eq_getElem (by omega)]; rfl) (fun j hj => frozen_of_row _ _ _ _ _ hb1)
  have hgr1 : w.grownBy W1 (some g) := by rw [hW1]; exact grown_setCells _ _ _ ⟨rfl, rfl, rfl, Nat.le_refl _, fun _ _ _ => rfl⟩
  have hfin : (∃ cur', (W1.setCells g ((n - 1) * 2) [.int .i64 0, .slice none 0 0]).heap[g]? = some (.cells cur' 49 (0, 0)) ∧ cur'.size = cap * 2 ∧ cur'.toList.take ((n - 1) * 2) = flat (ps.eraseIdx k)) ∧ w.grownBy (W1.setCells g ((n - 1) * 2) [.int .i64 0, .slice none 0 0]) (some g) := by
    refine ⟨⟨_, blk_setCells _ _ _ _ hb1, by rw [Lib.lay_size]; exact hl1, ?_⟩, grown_setCells _ _ _ hgr1⟩
    rw [flat_erase, ← hj]
    apply List.ext_getElem?
    intro t
    rw [List.getElem?_take, Array.getElem?_toList]
    have lt1 : ((flat ps).take (k * 2)).length = k * 2 := by simp; omega
    by_cases c1 : t < (n - 1) * 2
    · rw [if_pos c1, Lib.lay_get? _ _ _ _ (by rw [hl1]; simp; omega), if_neg (by omega), Lib.lay_get? _ _ _ _ (by rw [hlen, hs]; omega), hlen]
      by_cases c2 : t < k * 2
      · rw [if_neg (by omega), List.getElem?_append_left (by omega), List.getElem?_take, if_pos c2, hcur t (by omega)]
      · rw [if_pos (by omega), List.getElem?_append_right (by omega), lt1, hnews, Nat.zero_add]
    · rw [if_neg c1, List.getElem?_append_right (by omega), List.getElem?_eq_none (by simp; omega)]
  have HFIN := Lib.hid hfin
  have HJ := Lib.hid hj
  have hW : Hid (W1 = w.drew.setCells g (0 + k * 2) news) := hW1
  have hic : k ≤ cap := by omega
  have hjc : j' ≤ cap := by omega
  have hkj : k < j' := by omega
  have hjn : j' ≤ n := by omega
  have mixed : Try.prog.follows .mixedOrders = true := by kernel_rfl
  obtain ⟨i0, hi0, _, hz1, _⟩ := info_parts info49
  have HI0 := Lib.hid (And.intro hi0 hz1)
  clear hfin hgr1 hl1 hb1 hW1 hlen hnews hgd hcur hfl hcell h1 ht hg hi0 hz1 hps hj
  go_enter Try.func25, Try.ntmps25
  go_wp2_with fail
  go_region_law_o (refine step_append_room rfl (.tmp 22) (.tmp 25) 44 rfl 49 i0 2 Try.underlying44 HI0.out.1 HI0.out.2 g 0 k cap (by simp [Act.eval, Act.put]) A (n - j') (cap - j') news (by simp [Act.eval, Act.put]) s1.out hsrc.out s2.out (by omega) s3.out ?_; rw [← hW.out])
  go_wp2
  go_ret
  exact ⟨by rw [show n - 1 = k + (n - j') by have := HJ.out; omega]; rfl, HFIN.out⟩
/-- What is left of a bag whose packet k is taken out. -/
theorem Bag0.dropped {K : Nat → Prop} {w w' : World} {c g cap k : Nat} {cur' : Array Value} {ps : List Pk} (hB : Bag0 w K c (.slice (some ⟨g, 0, none⟩) ps.length cap) ps) (hk : k < ps.length) (hcap : ps.length ≤ cap) (hm : cap ≤ maxLen)
    (hg : w'.heap[g]? = some (.cells cur' 49 (0, 0))) (hs : cur'.size = cap * 2) (ht : cur'.toList.take ((ps.length - 1) * 2) = flat (ps.eraseIdx k)) (hgr : w.grownBy w' (some g)) :
    Bag0 (w'.setCell ⟨c, 0, none⟩ (.slice (some ⟨g, 0, none⟩) (ps.length - 1) cap)) K c (.slice (some ⟨g, 0, none⟩) (ps.length - 1) cap) (ps.eraseIdx k) ∧ Fr (fun x => Value.ownBlock (.slice (some ⟨g, 0, none⟩) ps.length cap) = some x ∨ x = c) w (w'.setCell ⟨c, 0, none⟩ (.slice (some ⟨g, 0, none⟩) (ps.length - 1) cap)) := by
  have hne : g ≠ c := fun e => hB.core.ne (by rw [e]; rfl)
  have hf1 : Fr (fun x => g = x) w w' := Fr.of_grown hgr fun b hb => by injection hb
  have hfS : ∀ {S : Nat → Prop}, S g → S c → Fr S w (w'.setCell ⟨c, 0, none⟩ (.slice (some ⟨g, 0, none⟩) (ps.length - 1) cap)) := fun h1 h2 => (hf1.mono fun x hx => by subst hx; exact h1).setCell (.inl h2) _
  have hK := hfS (S := K) (hB.kv g rfl) hB.kc
  have hlen : (ps.eraseIdx k).length = ps.length - 1 := by rw [List.length_eraseIdx, if_pos hk]
  have hmem : ∀ p ∈ ps.eraseIdx k, p ∈ ps := fun p hp => List.mem_of_mem_eraseIdx hp
  refine ⟨⟨⟨?_, ?_, fun e => hne (by injection e)⟩, hB.kc, fun b hb => hB.kv b hb, fun x hx => Nat.lt_of_lt_of_le (hB.lt x hx) hK.size, fun p hp => ⟨?_, fun b hb => ?_⟩, fun p hp => hB.short p (hmem p hp)⟩, hfS (.inl rfl) (.inr rfl)⟩
  · have hb1 : w'.heap[c]? = some (.cells #[.slice (some ⟨g, 0, none⟩) ps.length cap] 46 (0, 0)) := hf1.blk hne hB.core.blk
    rw [setRow_cell w' c _ _ _ 0 hb1]
    rfl
  · refine ⟨flat_len _, .inr ⟨g, cap, cur', by rw [hlen], Nat.zero_le _, blk_set_other hg hne, by omega, hm, hs, by rw [hlen]; exact ht⟩⟩
  · exact (hB.data p (hmem p hp)).1.fr (hfS (S := fun x => x = g ∨ x = c) (.inl rfl) (.inr rfl)) fun b hb hS => by
      obtain ⟨_, h2, h3⟩ := (hB.data p (hmem p hp)).2 b hb
      rcases hS with hS | hS
      · exact h3 (by rw [hS]; rfl)
      · exact h2 hS
  · exact (hB.data p (hmem p hp)).2 b hb
theorem cont_erase (ps : List Pk) (k : Nat) : cont (ps.eraseIdx k) = (cont ps).eraseIdx k := by
  unfold cont
  induction ps generalizing k with
  | nil => simp
  | cons p ps ih => cases k <;> simp [ih]
def inBag (k : Int) (n : Nat) : Bool := decide (0 ≤ k ∧ k < n)
set_option maxRecDepth 100000 in
set_option maxHeartbeats 2000000 in
theorem drop_in {K : Nat → Prop} {w : World} {c : Nat} {v : Value} {ps : List Pk} (h0 : Bag0 w K c v ps) (i : Nat) (hi : i < ps.length) :
    Calls Try.prog 16 #[.pointer (some ⟨c, 0, none⟩), .int .i64 i] w fun e w' => e = .returned (.bool true) ∧
      (∃ v', Bag0 w' K c v' (ps.eraseIdx i)) ∧ Fr (fun x => v.ownBlock = some x ∨ x = c) w w' := by
    have HIS := Lib.hid (is_any ⟨v, ps, h0, rfl⟩ (i : Int))
    have hcl : (cont ps).length = ps.length := by simp [cont]
    have hin' : decide (0 ≤ (i : Int) ∧ (i : Int) < ((cont ps).length : Int)) = true := by rw [hcl]; simp; omega
    rw [hin'] at HIS
    have hrow := h0.core.row
    rcases hrow.2 with ⟨_, hz⟩ | ⟨g, cap, cur, rfl, _, hg, hcap, hm, hsz, htk⟩
    · omega
    · have c0 : w.cell? ⟨c, 0, none⟩ = some (.slice (some ⟨g, 0, none⟩) ps.length cap) := blk_cell h0.core.blk rfl
      have hone : ∀ p ∈ ps, p.v.oneCell' = true := fun p hp => one_of (h0.data p hp).1
      have HDEL := Lib.hid fun (W : World) (hW : W.heap[g]? = some (.cells cur 49 (0, 0))) => del_one g ps.length cap i (i + 1) cur ps W hW hsz hcap hm htk rfl hi rfl hone
      have HB0 := Lib.hid h0
      have HG := Lib.hid hg
      have HM := Lib.hid (And.intro hm hcap)
      clear hin' hcl hrow hg hsz htk hone h0 hm
      generalize hn : ps.length = n at *
      have HN := Lib.hid hn
      clear hn
      have hi64 : (i : Int) < 9223372036854775807 := by have := HM.out.1; unfold maxLen at this; omega
      go_enter Try.func16, Try.ntmps16
      go_wp2_with (go_at_call 15; refine (HIS.out).mono ?_; rintro e w7 ⟨rfl, rfl⟩)
      rw [show ((i : Int) + 1) = ((i + 1 : Nat) : Int) from by omega]
      refine (HDEL.out w HG.out).mono ?_
      rintro e w1 ⟨rfl, ⟨cur', hg', hs', ht'⟩, hgr⟩
      have hdr := Bag0.dropped (k := i) (w' := w1) (cur' := cur') (by rw [HN.out]; exact HB0.out) (by rw [HN.out]; exact hi) (by rw [HN.out]; exact HM.out.2) HM.out.1 hg' hs' (by rw [HN.out]; exact ht') hgr
      rw [HN.out] at hdr
      have HDR := Lib.hid hdr
      have hne : g ≠ c := fun e => HB0.out.core.ne (by rw [e]; rfl)
      have hb3 : w1.heap[c]? = some (.cells #[.slice (some ⟨g, 0, none⟩) n cap] 46 (0, 0)) := (Fr.of_grown (S := fun x => g = x) hgr fun b hb => by injection hb).blk hne HB0.out.core.blk
      have c3 : w1.cell? ⟨c, 0, none⟩ = some (.slice (some ⟨g, 0, none⟩) n cap) := blk_cell hb3 rfl
      have f3 : w1.frozen? ⟨c, 0, none⟩ = false := frozen_of_row _ _ _ _ _ hb3
      clear hdr hg' hs' ht' hgr hi64 c0 hcap
      generalize n - 1 = n1 at *
      generalize ((i + 1 : Nat) : Int) = i1 at *
      go_wp2_with fail
      go_ret
      exact ⟨rfl, ⟨_, HDR.out.1⟩, HDR.out.2⟩
theorem drop_any {K : Nat → Prop} {w : World} {c : Nat} {l : List (Int × List Nat)} (h : Bag w K c l) (k : Int) :
    Calls Try.prog 16 #[.pointer (some ⟨c, 0, none⟩), .int .i64 k] w fun e w' => e = .returned (.bool (inBag k l.length)) ∧
      Bag w' K c (if inBag k l.length then l.eraseIdx k.toNat else l) ∧ Fr K w w' := by
  by_cases hk : 0 ≤ k ∧ k < l.length
  · have hin : inBag k l.length = true := by simpa [inBag] using hk
    rw [hin]
    obtain ⟨v, ps, h0, rfl⟩ := h
    have hcl : (cont ps).length = ps.length := by simp [cont]
    rw [hcl] at hk
    obtain ⟨i, rfl⟩ := Int.eq_ofNat_of_zero_le hk.1
    refine (drop_in h0 i (by omega)).mono ?_
    rintro e w' ⟨rfl, ⟨v', h1⟩, h2⟩
    refine ⟨rfl, ⟨v', _, h1, cont_erase ps i⟩, h2.mono fun x hx => ?_⟩
    rcases hx with hx | rfl
    · exact h0.kv x hx
    · exact h0.kc
  · have H := Lib.hid h
    have HIS := Lib.hid (is_any h k)
    have hin : inBag k l.length = false := by simpa [inBag] using hk
    have hin' : decide (0 ≤ k ∧ k < (l.length : Int)) = false := hin
    rw [hin'] at HIS
    rw [hin]
    clear hin hin' hk h
    go_enter Try.func16, Try.ntmps16
    go_wp2_with (go_at_call 15; refine (HIS.out).mono ?_; rintro e w7 ⟨rfl, rfl⟩)
    go_ret
    exact ⟨rfl, H.out, Fr.refl _ _⟩
end Go.Proofs.Ytmicejjlfojncaa
