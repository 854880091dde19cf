/- Plain law: where a ring is balanced and one more member comes or goes, only its partitions move. -/
import Derived.Test.YtalbdcpbdedfiaaPt
namespace Go.Proofs.Ytalbdcpbdedfiaa
open Go.RowKit

theorem quota_grow : ∀ m : Fin 7, 0 < m.val → ∀ j : Fin 7, j.val < m.val → ∀ i : Fin 8, i.val < m.val + 1 → quota m.val j.val < quota (m.val + 1) i.val →
    (i.val : Int) < 8 % (m.val : Int) ∧ quota m.val j.val = 8 / (m.val : Int) ∧ ¬ (j.val : Int) < 8 % ((m.val : Int) + 1) ∧ quota (m.val + 1) i.val = 8 / ((m.val : Int) + 1) + 1 := by
  simp only [quota]
  decide +kernel
theorem quota_grow' (m j i : Nat) (h1 : 0 < m) (h2 : m ≤ 6) (h3 : j < m) (h4 : i < m + 1) (h : quota m j < quota (m + 1) i) :
    (i : Int) < 8 % (m : Int) ∧ quota m j = 8 / (m : Int) ∧ ¬ (j : Int) < 8 % ((m : Int) + 1) ∧ quota (m + 1) i = 8 / ((m : Int) + 1) + 1 :=
  quota_grow ⟨m, by omega⟩ h1 ⟨j, by omega⟩ h3 ⟨i, by omega⟩ h4 h

theorem nth_append_l (xs ys : List Int) (i : Nat) (h : i < xs.length) : nth (xs ++ ys) i = nth xs i := by
  simp [nth, List.getD_eq_getElem?_getD, List.getElem?_append, h]

/-- a member that grows is the new one -/
theorem grow_new {l l' ysA ysB : List Int} {a : List Int} {more : Int} (hl : l.Nodup) (hl' : l'.Nodup) (hpos : ∀ n ∈ l', 0 < n) (hm0 : l ≠ []) (hm6 : l.length ≤ 6)
    (hp' : l'.Perm (l ++ [more])) (hA : ysA.Perm l) (ha : a.length = 8) (hca : ∀ n ∈ l, (a.count n : Int) = leftTo ysA ysA.length n) (hB : Sorted a ysB l')
    {n : Int} (hn : n ∈ l) (h : (a.count n : Int) < leftTo ysB ysB.length n) : False := by
  have hm : 0 < l.length := List.length_pos_iff.2 hm0
  have lenA : ysA.length = l.length := hA.length_eq
  have hBp : ysB.Perm (ysA ++ [more]) := hB.1.trans (hp'.trans (hA.symm.append_right _))
  have lenB : ysB.length = l.length + 1 := by rw [hBp.length_eq]; simp [lenA]
  have inl' : ∀ x ∈ l, x ∈ l' := fun x hx => hp'.mem_iff.2 (List.mem_append_left _ hx)
  have hnd : ysB.Nodup := hB.1.nodup_iff.2 hl'
  obtain ⟨j, hj, rfl⟩ := mem_nth (hA.mem_iff.2 hn)
  obtain ⟨i, hi, e⟩ := mem_nth (hB.1.mem_iff.2 (inl' _ hn))
  have hAn : ysA.Nodup := hA.nodup_iff.2 hl
  have qa : ∀ k, k < ysA.length → (a.count (nth ysA k) : Int) = quota l.length k := fun k hk => by
    rw [hca _ (hA.mem_iff.1 (nth_mem ysA k hk)), leftTo_at ysA hAn _ (Nat.le_refl _) k hk, lenA]
  have qb : leftTo ysB ysB.length (nth ysA j) = quota (l.length + 1) i := by
    rw [← e, leftTo_at ysB hnd _ (Nat.le_refl _) i hi, lenB]
  rw [qa j hj, qb] at h
  obtain ⟨g1, g2, -, -⟩ := quota_grow' l.length j i hm hm6 (by omega) (by omega) h
  have hi' : i < l.length := by
    have : (8 : Int) % (l.length : Int) < (l.length : Int) := Int.emod_lt_of_pos _ (by omega)
    omega
  have := rank (ys := ysB) (ys' := ysA ++ [more]) hBp (fun x => decide (8 / (l.length : Int) < cnt a x)) (i := i) (r := i) (by simp; omega)
    (fun t ht => by
      rw [nth_append_l _ _ _ (by omega), decide_eq_true_iff, cnt_count a ha _ (hpos _ (inl' _ (hA.mem_iff.1 (nth_mem ysA t (by omega))))), qa t (by omega), quota, if_pos (by omega)]
      omega)
    (fun b h1 h2 => by
      have h3 := sorted_desc hB h1 h2
      rw [e, cnt_count a ha _ (hpos _ (inl' _ hn)), qa j hj, g2] at h3
      rw [decide_eq_false_iff_not]
      omega)
  exact Nat.lt_irrefl _ this

/-- a member that another one leaves loses nothing -/
theorem grow_back {l l' ysB ysC : List Int} {b : List Int} {more : Int} (hl : l.Nodup) (hl' : l'.Nodup) (hpos : ∀ n ∈ l', 0 < n) (hm0 : l ≠ []) (hm6 : l.length ≤ 6)
    (hp' : l'.Perm (l ++ [more])) (hB : ysB.Perm l') (hb : b.length = 8) (hcb : ∀ n ∈ l', (b.count n : Int) = leftTo ysB ysB.length n) (hC : Sorted b ysC l)
    {n : Int} (hn : n ∈ l) : (b.count n : Int) ≤ leftTo ysC ysC.length n := by
  have hm : 0 < l.length := List.length_pos_iff.2 hm0
  have lenC : ysC.length = l.length := hC.1.length_eq
  have hBp : ysB.Perm (ysC ++ [more]) := hB.trans (hp'.trans (hC.1.symm.append_right _))
  have lenB : ysB.length = l.length + 1 := by rw [hBp.length_eq]; simp [lenC]
  have inl' : ∀ x ∈ l, x ∈ l' := fun x hx => hp'.mem_iff.2 (List.mem_append_left _ hx)
  obtain ⟨k, hk, rfl⟩ := mem_nth (hC.1.mem_iff.2 hn)
  obtain ⟨i, hi, e⟩ := mem_nth (hB.mem_iff.2 (inl' _ hn))
  have hCn : ysC.Nodup := hC.1.nodup_iff.2 hl
  have hBn : ysB.Nodup := hB.nodup_iff.2 hl'
  have qb : ∀ j, j < ysB.length → (b.count (nth ysB j) : Int) = quota (l.length + 1) j := fun j hj => by
    rw [hcb _ (hB.mem_iff.1 (nth_mem ysB j hj)), leftTo_at ysB hBn _ (Nat.le_refl _) j hj, lenB]
  have qk : (b.count (nth ysC k) : Int) = quota (l.length + 1) i := by rw [← e]; exact qb i hi
  rw [leftTo_at ysC hCn _ (Nat.le_refl _) k hk, lenC, qk]
  refine Classical.byContradiction fun hno => ?_
  obtain ⟨-, -, g3, g4⟩ := quota_grow' l.length k i hm hm6 (by omega) (by omega) (by omega)
  have hr0 : (0 : Int) ≤ 8 % ((l.length : Int) + 1) := Int.emod_nonneg _ (by omega)
  have := rank (ys := ysB) (ys' := ysC ++ [more]) hBp (fun x => decide (8 / ((l.length : Int) + 1) + 1 ≤ cnt b x)) (i := k) (r := (8 % ((l.length : Int) + 1)).toNat) (by simp; omega)
    (fun t ht => by
      have h3 := sorted_desc hC ht hk
      rw [cnt_count b hb _ (hpos _ (inl' _ hn)), qk, g4] at h3
      rw [nth_append_l _ _ _ (by omega), decide_eq_true_iff]
      exact h3)
    (fun t h1 h2 => by
      have e8 : ((l.length + 1 : Nat) : Int) = (l.length : Int) + 1 := by omega
      rw [decide_eq_false_iff_not, cnt_count b hb _ (hpos _ (hB.mem_iff.1 (nth_mem ysB t h2))), qb t h2, quota, e8, if_neg (by omega)]
      omega)
  omega

/-! ### the law -/
theorem those_more {xs : List Int} {more : Int} (h0 : 0 < more) (hne : ∀ x ∈ xs, x ≠ more) : (thoseL (xs ++ [more])).Perm (thoseL xs ++ [more]) := by
  rw [List.perm_ext_iff_of_nodup (those_nodup _)]
  · intro x
    rw [those_mem, List.mem_append, List.mem_append, those_mem, List.mem_singleton]
    constructor
    · rintro ⟨h | h, h'⟩
      · exact Or.inl ⟨h, h'⟩
      · exact Or.inr h
    · rintro (⟨h, h'⟩ | h)
      · exact ⟨Or.inl h, h'⟩
      · exact ⟨Or.inr h, by omega⟩
  · rw [List.nodup_append]
    refine ⟨those_nodup _, by simp, ?_⟩
    intro x hx y hy hxy
    rw [List.mem_singleton] at hy
    exact hne x ((those_mem _ _).1 hx).1 (hxy.trans hy)
theorem those_ne {xs : List Int} (h0 : xs ≠ []) (hpos : ∀ x ∈ xs, 0 < x) : thoseL xs ≠ [] := by
  intro h
  obtain ⟨x, hx⟩ := List.exists_mem_of_ne_nil xs h0
  have := (those_none xs).1 h x hx
  have := hpos x hx
  omega
theorem movesTo_mem {a b : List Int} {k : Nat} {t : Int × Int × Int} (h : t ∈ movesTo a b k) : ∃ p, p < k ∧ nth a p ≠ nth b p ∧ t.2.1 = nth a p ∧ t.2.2 = nth b p := by
  unfold movesTo at h
  rw [List.mem_filterMap] at h
  obtain ⟨p, hp, e⟩ := h
  split at e
  · rename_i hc
    injection e with e
    subst e
    exact ⟨p, List.mem_range.1 hp, hc.1, rfl, rfl⟩
  · cases e
/-- one more member comes: what moves goes to it -/
theorem moves_to {xs : List Int} {more : Int} {a b ysA ysB : List Int} (h0 : 0 < more) (h6 : xs.length ≤ 6) (hne : xs ≠ []) (hpos : ∀ x ∈ xs, 0 < x ∧ x ≠ more)
    (hA : Sorted zeros8 ysA (thoseL xs)) (fa : Facts zeros8 (thoseL xs) (leftTo ysA ysA.length) a)
    (hB : Sorted a ysB (thoseL (xs ++ [more]))) (fb : Facts a (thoseL (xs ++ [more])) (leftTo ysB ysB.length) b) :
    (∀ t ∈ movesTo a b 8, t.2.2 = more) ∧ balL b (thoseL (xs ++ [more])) = true := by
  have hp' := those_more (xs := xs) h0 (fun x hx => (hpos x hx).2)
  have hl0 := those_ne hne (fun x hx => (hpos x hx).1)
  have hl6 := those_le xs
  have hlp' : ∀ n ∈ thoseL (xs ++ [more]), 0 < n := fun n hn => ((those_mem _ _).1 hn).2
  refine ⟨?_, claim_balanced (those_nodup _) hlp' hB.1 fb⟩
  intro t ht
  obtain ⟨p, hp, hd, -, e⟩ := movesTo_mem ht
  rw [e]
  have hm := fb.moved p hp (Ne.symm hd)
  have hin := hp'.mem_iff.1 (fb.mem p hp)
  rw [List.mem_append, List.mem_singleton] at hin
  rcases hin with hin | hin
  · exact (grow_new (those_nodup _) (those_nodup _) hlp' hl0 (by omega) hp' hA.1 fa.len fa.cnt hB hin hm).elim
  · exact hin
/-- it goes again: what moves was its own -/
theorem moves_back {xs : List Int} {more : Int} {a b c ysB ysC : List Int} (h0 : 0 < more) (h6 : xs.length ≤ 6) (hne : xs ≠ []) (hpos : ∀ x ∈ xs, 0 < x ∧ x ≠ more)
    (hB : Sorted a ysB (thoseL (xs ++ [more]))) (fb : Facts a (thoseL (xs ++ [more])) (leftTo ysB ysB.length) b)
    (hC : Sorted b ysC (thoseL xs)) (fc : Facts b (thoseL xs) (leftTo ysC ysC.length) c) :
    (∀ t ∈ movesTo b c 8, t.2.1 = more) ∧ balL c (thoseL xs) = true := by
  have hp' := those_more (xs := xs) h0 (fun x hx => (hpos x hx).2)
  have hl0 := those_ne hne (fun x hx => (hpos x hx).1)
  have hl6 := those_le xs
  have hlp : ∀ n ∈ thoseL xs, 0 < n := fun n hn => ((those_mem _ _).1 hn).2
  have hlp' : ∀ n ∈ thoseL (xs ++ [more]), 0 < n := fun n hn => ((those_mem _ _).1 hn).2
  refine ⟨?_, claim_balanced (those_nodup _) hlp hC.1 fc⟩
  intro t ht
  obtain ⟨p, hp, hd, e, -⟩ := movesTo_mem ht
  rw [e]
  have hin := hp'.mem_iff.1 (fb.mem p hp)
  rw [List.mem_append, List.mem_singleton] at hin
  rcases hin with hin | hin
  · exact absurd (fc.stay p hp hin (grow_back (those_nodup _) (those_nodup _) hlp' hl0 (by omega) hp' hB.1 fb.len fb.cnt hC hin)).symm hd
  · exact hin
end Go.Proofs.Ytalbdcpbdedfiaa
