/- Plain law: the members, rising, each once (thoseL). -/
import Derived.Test.YtalbdcpbdedfiaaDoorPc
namespace Go.Proofs.YtalbdcpbdedfiaaDoor

theorem arr_nth (zs : List Int) (j : Nat) : zs.toArray[j]! = nth zs j := by
  simp [nth, List.getD_eq_getElem?_getD, getElem!_def]
  cases zs[j]? <;> rfl
theorem upTo_facts (zs : List Int) (hs : ∀ i j, i ≤ j → j < zs.length → nth zs i ≤ nth zs j) : ∀ m, m ≤ zs.length →
    (Lib.compactUpTo zs.toArray m).Pairwise (fun a b => a < b) ∧ (∀ x, x ∈ Lib.compactUpTo zs.toArray m ↔ ∃ j, j < m ∧ nth zs j = x)
  | 0, _ => ⟨List.Pairwise.nil, fun x => by simp [Lib.compactUpTo]⟩
  | m + 1, hm => by
    obtain ⟨h1, h2⟩ := upTo_facts zs hs m (by omega)
    rw [Lib.compactUpTo_succ, arr_nth]
    by_cases hk : Lib.keeps zs.toArray m = true
    · rw [if_pos hk]
      have hlt : ∀ x ∈ Lib.compactUpTo zs.toArray m, x < nth zs m := by
        intro x hx
        obtain ⟨j, hj, rfl⟩ := (h2 x).1 hx
        have hne : nth zs m ≠ nth zs (m - 1) := by
          have := of_decide_eq_true hk
          rw [arr_nth, arr_nth] at this
          rcases this with h | h
          · omega
          · exact h
        have h3 := hs j (m - 1) (by omega) (by omega)
        have h4 := hs (m - 1) m (by omega) (by omega)
        omega
      refine ⟨List.pairwise_append.2 ⟨h1, List.pairwise_singleton _ _, fun a ha b hb => by simp at hb; subst hb; exact hlt a ha⟩, fun x => ?_⟩
      rw [List.mem_append, h2]
      constructor
      · rintro (⟨j, hj, e⟩ | h)
        · exact ⟨j, by omega, e⟩
        · simp at h; exact ⟨m, by omega, h.symm⟩
      · rintro ⟨j, hj, e⟩
        by_cases hjm : j = m
        · subst hjm; right; simp [e]
        · left; exact ⟨j, by omega, e⟩
    · rw [if_neg hk, List.append_nil]
      refine ⟨h1, fun x => ?_⟩
      rw [h2]
      constructor
      · rintro ⟨j, hj, e⟩; exact ⟨j, by omega, e⟩
      · rintro ⟨j, hj, e⟩
        by_cases hjm : j = m
        · subst hjm
          have hnk : ¬ (j = 0 ∨ zs.toArray[j]! ≠ zs.toArray[j - 1]!) := fun h => hk (by unfold Lib.keeps; exact decide_eq_true h)
          rw [arr_nth, arr_nth] at hnk
          refine ⟨j - 1, by omega, ?_⟩
          have : nth zs j = nth zs (j - 1) := by
            by_cases he : nth zs j = nth zs (j - 1)
            · exact he
            · exact absurd (.inr he) hnk
          rw [← this]; exact e
        · exact ⟨j, by omega, e⟩
theorem sorted_mono (xs : List Int) : ∀ i j, i ≤ j → j < (sorted xs).length → nth (sorted xs) i ≤ nth (sorted xs) j := by
  have h := List.pairwise_mergeSort (le := fun x y : Int => decide (x ≤ y)) (fun a b c h1 h2 => by simp at *; omega) (fun a b => by simp; omega) xs
  intro i j hij hj
  rcases Nat.eq_or_lt_of_le hij with rfl | hlt
  · exact Int.le_refl _
  · have := List.pairwise_iff_getElem.1 h i j (by show i < (sorted xs).length; omega) hj hlt
    rw [nth_get _ i (by omega), nth_get _ j hj]
    exact of_decide_eq_true this
theorem sorted_mem (xs : List Int) (x : Int) : x ∈ sorted xs ↔ x ∈ xs := (List.mergeSort_perm xs _).mem_iff
/-- the members: rising -/
theorem those_rises (xs : List Int) : (thoseL xs).Pairwise (fun a b => a < b) := (upTo_facts _ (sorted_mono _) _ (Nat.le_refl _)).1
/-- the members: who is above 0 -/
theorem those_mem (xs : List Int) (x : Int) : x ∈ thoseL xs ↔ x ∈ xs ∧ 0 < x := by
  have h := (upTo_facts _ (sorted_mono (xs.filter fun n => !decide (n ≤ 0))) _ (Nat.le_refl _)).2 x
  show x ∈ Lib.compactUpTo _ _ ↔ _
  rw [h]
  constructor
  · rintro ⟨j, hj, rfl⟩
    have := nth_mem _ j hj
    rw [sorted_mem, List.mem_filter] at this
    refine ⟨this.1, ?_⟩
    have h2 := this.2
    simp at h2
    exact h2
  · rintro ⟨h1, h2⟩
    have : x ∈ sorted (xs.filter fun n => !decide (n ≤ 0)) := by
      rw [sorted_mem, List.mem_filter]
      exact ⟨h1, by simpa using h2⟩
    exact mem_nth this
theorem those_nodup (xs : List Int) : (thoseL xs).Nodup := (those_rises xs).imp (fun h => Int.ne_of_lt h)
theorem those_zero (xs : List Int) : 0 ∉ thoseL xs := fun h => by have := ((those_mem xs 0).1 h).2; omega
theorem those_le (xs : List Int) : (thoseL xs).length ≤ xs.length := by
  have h1 := Lib.compact_length_le (sorted (xs.filter fun n => !decide (n ≤ 0)))
  have h2 := List.length_filter_le (fun n : Int => !decide (n ≤ 0)) xs
  rw [sorted_length] at h1
  unfold thoseL
  omega
/-- two lists of numbers, both rising, with the same numbers, are one -/
theorem rises_ext : ∀ {xs ys : List Int}, xs.Pairwise (fun a b => a < b) → ys.Pairwise (fun a b => a < b) → (∀ x, x ∈ xs ↔ x ∈ ys) → xs = ys := by
  intro xs ys hx hy h
  have hp : xs.Perm ys := (List.perm_ext_iff_of_nodup (hx.imp (fun h => Int.ne_of_lt h)) (hy.imp (fun h => Int.ne_of_lt h))).2 h
  exact List.Perm.eq_of_pairwise (le := fun a b : Int => a < b) (fun a b _ _ h1 h2 => by omega) hx hy hp
theorem those_none (xs : List Int) : thoseL xs = [] ↔ ∀ x ∈ xs, x ≤ 0 := by
  constructor
  · intro h x hx
    by_cases e : 0 < x
    · have := (those_mem xs x).2 ⟨hx, e⟩
      rw [h] at this; simp at this
    · omega
  · intro h
    rw [List.eq_nil_iff_forall_not_mem]
    intro x hx
    have := (those_mem xs x).1 hx
    have := h x this.1
    omega

/-! ### who owns how many; the order of the members -/
theorem ownedTo_count (o : List Int) (n : Int) (hn : 0 < n) : ∀ k, k ≤ o.length → (ownedTo o n k).length = (o.take k).count n
  | 0, _ => by simp [ownedTo]
  | k + 1, hk => by
    have ih := ownedTo_count o n hn k (by omega)
    have e : o.take (k + 1) = o.take k ++ [nth o k] := by
      rw [List.take_add_one, List.getElem?_eq_getElem (by omega), nth_get o k (by omega)]; rfl
    rw [e, List.count_append, ← ih]
    by_cases h : nth o k = n
    · rw [ownedTo_hit o n k hn h]; simp [h]
    · rw [ownedTo_miss o n k (fun h' => h h'.2)]
      have : ¬ (nth o k == n) = true := by simpa using h
      simp [List.count_cons, this]
theorem cnt_count (o : List Int) (ho : o.length = 8) (n : Int) (hn : 0 < n) : cnt o n = (o.count n : Int) := by
  have := ownedTo_count o n hn 8 (by omega)
  rw [List.take_of_length_le (by omega)] at this
  unfold cnt
  rw [this]
theorem lt_key (o : List Int) (a b : Int) : Go.Proofs.ltOf (claimCmp o) a b = true ↔ cnt o b < cnt o a ∨ (cnt o b = cnt o a ∧ a < b) := by
  unfold Go.Proofs.ltOf claimCmp orI Lib.compareInt
  rw [decide_eq_true_iff]
  repeat' split
  all_goals omega
theorem sorted_desc {o ys l : List Int} (h : Sorted o ys l) {i j : Nat} (hij : i ≤ j) (hj : j < ys.length) : cnt o (nth ys j) ≤ cnt o (nth ys i) := by
  rcases Nat.eq_or_lt_of_le hij with rfl | hlt
  · exact Int.le_refl _
  · have := List.pairwise_iff_getElem.1 h.2 i j (by omega) hj hlt
    rw [← nth_get ys i (by omega), ← nth_get ys j hj, ← Bool.not_eq_true, lt_key] at this
    omega
/-- if of ys' the first i + 1 have the property, and of ys none from r on, i + 1 ≤ r -/
theorem rank {ys ys' : List Int} (hp : ys.Perm ys') (P : Int → Bool) {i r : Nat} (hi : i < ys'.length) (h1 : ∀ a, a ≤ i → P (nth ys' a) = true) (h2 : ∀ b, r ≤ b → b < ys.length → P (nth ys b) = false) : i < r := by
  have e := hp.countP_eq P
  have a1 : i + 1 ≤ ys'.countP P := by
    have h : (ys'.take (i + 1)).countP P = i + 1 := by
      rw [List.countP_eq_length.2, List.length_take]
      · omega
      · intro x hx
        obtain ⟨j, hj, rfl⟩ := mem_nth hx
        rw [List.length_take] at hj
        have := h1 j (by omega)
        simpa [nth, List.getD_eq_getElem?_getD, List.getElem?_take, show j < i + 1 by omega] using this
    have h' := (List.take_sublist (i + 1) ys').countP_le (p := P)
    omega
  have a2 : ys.countP P ≤ r := by
    have h : ys.countP P = (ys.take r).countP P + (ys.drop r).countP P := by rw [← List.countP_append, List.take_append_drop]
    have h3 : (ys.drop r).countP P = 0 := by
      rw [List.countP_eq_zero]
      intro x hx
      obtain ⟨j, hj, rfl⟩ := mem_nth hx
      rw [List.length_drop] at hj
      have := h2 (r + j) (by omega) (by omega)
      simpa [nth, List.getD_eq_getElem?_getD, List.getElem?_drop] using this
    have h4 := List.countP_le_length (p := P) (l := ys.take r)
    rw [List.length_take] at h4
    omega
  omega

/-! ### balance -/
theorem lmTo_spec (o l : List Int) : ∀ k, (∀ i, i < k → (lmTo o l k).1 ≤ cnt o (nth l i) ∧ cnt o (nth l i) ≤ (lmTo o l k).2)
  | 0, i, hi => absurd hi (Nat.not_lt_zero _)
  | k + 1, i, hi => by
    have ih := lmTo_spec o l k
    unfold lmTo
    split
    · rename_i h; subst h
      obtain rfl : i = 0 := by omega
      exact ⟨Int.le_refl _, Int.le_refl _⟩
    · by_cases e : i = k
      · subst e; simp only; omega
      · have := ih i (by omega); simp only; omega
theorem lmTo_in (o l : List Int) (a b : Int) (h : ∀ i, i < l.length → a ≤ cnt o (nth l i) ∧ cnt o (nth l i) ≤ b) : ∀ k, 0 < k → k ≤ l.length → a ≤ (lmTo o l k).1 ∧ (lmTo o l k).2 ≤ b
  | 0, h0, _ => absurd h0 (Nat.lt_irrefl _)
  | k + 1, _, hk => by
    have hk' := h k (by omega)
    have h0 := h 0 (by omega)
    unfold lmTo
    split
    · exact ⟨h0.1, h0.2⟩
    · rename_i hne
      have ih := lmTo_in o l a b h k (by omega) (by omega)
      simp only; omega
theorem balanced_of (c l : List Int) (hpos : ∀ n ∈ l, 0 < n) (hm : ∀ p, p < 8 → nth c p ∈ l) (a : Int) (h : ∀ n ∈ l, a ≤ cnt c n ∧ cnt c n ≤ a + 1) : balL c l = true := by
  have hb : ∀ j, j < 8 → badB c l j = false := fun j hj => by
    have h1 := hm j hj
    have h2 : l.contains (nth c j) = true := by simpa using h1
    simp only [badB, if_pos (hpos _ h1), h2]; rfl
  rw [balL_good c l hb]
  have hl : 0 < l.length := List.length_pos_iff.2 (fun e => by have := hm 0 (by omega); rw [e] at this; simp at this)
  have := lmTo_in c l a (a + 1) (fun i hi => h _ (nth_mem l i hi)) l.length hl (Nat.le_refl _)
  exact decide_eq_true (by omega)
theorem quota_bd (m i : Nat) : (8 : Int) / (m : Int) ≤ quota m i ∧ quota m i ≤ (8 : Int) / (m : Int) + 1 := by
  unfold quota; split <;> omega
/-- a claim is balanced -/
theorem claim_balanced {o l ys out : List Int} (hl : l.Nodup) (hpos : ∀ n ∈ l, 0 < n) (hp : ys.Perm l) (h : Facts o l (leftTo ys ys.length) out) : balL out l = true := by
  refine balanced_of out l hpos h.mem (8 / (ys.length : Int)) (fun n hn => ?_)
  rw [cnt_count out h.len n (hpos n hn), h.cnt n hn]
  obtain ⟨i, hi, rfl⟩ := mem_nth (hp.mem_iff.2 hn)
  rw [leftTo_at ys (hp.nodup_iff.2 hl) _ (Nat.le_refl _) i hi]
  exact quota_bd _ _
end Go.Proofs.YtalbdcpbdedfiaaDoor
