/- Plain law: what the document's division comes to, and that it is ours. -/
import Derived.Test.YtalbdcpbdedfiaaPe
namespace Go.Proofs.Ytalbdcpbdedfiaa

/-! ### the members, put in one by one -/
def ins (x : Int) : List Int → List Int
  | [] => [x]
  | y :: t => if y < x then y :: ins x t else if y = x then y :: t else x :: y :: t
def insTo (xs : List Int) : Nat → List Int
  | 0 => []
  | k + 1 => if 0 < nth xs k then ins (nth xs k) (insTo xs k) else insTo xs k
theorem ins_mem (x z : Int) : ∀ l : List Int, z ∈ ins x l ↔ z = x ∨ z ∈ l
  | [] => by simp [ins]
  | y :: t => by
    unfold ins
    split
    · rw [List.mem_cons, ins_mem x z t, List.mem_cons]
      constructor
      · rintro (h | h | h)
        · exact .inr (.inl h)
        · exact .inl h
        · exact .inr (.inr h)
      · rintro (h | h | h)
        · exact .inr (.inl h)
        · exact .inl h
        · exact .inr (.inr h)
    · split
      · rename_i h
        subst h
        simp
      · simp
theorem ins_rises (x : Int) : ∀ l : List Int, l.Pairwise (fun a b => a < b) → (ins x l).Pairwise (fun a b => a < b)
  | [], _ => List.pairwise_singleton _ _
  | y :: t, h => by
    have h' := List.pairwise_cons.1 h
    unfold ins
    split
    · rename_i hyx
      refine List.pairwise_cons.2 ⟨fun z hz => ?_, ins_rises x t h'.2⟩
      rcases (ins_mem x z t).1 hz with rfl | hz
      · exact hyx
      · exact h'.1 z hz
    · split
      · exact h
      · rename_i h1 h2
        refine List.pairwise_cons.2 ⟨fun z hz => ?_, h⟩
        rcases List.mem_cons.1 hz with rfl | hz
        · omega
        · have := h'.1 z hz; omega
theorem insTo_rises (xs : List Int) : ∀ k, (insTo xs k).Pairwise (fun a b => a < b)
  | 0 => List.Pairwise.nil
  | k + 1 => by
    unfold insTo
    split
    · exact ins_rises _ _ (insTo_rises xs k)
    · exact insTo_rises xs k
theorem insTo_mem (xs : List Int) (z : Int) : ∀ k, k ≤ xs.length → (z ∈ insTo xs k ↔ 0 < z ∧ ∃ j, j < k ∧ nth xs j = z)
  | 0, _ => by simp [insTo]
  | k + 1, hk => by
    have ih := insTo_mem xs z k (by omega)
    unfold insTo
    split
    · rename_i h0
      rw [ins_mem, ih]
      constructor
      · rintro (rfl | ⟨h, j, hj, e⟩)
        · exact ⟨h0, k, by omega, rfl⟩
        · exact ⟨h, j, by omega, e⟩
      · rintro ⟨h, j, hj, e⟩
        by_cases hjk : j = k
        · subst hjk; exact .inl e.symm
        · exact .inr ⟨h, j, by omega, e⟩
    · rename_i h0
      rw [ih]
      constructor
      · rintro ⟨h, j, hj, e⟩
        exact ⟨h, j, by omega, e⟩
      · rintro ⟨h, j, hj, e⟩
        by_cases hjk : j = k
        · subst hjk; omega
        · exact ⟨h, j, by omega, e⟩
theorem insTo_those (xs : List Int) : insTo xs xs.length = thoseL xs := by
  refine rises_ext (insTo_rises _ _) (those_rises _) (fun x => ?_)
  rw [insTo_mem xs x _ (Nat.le_refl _), those_mem]
  constructor
  · rintro ⟨h, j, hj, rfl⟩
    exact ⟨nth_mem xs j hj, h⟩
  · rintro ⟨h, h0⟩
    obtain ⟨j, hj, e⟩ := mem_nth h
    exact ⟨h0, j, hj, e⟩
theorem insTo_len (xs : List Int) : ∀ k, (insTo xs k).length ≤ k
  | 0 => Nat.le_refl _
  | k + 1 => by
    have h1 : ∀ x (l : List Int), (ins x l).length ≤ l.length + 1 := by
      intro x l
      induction l with
      | nil => simp [ins]
      | cons y t ih =>
        unfold ins
        split
        · simp; omega
        · split <;> simp
    have := insTo_len xs k
    unfold insTo
    split
    · exact Nat.le_trans (h1 _ _) (by omega)
    · omega
/-- where a member is put: it is there -/
theorem ins_there (x : Int) : ∀ (l : List Int) (at_ : Nat), (∀ j, j < at_ → nth l j < x) → at_ < l.length → nth l at_ = x → ins x l = l
  | [], _, _, h, _ => by simp at h
  | y :: t, 0, _, _, h => by
    rw [nth_cons_zero] at h
    subst h
    simp [ins]
  | y :: t, k + 1, hb, hk, h => by
    have h0 := hb 0 (by omega)
    rw [nth_cons_zero] at h0
    unfold ins
    rw [if_pos h0, ins_there x t k (fun j hj => by have := hb (j + 1) (by omega); rwa [nth_cons_succ] at this) (by simpa using hk) (by rwa [nth_cons_succ] at h)]
/-- it is put in -/
theorem ins_put (x : Int) : ∀ (l : List Int) (at_ : Nat), (∀ j, j < at_ → nth l j < x) → at_ ≤ l.length → (at_ < l.length → x < nth l at_) → ins x l = l.take at_ ++ [x] ++ l.drop at_
  | [], k, _, h, _ => by
    have : k = 0 := by simpa using h
    subst this; rfl
  | y :: t, 0, _, _, h => by
    have := h (by simp)
    rw [nth_cons_zero] at this
    unfold ins
    rw [if_neg (by omega), if_neg (by omega)]
    rfl
  | y :: t, k + 1, hb, hk, h => by
    have h0 := hb 0 (by omega)
    rw [nth_cons_zero] at h0
    unfold ins
    rw [if_pos h0, ins_put x t k (fun j hj => by have := hb (j + 1) (by omega); rwa [nth_cons_succ] at this) (by simpa using hk) (fun hlt => by have := h (by simpa using hlt); rwa [nth_cons_succ] at this)]
    simp

/-! ### the quotas -/
/-- how many of the first k members come ahead of a member -/
def aheadTo (o l : List Int) (x : Int) : Nat → Nat
  | 0 => 0
  | k + 1 => aheadTo o l x k + (if cnt o x < cnt o (nth l k) ∨ (cnt o (nth l k) = cnt o x ∧ nth l k < x) then 1 else 0)
theorem aheadTo_le (o l : List Int) (x : Int) : ∀ k, aheadTo o l x k ≤ k
  | 0 => Nat.le_refl _
  | k + 1 => by
    have := aheadTo_le o l x k
    unfold aheadTo
    split <;> omega
theorem aheadTo_hit (o l : List Int) (x : Int) (k : Nat) (h : cnt o x < cnt o (nth l k) ∨ (cnt o (nth l k) = cnt o x ∧ nth l k < x)) : aheadTo o l x (k + 1) = aheadTo o l x k + 1 := by
  show _ + (if _ then _ else _) = _
  rw [if_pos h]
theorem aheadTo_miss (o l : List Int) (x : Int) (k : Nat) (h : ¬ (cnt o x < cnt o (nth l k) ∨ (cnt o (nth l k) = cnt o x ∧ nth l k < x))) : aheadTo o l x (k + 1) = aheadTo o l x k := by
  show _ + (if _ then _ else _) = _
  rw [if_neg h]; rfl
theorem aheadTo_countP (o l : List Int) (x : Int) : ∀ k, k ≤ l.length → aheadTo o l x k = (l.take k).countP (fun a => Go.Proofs.ltOf (claimCmp o) a x)
  | 0, _ => by simp [aheadTo]
  | k + 1, hk => by
    have e : l.take (k + 1) = l.take k ++ [nth l k] := by
      rw [List.take_add_one, List.getElem?_eq_getElem (by omega), nth_get l k (by omega)]; rfl
    rw [e, List.countP_append, ← aheadTo_countP o l x k (by omega), List.countP_singleton]
    by_cases h : cnt o x < cnt o (nth l k) ∨ (cnt o (nth l k) = cnt o x ∧ nth l k < x)
    · rw [aheadTo_hit o l x k h, if_pos ((lt_key o _ _).2 (h.imp id (fun h => ⟨h.1.symm, h.2⟩)))]
    · rw [aheadTo_miss o l x k h, if_neg (fun h' => h (((lt_key o _ _).1 h').imp id (fun h => ⟨h.1.symm, h.2⟩)))]; rfl
theorem rank_at (o : List Int) : ∀ (ys : List Int), ys.Nodup → ys.Pairwise (fun a b => Go.Proofs.ltOf (claimCmp o) b a = false) → ∀ i, i < ys.length → ys.countP (fun a => Go.Proofs.ltOf (claimCmp o) a (nth ys i)) = i
  | [], _, _, i, hi => by simp at hi
  | y :: t, hn, hs, i, hi => by
    have hn' := List.nodup_cons.1 hn
    have hs' := List.pairwise_cons.1 hs
    have irr : ∀ x, ¬ Go.Proofs.ltOf (claimCmp o) x x = true := fun x => by rw [lt_key]; omega
    cases i with
    | zero =>
      rw [nth_cons_zero, List.countP_cons_of_neg (p := fun a => Go.Proofs.ltOf (claimCmp o) a y) (irr y), List.countP_eq_zero]
      intro a ha
      rw [hs'.1 a ha]; decide
    | succ i =>
      have hi' : i < t.length := by simpa using hi
      have hm := nth_mem t i hi'
      have hne : y ≠ nth t i := fun e => hn'.1 (e ▸ hm)
      have hlt : Go.Proofs.ltOf (claimCmp o) y (nth t i) = true := by
        have := hs'.1 _ hm
        rw [← Bool.not_eq_true, lt_key] at this
        rw [lt_key]
        omega
      rw [nth_cons_succ, List.countP_cons_of_pos (p := fun a => Go.Proofs.ltOf (claimCmp o) a (nth t i)) hlt, rank_at o t hn'.2 hs'.2 i hi']
/-- how many each may have, as the document counts -/
def fR (o l : List Int) : Int → Int := fun x => if x ∈ l then quota l.length (aheadTo o l x l.length) else 0
theorem fR_left {o l ys : List Int} (hl : l.Nodup) (hS : Sorted o ys l) : fR o l = leftTo ys ys.length := by
  have hyn : ys.Nodup := hS.1.nodup_iff.2 hl
  funext x
  unfold fR
  split
  · rename_i hx
    obtain ⟨i, hi, rfl⟩ := mem_nth (hS.1.mem_iff.2 hx)
    rw [leftTo_at ys hyn _ (Nat.le_refl _) i hi, aheadTo_countP o l _ _ (Nat.le_refl _), List.take_of_length_le (Nat.le_refl _), ← hS.1.countP_eq, rank_at o ys hyn hS.2 i hi, hS.1.length_eq]
  · rename_i hx
    rw [leftTo_out ys x (fun h => hx (hS.1.mem_iff.1 h)) _ (Nat.le_refl _)]
theorem quota_ge (m i : Nat) (hm : 0 < m) : 0 ≤ quota m i ∧ quota m i ≤ 9 := by
  have := div_bd m hm
  unfold quota
  split <;> omega
theorem fR_bd (o l : List Int) : ∀ x, 0 ≤ fR o l x ∧ fR o l x ≤ 9 := fun x => by
  unfold fR
  split
  · rename_i h
    exact quota_ge _ _ (List.length_pos_of_mem h)
  · omega
theorem fR_out (o l : List Int) (x : Int) (h : x ∉ l) : fR o l x = 0 := if_neg h
theorem fR_in (o l : List Int) (i : Nat) (h : i < l.length) : fR o l (nth l i) = quota l.length (aheadTo o l (nth l i) l.length) := if_pos (nth_mem l i h)

/-! ### the two passes -/
/-- one place of the first pass, behind k members -/
def keepK (o l : List Int) (s : (Int → Int) × List Int) (i : Nat) (k : Nat) : (Int → Int) × List Int := if nth o i ∈ l.take k then takeS s i (nth o i) else s
theorem keepK_zero (o l : List Int) (s : (Int → Int) × List Int) (i : Nat) : keepK o l s i 0 = s := by simp [keepK]
theorem take_snocI (l : List Int) (k : Nat) (h : k < l.length) : l.take (k + 1) = l.take k ++ [nth l k] := by
  rw [List.take_add_one, List.getElem?_eq_getElem h, nth_get l k h]; rfl
theorem keepK_other (o l : List Int) (s : (Int → Int) × List Int) (i k : Nat) (hk : k < l.length) (h : nth o i ≠ nth l k) : keepK o l s i (k + 1) = keepK o l s i k := by
  unfold keepK
  rw [take_snocI l k hk]
  simp [h]
theorem keepK_here (o l : List Int) (s : (Int → Int) × List Int) (i k : Nat) (hl : l.Nodup) (hk : k < l.length) (h : nth o i = nth l k) : keepK o l s i k = s ∧ keepK o l s i (k + 1) = takeS s i (nth l k) := by
  constructor
  · unfold keepK
    rw [if_neg]
    intro hm
    obtain ⟨j, hj, e⟩ := mem_nth hm
    rw [List.length_take] at hj
    have : nth (l.take k) j = nth l j := by simp [nth, List.getD_eq_getElem?_getD, show j < k by omega]
    rw [this, h] at e
    exact nodup_nth hl (by omega) hk (by omega) e
  · unfold keepK
    rw [take_snocI l k hk, if_pos (by simp [h]), h]
def keepR (o l : List Int) (f : Int → Int) : Nat → (Int → Int) × List Int
  | 0 => (f, zeros8)
  | i + 1 => keepK o l (keepR o l f i) i l.length
theorem keepR_eq (o l : List Int) (f : Int → Int) (h0 : 0 ∉ l) (hf : ∀ n, n ∉ l → f n ≤ 0) (hnn : ∀ n ∈ l, 0 ≤ f n) : ∀ i, i ≤ 8 → keepR o l f i = (keepTo o f i).1
  | 0, _ => rfl
  | i + 1, hi => by
    have ih := keepR_eq o l f h0 hf hnn i (by omega)
    have hI := (keep_inv o l f h0 hf hnn i (by omega)).inv
    show keepK o l (keepR o l f i) i l.length = _
    rw [ih]
    unfold keepK
    rw [List.take_of_length_le (Nat.le_refl _)]
    by_cases h : 0 < (keepTo o f i).1.1 (nth o i)
    · rw [keepTo_yes o f i h]
      split
      · rfl
      · rename_i hn
        have := hI.out _ hn
        omega
    · rw [keepTo_no o f i h]
      split
      · exact takeS_no _ _ _ h
      · rfl
/-- one place of the second pass, behind k members -/
def fillK (l : List Int) (s : (Int → Int) × List Int) (i : Nat) : Nat → (Int → Int) × List Int
  | 0 => s
  | k + 1 => if nth (fillK l s i k).2 i = 0 then takeS (fillK l s i k) i (nth l k) else fillK l s i k
theorem fillK_stays (l : List Int) (s : (Int → Int) × List Int) (i k : Nat) (h : nth (fillK l s i k).2 i ≠ 0) : ∀ d, fillK l s i (k + d) = fillK l s i k
  | 0 => rfl
  | d + 1 => by
    have ih := fillK_stays l s i k h d
    show (if nth (fillK l s i (k + d)).2 i = 0 then takeS (fillK l s i (k + d)) i (nth l (k + d)) else fillK l s i (k + d)) = _
    rw [ih, if_neg h]
theorem fillK_len (l : List Int) (s : (Int → Int) × List Int) (i : Nat) : ∀ k, (fillK l s i k).2.length = s.2.length
  | 0 => rfl
  | k + 1 => by
    have ih := fillK_len l s i k
    unfold fillK
    split
    · unfold takeS
      split
      · simp [ih]
      · exact ih
    · exact ih
theorem fillK_one (l : List Int) (s : (Int → Int) × List Int) (i : Nat) (h0 : 0 ∉ l) (hi : i < s.2.length) : fillK l s i l.length = if nth s.2 i = 0 then fillOne l s i else s := by
  by_cases hz : nth s.2 i = 0
  · rw [if_pos hz]
    have key : ∀ k, k ≤ l.length → (∀ j, j < k → ¬ 0 < s.1 (nth l j)) → fillK l s i k = s := by
      intro k
      induction k with
      | zero => intros; rfl
      | succ k ih =>
        intro hk hn
        have e := ih (by omega) (fun j hj => hn j (by omega))
        unfold fillK
        rw [e, if_pos hz, takeS_no _ _ _ (hn k (by omega))]
    by_cases hex : ∃ j, j < l.length ∧ 0 < s.1 (nth l j)
    · obtain ⟨j, ⟨hj, hp⟩, hmin⟩ : ∃ j, (j < l.length ∧ 0 < s.1 (nth l j)) ∧ ∀ i, i < j → ¬ 0 < s.1 (nth l i) := by
        have hex' : ∃ j, j < l.length ∧ 0 < s.1 (nth l j) := hex
        have hp : ∀ n, (∃ j, j < n ∧ j < l.length ∧ 0 < s.1 (nth l j)) → ∃ j, (j < l.length ∧ 0 < s.1 (nth l j)) ∧ ∀ i, i < j → ¬ 0 < s.1 (nth l i) := by
          intro n
          induction n with
          | zero => rintro ⟨j, hj, _⟩; exact absurd hj (Nat.not_lt_zero _)
          | succ n ih =>
            rintro ⟨j, hj, h1, h2⟩
            by_cases h : ∃ j, j < n ∧ j < l.length ∧ 0 < s.1 (nth l j)
            · exact ih h
            · refine ⟨j, ⟨h1, h2⟩, fun i hi hp => h ⟨i, by omega, by omega, hp⟩⟩
        obtain ⟨j, hj, hp'⟩ := hex'
        exact hp (j + 1) ⟨j, by omega, hj, hp'⟩
      have e1 := key j (by omega) hmin
      have e2 : fillK l s i (j + 1) = takeS s i (nth l j) := by
        show (if nth (fillK l s i j).2 i = 0 then _ else _) = _
        rw [e1, if_pos hz]
      have hne : nth (fillK l s i (j + 1)).2 i ≠ 0 := by
        rw [e2, takeS_yes _ _ _ hp]
        show nth (s.2.set i (nth l j)) i ≠ 0
        rw [nth_set_same _ _ _ hi]
        exact fun e => h0 (e ▸ nth_mem l j hj)
      have e3 := fillK_stays l s i (j + 1) hne (l.length - (j + 1))
      rw [show j + 1 + (l.length - (j + 1)) = l.length by omega] at e3
      rw [e3, e2, fillOne_yes l s i j hj hmin hp]
    · have hno : ∀ j, j < l.length → ¬ 0 < s.1 (nth l j) := fun j hj hp => hex ⟨j, hj, hp⟩
      rw [key l.length (Nat.le_refl _) hno, fillOne_no l s i hno]
  · rw [if_neg hz]
    have := fillK_stays l s i 0 hz l.length
    rw [Nat.zero_add] at this
    exact this
def fillR (l : List Int) (s : (Int → Int) × List Int) : Nat → (Int → Int) × List Int
  | 0 => s
  | i + 1 => fillK l (fillR l s i) i l.length
theorem takeS_other (s : (Int → Int) × List Int) (p q : Nat) (n : Int) (h : q ≠ p) : nth (takeS s p n).2 q = nth s.2 q := by
  unfold takeS
  split
  · exact nth_set_other _ _ _ _ h
  · rfl
theorem takeS_len (s : (Int → Int) × List Int) (p : Nat) (n : Int) : (takeS s p n).2.length = s.2.length := by
  unfold takeS
  split <;> simp
theorem fillOne_other (l : List Int) (s : (Int → Int) × List Int) (p q : Nat) (h : q ≠ p) : nth (fillOne l s p).2 q = nth s.2 q := by
  unfold fillOne
  split
  · exact takeS_other _ _ _ _ h
  · rfl
theorem fillOne_len (l : List Int) (s : (Int → Int) × List Int) (p : Nat) : (fillOne l s p).2.length = s.2.length := by
  unfold fillOne
  split
  · exact takeS_len _ _ _
  · rfl
/-- the places that the first pass leaves open, in their order -/
theorem keep_opens (o l : List Int) (f : Int → Int) (h0 : 0 ∉ l) (hf : ∀ n, n ∉ l → f n ≤ 0) (hnn : ∀ n ∈ l, 0 ≤ f n) : ∀ k, k ≤ 8 →
    (keepTo o f k).2 = ((List.range k).filter (fun p => nth (keepTo o f k).1.2 p == 0)).map (fun p : Nat => (p : Int))
  | 0, _ => rfl
  | k + 1, hk => by
    have ih := keep_opens o l f h0 hf hnn k (by omega)
    have hI := keep_inv o l f h0 hf hnn k (by omega)
    by_cases h : 0 < (keepTo o f k).1.1 (nth o k)
    · have hl : nth o k ∈ l := by
        by_cases e : nth o k ∈ l
        · exact e
        · have := hI.inv.out _ e; omega
      have hk0 : nth o k ≠ 0 := fun e => h0 (e ▸ hl)
      rw [keepTo_yes o f k h, List.range_succ, List.filter_append, List.map_append]
      have e1 : (nth (takeS (keepTo o f k).1 k (nth o k)).2 k == 0) = false := by
        rw [takeS_yes _ _ _ h]
        show (nth ((keepTo o f k).1.2.set k (nth o k)) k == 0) = false
        rw [nth_set_same _ _ _ (by rw [hI.inv.len]; omega)]
        simpa using hk0
      simp only [List.filter_cons, e1, List.filter_nil]
      show (keepTo o f k).2 = _
      rw [ih]
      simp only [Bool.false_eq_true, if_false, List.map_nil, List.append_nil]
      congr 1
      refine List.filter_congr (fun p hp => ?_)
      rw [takeS_other _ _ _ _ (by have := List.mem_range.1 hp; omega)]
    · rw [keepTo_no o f k h, List.range_succ, List.filter_append, List.map_append]
      have e1 : (nth (keepTo o f k).1.2 k == 0) = true := by
        rw [hI.ahead k (Nat.le_refl _) (by omega)]; rfl
      simp only [List.filter_cons, e1, List.filter_nil]
      show (keepTo o f k).2 ++ [(k : Int)] = _
      rw [← ih]
      simp
theorem fillTo_append (l : List Int) (s : (Int → Int) × List Int) (a b : List Int) : ∀ k, k ≤ a.length → fillTo l s (a ++ b) k = fillTo l s a k
  | 0, _ => rfl
  | k + 1, hk => by
    show fillOne l (fillTo l s (a ++ b) k) (nth (a ++ b) k).toNat = fillOne l (fillTo l s a k) (nth a k).toNat
    rw [fillTo_append l s a b k (by omega), nth_append_left a b k (by omega)]
theorem fillR_eq (l : List Int) (s : (Int → Int) × List Int) (h0 : 0 ∉ l) (hs : s.2.length = 8) : ∀ k, k ≤ 8 →
    (fillR l s k = fillTo l s (((List.range k).filter (fun p => nth s.2 p == 0)).map (fun p : Nat => (p : Int))) (((List.range k).filter (fun p => nth s.2 p == 0)).map (fun p : Nat => (p : Int))).length)
    ∧ (fillR l s k).2.length = 8 ∧ ∀ p, k ≤ p → nth (fillR l s k).2 p = nth s.2 p
  | 0, _ => ⟨rfl, hs, fun _ _ => rfl⟩
  | k + 1, hk => by
    obtain ⟨ih, hlen, hsame⟩ := fillR_eq l s h0 hs k (by omega)
    have e0 : fillR l s (k + 1) = if nth s.2 k = 0 then fillOne l (fillR l s k) k else fillR l s k := by
      show fillK l (fillR l s k) k l.length = _
      rw [fillK_one l _ k h0 (by omega), hsame k (Nat.le_refl _)]
    rw [e0]
    refine ⟨?_, ?_, fun p hp => ?_⟩
    · rw [List.range_succ, List.filter_append, List.map_append]
      by_cases hz : nth s.2 k = 0
      · have e1 : (nth s.2 k == 0) = true := by rw [hz]; rfl
        simp only [List.filter_cons, e1, List.filter_nil, if_true, List.map_cons, List.map_nil, List.length_append, List.length_cons, List.length_nil]
        generalize ((List.range k).filter (fun p => nth s.2 p == 0)).map (fun p : Nat => (p : Int)) = a at *
        show _ = fillOne l (fillTo l s (a ++ [(k : Int)]) a.length) (nth (a ++ [(k : Int)]) a.length).toNat
        rw [fillTo_append l s a _ _ (Nat.le_refl _), ← ih, if_pos hz]
        congr 1
        simp [nth, List.getD_eq_getElem?_getD]
      · have e1 : (nth s.2 k == 0) = false := by simpa using hz
        simp only [List.filter_cons, e1, List.filter_nil, Bool.false_eq_true, if_false, List.map_nil, List.append_nil]
        rw [if_neg hz, ih]
    · split
      · rw [fillOne_len]; exact hlen
      · exact hlen
    · split
      · rw [fillOne_other _ _ _ _ (by omega)]; exact hsame p (by omega)
      · exact hsame p (by omega)
/-- the document's division -/
def claimR (o l : List Int) : List Int := (fillR l (keepR o l (fR o l) 8) 8).2
theorem claimR_eq {o l ys : List Int} (hl : l.Nodup) (h0 : 0 ∉ l) (hS : Sorted o ys l) : claimW o l ys = claimR o l := by
  have hf : ∀ n, n ∉ l → fR o l n ≤ 0 := fun n hn => by rw [fR_out o l n hn]; exact Int.le_refl _
  have hnn : ∀ n ∈ l, 0 ≤ fR o l n := fun n _ => (fR_bd o l n).1
  unfold claimW claimR
  rw [← fR_left hl hS, keepR_eq o l (fR o l) h0 hf hnn 8 (Nat.le_refl _)]
  have hI := keep_inv o l (fR o l) h0 hf hnn 8 (Nat.le_refl _)
  have ho := keep_opens o l (fR o l) h0 hf hnn 8 (Nat.le_refl _)
  rw [(fillR_eq l (keepTo o (fR o l) 8).1 h0 hI.inv.len 8 (Nat.le_refl _)).1, ← ho]

/-! ### balance -/
/-- what the first k members own -/
def sumTo (o l : List Int) : Nat → Int
  | 0 => 0
  | k + 1 => sumTo o l k + cnt o (nth l k)
theorem sumTo_bd (o l : List Int) : ∀ k, 0 ≤ sumTo o l k ∧ sumTo o l k ≤ 8 * k
  | 0 => ⟨Int.le_refl _, Int.le_refl _⟩
  | k + 1 => by
    have := sumTo_bd o l k
    have := cnt_bd o (nth l k)
    unfold sumTo
    omega
theorem sumTo_sum (o l : List Int) : ∀ k, k ≤ l.length → sumTo o l k = ((l.take k).map (cnt o)).sum
  | 0, _ => by simp [sumTo]
  | k + 1, hk => by
    rw [take_snocI l k (by omega), List.map_append, List.sum_append, ← sumTo_sum o l k (by omega)]
    simp [sumTo]
/-- a member's number is none that may be -/
def offR (o l : List Int) (k : Nat) : Bool := decide (cnt o (nth l k) ≠ 8 / (l.length : Int)) && decide (cnt o (nth l k) ≠ (8 + (l.length : Int) - 1) / (l.length : Int))
def balR (o l : List Int) : Bool :=
  if l.length = 0 then !(List.range 8).any (fun i => decide (0 < nth o i)) else !(List.range l.length).any (offR o l) && decide (sumTo o l l.length = 8)
theorem count_split {l : List Int} (hn : l.Nodup) : ∀ xs : List Int, (l.map (fun n => xs.count n)).sum + xs.countP (fun x => !l.contains x) = xs.length
  | [] => by rw [sum_nil_count]; rfl
  | x :: xs => by
    have ih := count_split hn xs
    rw [sum_count_cons, List.countP_cons, List.length_cons]
    by_cases hx : x ∈ l
    · have : l.contains x = true := by simpa using hx
      rw [count_one hn hx, this]
      simp only [Bool.not_true, Bool.false_eq_true, if_false]; omega
    · have : l.contains x = false := by simpa using hx
      rw [List.count_eq_zero.2 hx, this]
      simp only [Bool.not_false, if_true]; omega
theorem bal_same {o l : List Int} (ho : o.length = 8) (hl : l.Nodup) (hpos : ∀ n ∈ l, 0 < n) : balL o l = balR o l := by
  by_cases h0 : l = []
  · subst h0
    unfold balL balR
    have e : badB o [] = fun i => decide (0 < nth o i) := by
      funext i
      unfold badB
      by_cases h : 0 < nth o i
      · simp [h]
      · simp [h]
    rw [e]
    simp [lmTo]
  · have hlen : 0 < l.length := List.length_pos_iff.2 h0
    unfold balR
    rw [if_neg (by omega)]
    have hcm : (l.map (cnt o)).sum = (((l.map (fun n => o.count n)).sum : Nat) : Int) := by
      rw [← sum_cast]
      exact sum_congr _ _ l (fun n hn => cnt_count o ho n (hpos n hn))
    have hsum : sumTo o l l.length = (((l.map (fun n => o.count n)).sum : Nat) : Int) := by
      rw [sumTo_sum o l _ (Nat.le_refl _), List.take_of_length_le (Nat.le_refl _), hcm]
    have hsp := count_split hl o
    rw [ho] at hsp
    have m0 : (0 : Int) < (l.length : Int) := by omega
    have hdm : (l.length : Int) * (8 / (l.length : Int)) + 8 % (l.length : Int) = 8 := Int.mul_ediv_add_emod 8 _
    have hr0 : (0 : Int) ≤ 8 % (l.length : Int) := Int.emod_nonneg _ (by omega)
    have hr1 : (8 : Int) % (l.length : Int) < (l.length : Int) := Int.emod_lt_of_pos _ (by omega)
    have hceil : (8 + (l.length : Int) - 1) / (l.length : Int) = if 8 % (l.length : Int) = 0 then 8 / (l.length : Int) else 8 / (l.length : Int) + 1 := by
      have e8 : 8 + (l.length : Int) - 1 = (8 % (l.length : Int) + (l.length : Int) - 1) + (l.length : Int) * (8 / (l.length : Int)) := by omega
      rw [e8, Int.add_mul_ediv_left _ _ (by omega)]
      split
      · rename_i hz
        rw [hz, Int.ediv_eq_zero_of_lt (by omega) (by omega)]; omega
      · rename_i hz
        have e9 : 8 % (l.length : Int) + (l.length : Int) - 1 = (8 % (l.length : Int) - 1) + (l.length : Int) * 1 := by omega
        rw [e9, Int.add_mul_ediv_left _ _ (by omega), Int.ediv_eq_zero_of_lt (by omega) (by omega)]; omega
    rw [Bool.eq_iff_iff]
    constructor
    · intro hb
      have hin : ∀ p, p < 8 → nth o p ∈ l := by
        intro p hp
        refine Classical.byContradiction fun hno => ?_
        have : badB o l p = true := by
          unfold badB
          split
          · simpa using hno
          · exact decide_eq_true hlen
        rw [balL_bad o l p hp this] at hb
        cases hb
      obtain ⟨b1, b2⟩ := balanced_bd ho hl hpos hlen hin hb
      rw [sum_cast] at b2
      rw [Bool.and_eq_true]
      refine ⟨?_, decide_eq_true (by rw [hsum]; exact b2)⟩
      rw [Bool.not_eq_true', List.any_eq_false]
      intro k hk
      have hk' := List.mem_range.1 hk
      have hm := nth_mem l k hk'
      have hc := cnt_count o ho _ (hpos _ hm)
      have hb1 := b1 _ hm
      unfold offR
      rw [hceil, hc]
      by_cases e1 : (o.count (nth l k) : Int) = 8 / (l.length : Int)
      · simp [e1]
      · have e2 : (o.count (nth l k) : Int) = 8 / (l.length : Int) + 1 := by omega
        have hz : ¬ 8 % (l.length : Int) = 0 := by
          intro hz
          -- then all have just the share
          have s0 := sum_zero (fun n => (o.count n : Int) + -(8 / (l.length : Int))) l (fun n hn => by have := b1 n hn; omega) (by
            rw [sum_add, sum_const, sum_cast, b2]
            have : (l.length : Int) * -(8 / (l.length : Int)) = -((l.length : Int) * (8 / (l.length : Int))) := Int.mul_neg _ _
            rw [this]; omega) _ hm
          omega
        rw [if_neg hz]
        simp [e2]
    · intro hb
      rw [Bool.and_eq_true] at hb
      obtain ⟨h1, h2⟩ := hb
      rw [Bool.not_eq_true', List.any_eq_false] at h1
      have h2' := of_decide_eq_true h2
      rw [hsum] at h2'
      have hz : o.countP (fun x => !l.contains x) = 0 := by omega
      rw [List.countP_eq_zero] at hz
      refine balanced_of o l hpos (fun p hp => ?_) (8 / (l.length : Int)) (fun n hn => ?_)
      · have := hz _ (nth_mem o p (by omega))
        simpa using this
      · obtain ⟨k, hk, rfl⟩ := mem_nth hn
        have := h1 k (List.mem_range.2 hk)
        unfold offR at this
        rw [hceil] at this
        have h3 : cnt o (nth l k) = 8 / (l.length : Int) ∨ cnt o (nth l k) = (if 8 % (l.length : Int) = 0 then 8 / (l.length : Int) else 8 / (l.length : Int) + 1) := by
          by_cases e1 : cnt o (nth l k) = 8 / (l.length : Int)
          · exact .inl e1
          · by_cases e2 : cnt o (nth l k) = (if 8 % (l.length : Int) = 0 then 8 / (l.length : Int) else 8 / (l.length : Int) + 1)
            · exact .inr e2
            · exact absurd (by simp [e1, e2]) this
        rcases h3 with h3 | h3
        · omega
        · split at h3 <;> omega
end Go.Proofs.Ytalbdcpbdedfiaa
