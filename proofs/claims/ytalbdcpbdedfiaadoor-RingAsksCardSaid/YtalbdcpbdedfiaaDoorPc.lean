/- Plain law: what ring.Claim's two passes come to, in numbers and lists alone. -/
import Derived.Test.YtalbdcpbdedfiaaDoorRwg
namespace Go.Proofs.YtalbdcpbdedfiaaDoor

/-! ### counting -/
theorem nth_cons_zero (x : Int) (xs : List Int) : nth (x :: xs) 0 = x := rfl
theorem nth_cons_succ (x : Int) (xs : List Int) (k : Nat) : nth (x :: xs) (k + 1) = nth xs k := by simp [nth]
theorem count_le (n : Int) : ∀ (xs ys : List Int), xs.length = ys.length → (∀ p, p < xs.length → nth xs p = n → nth ys p = n) → xs.count n ≤ ys.count n
  | [], [], _, _ => Nat.le_refl _
  | [], _ :: _, h, _ => by simp at h
  | _ :: _, [], h, _ => by simp at h
  | x :: xs, y :: ys, h, hp => by
    have ih := count_le n xs ys (by simpa using h) (fun p hlt he => by
      have := hp (p + 1) (by simpa using hlt) (by rw [nth_cons_succ]; exact he)
      rwa [nth_cons_succ] at this)
    have h0 := hp 0 (by simp)
    rw [nth_cons_zero, nth_cons_zero] at h0
    rw [List.count_cons, List.count_cons]
    by_cases hx : x = n
    · rw [h0 hx, hx]; omega
    · simp only [beq_iff_eq, hx, if_false]; split <;> omega
theorem count_lt (n : Int) : ∀ (xs ys : List Int), xs.length = ys.length → (∀ p, p < xs.length → nth xs p = n → nth ys p = n) → ∀ q, q < xs.length → nth ys q = n → nth xs q ≠ n → xs.count n < ys.count n
  | [], _, _, _, q, hq, _, _ => by simp at hq
  | _ :: _, [], h, _, _, _, _, _ => by simp at h
  | x :: xs, y :: ys, h, hp, q, hq, h1, h2 => by
    have hp' : ∀ p, p < xs.length → nth xs p = n → nth ys p = n := fun p hlt he => by
      have := hp (p + 1) (by simpa using hlt) (by rw [nth_cons_succ]; exact he)
      rwa [nth_cons_succ] at this
    rw [List.count_cons, List.count_cons]
    cases q with
    | zero =>
      rw [nth_cons_zero] at h1 h2
      have ih := count_le n xs ys (by simpa using h) hp'
      simp only [beq_iff_eq, h1, h2, if_false, if_true]
      omega
    | succ q =>
      rw [nth_cons_succ] at h1 h2
      have ih := count_lt n xs ys (by simpa using h) hp' q (by simpa using hq) h1 h2
      have h0 := hp 0 (by simp)
      rw [nth_cons_zero, nth_cons_zero] at h0
      by_cases hx : x = n
      · rw [h0 hx, hx]; omega
      · simp only [beq_iff_eq, hx, if_false]; split <;> omega
theorem count_eq (n : Int) (xs ys : List Int) (h : xs.length = ys.length) (hp : ∀ p, p < xs.length → (nth xs p = n ↔ nth ys p = n)) : xs.count n = ys.count n :=
  Nat.le_antisymm (count_le n xs ys h (fun p hl => (hp p hl).1)) (count_le n ys xs h.symm (fun p hl => (hp p (by omega)).2))
theorem nth_set_same (xs : List Int) (p : Nat) (x : Int) (h : p < xs.length) : nth (xs.set p x) p = x := by simp [nth, List.getD_eq_getElem?_getD, h]
theorem nth_set_other (xs : List Int) (p q : Nat) (x : Int) (h : q ≠ p) : nth (xs.set p x) q = nth xs q := by
  simp [nth, List.getD_eq_getElem?_getD, List.getElem?_set_ne (Ne.symm h)]
theorem nth_get (xs : List Int) (p : Nat) (h : p < xs.length) : nth xs p = xs[p] := by simp [nth, List.getD_eq_getElem?_getD, h]
theorem count_set_at (xs : List Int) (p : Nat) (x n : Int) (h : p < xs.length) (h0 : nth xs p = 0) (hn : n ≠ 0) : (xs.set p x).count n = xs.count n + (if x = n then 1 else 0) := by
  have e : xs[p] = 0 := by rw [← nth_get xs p h]; exact h0
  rw [List.count_set h, e]
  have : (0 == n) = false := by simpa using fun h => hn h.symm
  simp [this]
theorem sum_count_cons (x : Int) (xs : List Int) : ∀ l : List Int, (l.map (fun n => (x :: xs).count n)).sum = (l.map (fun n => xs.count n)).sum + l.count x
  | [] => rfl
  | y :: l => by
    have ih := sum_count_cons x xs l
    rw [List.map_cons, List.sum_cons, ih, List.map_cons, List.sum_cons, List.count_cons, List.count_cons]
    by_cases h : x = y
    · subst h; simp; omega
    · have h' : ¬ y = x := fun e => h e.symm
      simp [h, h']; omega
theorem sum_nil_count : ∀ l : List Int, (l.map (fun n => ([] : List Int).count n)).sum = 0
  | [] => rfl
  | y :: l => by rw [List.map_cons, List.sum_cons, sum_nil_count l]; rfl
theorem count_one : ∀ {l : List Int} {x : Int}, l.Nodup → x ∈ l → l.count x = 1
  | [], _, _, h => by simp at h
  | y :: l, x, hn, h => by
    rw [List.nodup_cons] at hn
    rw [List.count_cons]
    by_cases e : y = x
    · subst e
      have : l.count y = 0 := List.count_eq_zero.2 hn.1
      simp [this]
    · have hx : x ∈ l := by
        rcases List.mem_cons.1 h with rfl | h
        · exact absurd rfl e
        · exact h
      simp [e, count_one hn.2 hx]
theorem sum_count {l : List Int} (hn : l.Nodup) (h0 : 0 ∉ l) : ∀ xs : List Int, (∀ x ∈ xs, x = 0 ∨ x ∈ l) → (l.map (fun n => xs.count n)).sum + xs.count 0 = xs.length
  | [], _ => by
    rw [sum_nil_count]; rfl
  | x :: xs, h => by
    have ih := sum_count hn h0 xs (fun y hy => h y (List.mem_cons_of_mem _ hy))
    rw [sum_count_cons, List.count_cons, List.length_cons]
    rcases h x (List.mem_cons_self ..) with rfl | hx
    · have : l.count 0 = 0 := List.count_eq_zero.2 h0
      simp; omega
    · have h1 : l.count x = 1 := count_one hn hx
      have : ¬ x = 0 := fun e => h0 (e ▸ hx)
      simp [h1, this]; omega

/-! ### the invariant of a division on its way -/
structure Inv (l : List Int) (f0 : Int → Int) (s : (Int → Int) × List Int) : Prop where
  len : s.2.length = 8
  nonneg : ∀ n ∈ l, 0 ≤ s.1 n
  cons : ∀ n ∈ l, s.1 n + (s.2.count n : Int) = f0 n
  out : ∀ n, n ∉ l → s.1 n ≤ 0
  mem : ∀ x ∈ s.2, x = 0 ∨ x ∈ l
theorem Inv.take {l : List Int} {f0 : Int → Int} {s : (Int → Int) × List Int} (h : Inv l f0 s) (h0 : 0 ∉ l) (p : Nat) (n : Int) (hp : p < 8) (hz : nth s.2 p = 0) (hf : 0 < s.1 n) : Inv l f0 (takeS s p n) ∧ n ∈ l := by
  have hl : n ∈ l := by
    by_cases e : n ∈ l
    · exact e
    · have := h.out n e; omega
  rw [takeS_yes s p n hf]
  have hp8 : p < s.2.length := by rw [h.len]; exact hp
  have hne : ∀ x ∈ l, x ≠ 0 := fun x hx e => h0 (e ▸ hx)
  refine ⟨⟨by simpa using h.len, fun x hx => ?_, fun x hx => ?_, fun x hx => ?_, fun x hx => ?_⟩, hl⟩
  · show 0 ≤ upd _ _ _ x
    unfold upd
    split
    · omega
    · exact h.nonneg x hx
  · show upd s.1 n (s.1 n - 1) x + ((s.2.set p n).count x : Int) = f0 x
    have hc := h.cons x hx
    rw [count_set_at s.2 p n x hp8 hz (hne x hx)]
    unfold upd
    by_cases e : x = n
    · subst e; simp; omega
    · have e' : ¬ n = x := fun h => e h.symm
      simp [e, e']; omega
  · show upd s.1 n (s.1 n - 1) x ≤ 0
    unfold upd
    split
    · rename_i e; exact absurd (e ▸ hl) hx
    · exact h.out x hx
  · rcases List.mem_or_eq_of_mem_set hx with hx | rfl
    · exact h.mem x hx
    · exact .inr hl
/-- what is left is what is not assigned yet -/
theorem Inv.left {l : List Int} {f0 : Int → Int} {s : (Int → Int) × List Int} (h : Inv l f0 s) (hn : l.Nodup) (h0 : 0 ∉ l) (h8 : (l.map f0).sum = 8) : (l.map s.1).sum = (s.2.count 0 : Int) := by
  have h1 := sum_count hn h0 s.2 h.mem
  rw [h.len] at h1
  have h2 : ∀ m : List Int, (∀ x ∈ m, x ∈ l) → (m.map s.1).sum + ((m.map (fun n => s.2.count n)).sum : Int) = (m.map f0).sum := by
    intro m hm
    induction m with
    | nil => simp
    | cons x m ih =>
      have ih' := ih (fun y hy => hm y (List.mem_cons_of_mem _ hy))
      have hc := h.cons x (hm x (List.mem_cons_self ..))
      simp only [List.map_cons, List.sum_cons]
      omega
  have h3 := h2 l (fun _ h => h)
  rw [h8] at h3
  omega
theorem sum_pos (f : Int → Int) : ∀ l : List Int, 0 < (l.map f).sum → ∃ n ∈ l, 0 < f n
  | [], h => by simp at h
  | x :: l, h => by
    by_cases e : 0 < f x
    · exact ⟨x, List.mem_cons_self .., e⟩
    · simp only [List.map_cons, List.sum_cons] at h
      obtain ⟨n, hn, hp⟩ := sum_pos f l (by omega)
      exact ⟨n, List.mem_cons_of_mem _ hn, hp⟩
theorem sum_zero (f : Int → Int) : ∀ l : List Int, (∀ n ∈ l, 0 ≤ f n) → (l.map f).sum = 0 → ∀ n ∈ l, f n = 0
  | [], _, _, n, hn => by simp at hn
  | x :: l, h, hs, n, hn => by
    have hx := h x (List.mem_cons_self ..)
    have hl : 0 ≤ (l.map f).sum := by
      have : ∀ m : List Int, (∀ n ∈ m, 0 ≤ f n) → 0 ≤ (m.map f).sum := fun m hm => by
        induction m with
        | nil => simp
        | cons y m ih =>
          have := hm y (List.mem_cons_self ..)
          have := ih (fun z hz => hm z (List.mem_cons_of_mem _ hz))
          simp only [List.map_cons, List.sum_cons]; omega
      exact this l (fun z hz => h z (List.mem_cons_of_mem _ hz))
    simp only [List.map_cons, List.sum_cons] at hs
    rcases List.mem_cons.1 hn with rfl | hn
    · omega
    · exact sum_zero f l (fun z hz => h z (List.mem_cons_of_mem _ hz)) (by omega) n hn

/-! ### the first pass -/
structure P1 (o l : List Int) (f0 : Int → Int) (k : Nat) (r : ((Int → Int) × List Int) × List Int) : Prop where
  inv : Inv l f0 r.1
  kept : ∀ p, p < 8 → nth r.1.2 p ≠ 0 → nth r.1.2 p = nth o p
  ahead : ∀ p, k ≤ p → p < 8 → nth r.1.2 p = 0
  zero : ∀ p, p < k → nth r.1.2 p = 0 → (p : Int) ∈ r.2 ∧ r.1.1 (nth o p) ≤ 0
  ops : ∀ x ∈ r.2, ∃ p : Nat, x = (p : Int) ∧ p < k ∧ nth r.1.2 p = 0
  nodup : r.2.Nodup
theorem nth_zeros (p : Nat) : nth zeros8 p = 0 := by
  match p with
  | 0 | 1 | 2 | 3 | 4 | 5 | 6 | 7 => rfl
  | p + 8 => simp [nth, zeros8]
theorem keep_inv (o l : List Int) (f0 : Int → Int) (h0 : 0 ∉ l) (hf : ∀ n, n ∉ l → f0 n ≤ 0) (hnn : ∀ n ∈ l, 0 ≤ f0 n) : ∀ k, k ≤ 8 → P1 o l f0 k (keepTo o f0 k)
  | 0, _ => by
    have hc : ∀ n : Int, n ≠ 0 → zeros8.count n = 0 := fun n hn => List.count_eq_zero.2 (by simp [zeros8]; omega)
    refine ⟨⟨rfl, hnn, fun n hn => ?_, hf, fun x hx => ?_⟩, fun p _ h => absurd (nth_zeros p) h, fun p _ _ => nth_zeros p, fun p h => absurd h (Nat.not_lt_zero _), fun x hx => ?_, List.nodup_nil⟩
    · show f0 n + ((zeros8.count n : Nat) : Int) = f0 n
      rw [hc n (fun e => h0 (e ▸ hn))]; simp
    · have : x ∈ zeros8 := hx
      simp [zeros8] at this
      exact .inl this
    · have : x ∈ ([] : List Int) := hx
      simp at this
  | k + 1, hk => by
    have ih := keep_inv o l f0 h0 hf hnn k (by omega)
    by_cases h : 0 < (keepTo o f0 k).1.1 (nth o k)
    · rw [keepTo_yes o f0 k h]
      obtain ⟨hI, hl⟩ := ih.inv.take h0 k (nth o k) (by omega) (ih.ahead k (Nat.le_refl _) (by omega)) h
      have hne : nth o k ≠ 0 := fun e => h0 (e ▸ hl)
      have hlen : k < (keepTo o f0 k).1.2.length := by rw [ih.inv.len]; omega
      have e2 : (takeS (keepTo o f0 k).1 k (nth o k)).2 = (keepTo o f0 k).1.2.set k (nth o k) := by rw [takeS_yes _ _ _ h]
      have e1 : (takeS (keepTo o f0 k).1 k (nth o k)).1 = upd (keepTo o f0 k).1.1 (nth o k) ((keepTo o f0 k).1.1 (nth o k) - 1) := by rw [takeS_yes _ _ _ h]
      refine ⟨hI, fun p hp hz => ?_, fun p hp hp8 => ?_, fun p hp hz => ?_, fun x hx => ?_, ih.nodup⟩
      · simp only [e2] at hz ⊢
        by_cases e : p = k
        · subst e; exact nth_set_same _ _ _ hlen
        · rw [nth_set_other _ _ _ _ e] at hz ⊢; exact ih.kept p hp hz
      · simp only [e2]
        rw [nth_set_other _ _ _ _ (by omega)]; exact ih.ahead p (by omega) hp8
      · simp only [e2] at hz
        have e : p ≠ k := by
          intro e; subst e
          rw [nth_set_same _ _ _ hlen] at hz; exact hne hz
        rw [nth_set_other _ _ _ _ e] at hz
        obtain ⟨a, b⟩ := ih.zero p (by omega) hz
        refine ⟨a, ?_⟩
        simp only [e1, upd]
        split
        · rename_i e'; rw [e'] at b; omega
        · exact b
      · obtain ⟨p, rfl, hp, hz⟩ := ih.ops x hx
        exact ⟨p, rfl, by omega, by simp only [e2]; rw [nth_set_other _ _ _ _ (by omega)]; exact hz⟩
    · rw [keepTo_no o f0 k h]
      refine ⟨ih.inv, ih.kept, fun p hp hp8 => ih.ahead p (by omega) hp8, fun p hp hz => ?_, fun x hx => ?_, ?_⟩
      · by_cases e : p = k
        · subst e; exact ⟨by simp, Int.not_lt.1 h⟩
        · obtain ⟨a, b⟩ := ih.zero p (by omega) hz
          exact ⟨List.mem_append_left _ a, b⟩
      · rcases List.mem_append.1 hx with hx | hx
        · obtain ⟨p, e, hp, hz⟩ := ih.ops x hx
          exact ⟨p, e, by omega, hz⟩
        · simp at hx
          exact ⟨k, hx, by omega, ih.ahead k (Nat.le_refl _) (by omega)⟩
      · rw [List.nodup_append]
        refine ⟨ih.nodup, by simp, fun x hx y hy e => ?_⟩
        obtain ⟨p, e', hp, _⟩ := ih.ops x hx
        simp at hy
        omega

/-! ### the second pass -/
structure P2 (l : List Int) (f0 : Int → Int) (s8 : (Int → Int) × List Int) (opens : List Int) (k : Nat) (s : (Int → Int) × List Int) : Prop where
  inv : Inv l f0 s
  same : ∀ p, p < 8 → nth s8.2 p ≠ 0 → nth s.2 p = nth s8.2 p
  le : ∀ n, s.1 n ≤ s8.1 n
  filled : ∀ p, p < 8 → nth s8.2 p = 0 → nth s.2 p ≠ 0 → 0 < s8.1 (nth s.2 p)
  zero : ∀ p, p < 8 → nth s.2 p = 0 → ∃ i, k ≤ i ∧ i < opens.length ∧ nth opens i = (p : Int)
  todo : ∀ i, k ≤ i → i < opens.length → ∃ p : Nat, nth opens i = (p : Int) ∧ p < 8 ∧ nth s.2 p = 0
theorem nodup_nth {xs : List Int} (h : xs.Nodup) {i j : Nat} (hi : i < xs.length) (hj : j < xs.length) (hij : i ≠ j) : nth xs i ≠ nth xs j := by
  rw [nth_get xs i hi, nth_get xs j hj]
  have hp := List.pairwise_iff_getElem.1 h
  rcases Nat.lt_or_gt_of_ne hij with hlt | hlt
  · exact hp i j hi hj hlt
  · exact fun e => hp j i hj hi hlt e.symm
theorem mem_nth {xs : List Int} {x : Int} (h : x ∈ xs) : ∃ i, i < xs.length ∧ nth xs i = x := by
  obtain ⟨i, hi, rfl⟩ := List.getElem_of_mem h
  exact ⟨i, hi, nth_get xs i hi⟩
theorem fill_inv (l : List Int) (f0 : Int → Int) (s8 : (Int → Int) × List Int) (opens : List Int) (h0 : 0 ∉ l) (hl : l.Nodup) (h8 : (l.map f0).sum = 8) (hop : opens.Nodup) (hI : Inv l f0 s8)
    (hz : ∀ p, p < 8 → nth s8.2 p = 0 → (p : Int) ∈ opens) (ht : ∀ x ∈ opens, ∃ p : Nat, x = (p : Int) ∧ p < 8 ∧ nth s8.2 p = 0) : ∀ k, k ≤ opens.length → P2 l f0 s8 opens k (fillTo l s8 opens k)
  | 0, _ => ⟨hI, fun _ _ _ => rfl, fun _ => Int.le_refl _, fun _ _ h h' => absurd h h', fun p hp h => by obtain ⟨i, hi, e⟩ := mem_nth (hz p hp h); exact ⟨i, Nat.zero_le _, hi, e⟩, fun i _ hi => ht _ (nth_mem opens i hi)⟩
  | k + 1, hk => by
    have ih := fill_inv l f0 s8 opens h0 hl h8 hop hI hz ht k (by omega)
    obtain ⟨p, hp, hp8, hpz⟩ := ih.todo k (Nat.le_refl _) (by omega)
    have hlen : p < (fillTo l s8 opens k).2.length := by rw [ih.inv.len]; exact hp8
    have hsum := ih.inv.left hl h0 h8
    have hc : 0 < (fillTo l s8 opens k).2.count 0 := by
      rw [List.count_pos_iff]
      have := nth_mem (fillTo l s8 opens k).2 p hlen
      rwa [hpz] at this
    obtain ⟨n1, hn1, hf1⟩ := sum_pos (fillTo l s8 opens k).1 l (by omega)
    have hfind : ∃ n, l.find? (fun n => decide (0 < (fillTo l s8 opens k).1 n)) = some n := by
      cases e : l.find? (fun n => decide (0 < (fillTo l s8 opens k).1 n)) with
      | some n => exact ⟨n, rfl⟩
      | none => rw [List.find?_eq_none] at e; have := e n1 hn1; simp at this; omega
    obtain ⟨n, hn⟩ := hfind
    have hfn : 0 < (fillTo l s8 opens k).1 n := by simpa using List.find?_some hn
    obtain ⟨hI', hnl⟩ := ih.inv.take h0 p n hp8 hpz hfn
    have hne : n ≠ 0 := fun e => h0 (e ▸ hnl)
    have e : fillTo l s8 opens (k + 1) = takeS (fillTo l s8 opens k) p n := by
      show fillOne l (fillTo l s8 opens k) (nth opens k).toNat = _
      rw [hp, Int.toNat_natCast, fillOne, hn]
    rw [e]
    have e2 : (takeS (fillTo l s8 opens k) p n).2 = (fillTo l s8 opens k).2.set p n := by rw [takeS_yes _ _ _ hfn]
    have e1 : (takeS (fillTo l s8 opens k) p n).1 = upd (fillTo l s8 opens k).1 n ((fillTo l s8 opens k).1 n - 1) := by rw [takeS_yes _ _ _ hfn]
    refine ⟨hI', fun q hq hqz => ?_, fun x => ?_, fun q hq hqz hqn => ?_, fun q hq hqz => ?_, fun i hi hil => ?_⟩
    · rw [e2]
      have hqp : q ≠ p := by
        intro e'; subst e'
        rw [ih.same q hq hqz] at hpz; exact hqz hpz
      rw [nth_set_other _ _ _ _ hqp]; exact ih.same q hq hqz
    · rw [e1]
      have := ih.le x
      have := ih.le n
      unfold upd
      split
      · rename_i e'; subst e'; omega
      · omega
    · rw [e2] at hqn ⊢
      by_cases e' : q = p
      · subst e'
        rw [nth_set_same _ _ _ hlen]
        have := ih.le n; omega
      · rw [nth_set_other _ _ _ _ e'] at hqn ⊢
        exact ih.filled q hq hqz hqn
    · rw [e2] at hqz
      have hqp : q ≠ p := by
        intro e'; subst e'
        rw [nth_set_same _ _ _ hlen] at hqz; exact hne hqz
      rw [nth_set_other _ _ _ _ hqp] at hqz
      obtain ⟨i, hi, hil, he⟩ := ih.zero q hq hqz
      refine ⟨i, ?_, hil, he⟩
      have : i ≠ k := by
        intro e'; subst e'
        rw [hp] at he; omega
      omega
    · obtain ⟨q, hq, hq8, hqz⟩ := ih.todo i (by omega) hil
      refine ⟨q, hq, hq8, ?_⟩
      have hqp : q ≠ p := by
        intro e'; subst e'
        exact nodup_nth hop hil (show k < opens.length by omega) (by omega) (hq.trans hp.symm)
      rw [e2, nth_set_other _ _ _ _ hqp]; exact hqz

/-! ### quotas -/
theorem quota_sum (m : Nat) (hm : 0 < m) : ((List.range m).map (quota m)).sum = 8 := by
  have hr : 0 ≤ (8 : Int) % (m : Int) ∧ (8 : Int) % (m : Int) < (m : Int) := ⟨Int.emod_nonneg _ (by omega), Int.emod_lt_of_pos _ (by omega)⟩
  have key : ∀ t : Nat, ((List.range t).map (quota m)).sum = (t : Int) * ((8 : Int) / (m : Int)) + min (t : Int) ((8 : Int) % (m : Int)) := by
    intro t
    induction t with
    | zero => simp; omega
    | succ t ih =>
      rw [List.range_succ, List.map_append, List.sum_append, ih]
      simp only [List.map_cons, List.map_nil, List.sum_cons, List.sum_nil, quota]
      have e : ((t + 1 : Nat) : Int) * ((8 : Int) / (m : Int)) = (t : Int) * ((8 : Int) / (m : Int)) + (8 : Int) / (m : Int) := by
        rw [Int.natCast_add, Int.add_mul]; simp
      rw [e]
      split <;> omega
  rw [key m, Int.min_eq_right (by omega)]
  exact Int.mul_ediv_add_emod 8 m
theorem leftTo_at (ys : List Int) (hn : ys.Nodup) : ∀ k, k ≤ ys.length → ∀ i, i < k → leftTo ys k (nth ys i) = quota ys.length i
  | 0, _, i, hi => absurd hi (Nat.not_lt_zero _)
  | k + 1, hk, i, hi => by
    show upd (leftTo ys k) (nth ys k) (quota ys.length k) (nth ys i) = _
    by_cases e : i = k
    · subst e; exact upd_same _ _ _
    · rw [upd_other _ _ _ _ (nodup_nth hn (by omega) (by omega) e)]
      exact leftTo_at ys hn k (by omega) i (by omega)
theorem leftTo_out (ys : List Int) (n : Int) (h : n ∉ ys) : ∀ k, k ≤ ys.length → leftTo ys k n = 0
  | 0, _ => rfl
  | k + 1, hk => by
    show upd (leftTo ys k) (nth ys k) (quota ys.length k) n = 0
    rw [upd_other _ _ _ _ (fun e => h (by rw [e]; exact nth_mem ys k (by omega)))]
    exact leftTo_out ys n h k (by omega)
theorem quota_nonneg (m k : Nat) (hm : 0 < m) : 0 ≤ quota m k := by
  have := div_bd m hm
  unfold quota
  split <;> omega
theorem map_eq_range (ys : List Int) (f : Int → Int) (g : Nat → Int) (h : ∀ i, i < ys.length → f (nth ys i) = g i) : ys.map f = (List.range ys.length).map g := by
  apply List.ext_getElem
  · simp
  · intro i h1 h2
    simp only [List.length_map] at h1
    simp only [List.getElem_map, List.getElem_range]
    rw [← nth_get ys i h1]
    exact h i h1
theorem sum_perm {xs ys : List Int} (h : xs.Perm ys) : xs.sum = ys.sum := by
  induction h with
  | nil => rfl
  | cons x _ ih => simp [ih]
  | swap x y l => simp; omega
  | trans _ _ a b => exact a.trans b

/-- what a division comes to -/
structure Facts (o l : List Int) (f0 : Int → Int) (out : List Int) : Prop where
  len : out.length = 8
  mem : ∀ p, p < 8 → nth out p ∈ l
  cnt : ∀ n ∈ l, (out.count n : Int) = f0 n
  moved : ∀ p, p < 8 → nth out p ≠ nth o p → (o.count (nth out p) : Int) < f0 (nth out p)
  stay : ∀ p, p < 8 → nth o p ∈ l → (o.count (nth o p) : Int) ≤ f0 (nth o p) → nth out p = nth o p
  kept : ∃ kp : List Int, kp.length = 8 ∧ (∀ p, p < 8 → nth kp p ≠ 0 → nth kp p = nth o p ∧ nth kp p = nth out p) ∧ ∀ n ∈ l, min (f0 n) (o.count n : Int) ≤ (kp.count n : Int)
theorem facts (o l : List Int) (f0 : Int → Int) (ho : o.length = 8) (h0 : 0 ∉ l) (hl : l.Nodup) (hf : ∀ n, n ∉ l → f0 n ≤ 0) (hnn : ∀ n ∈ l, 0 ≤ f0 n) (h8 : (l.map f0).sum = 8) :
    Facts o l f0 (fillTo l (keepTo o f0 8).1 (keepTo o f0 8).2 (keepTo o f0 8).2.length).2 := by
  have h1 := keep_inv o l f0 h0 hf hnn 8 (Nat.le_refl _)
  generalize keepTo o f0 8 = r at *
  have h2 := fill_inv l f0 r.1 r.2 h0 hl h8 h1.nodup h1.inv (fun p hp hz => (h1.zero p hp hz).1) (fun x hx => h1.ops x hx) r.2.length (Nat.le_refl _)
  generalize fillTo l r.1 r.2 r.2.length = s at *
  have hnz : ∀ p, p < 8 → nth s.2 p ≠ 0 := fun p hp hz => by
    obtain ⟨i, hi, hil, _⟩ := h2.zero p hp hz
    omega
  have hc0 : s.2.count 0 = 0 := by
    rw [List.count_eq_zero]
    intro h
    obtain ⟨i, hi, e⟩ := mem_nth h
    exact hnz i (by rw [← h2.inv.len]; exact hi) e
  have hs0 := sum_zero s.1 l h2.inv.nonneg (by rw [h2.inv.left hl h0 h8, hc0]; rfl)
  have hall : ∀ n, 0 < r.1.1 n → n ≠ 0 → o.count n ≤ r.1.2.count n := fun n hn hn0 => by
    refine count_le n o r.1.2 (by rw [ho, h1.inv.len]) (fun p hp he => ?_)
    have hp8 : p < 8 := by omega
    by_cases hz : nth r.1.2 p = 0
    · have := (h1.zero p hp8 hz).2
      rw [he] at this; omega
    · rw [h1.kept p hp8 hz]; exact he
  have hne : ∀ n ∈ l, n ≠ 0 := fun n hn e => h0 (e ▸ hn)
  have hmem : ∀ p, p < 8 → nth s.2 p ∈ l := fun p hp => by
    rcases h2.inv.mem (nth s.2 p) (nth_mem s.2 p (by rw [h2.inv.len]; exact hp)) with h | h
    · exact absurd h (hnz p hp)
    · exact h
  refine ⟨h2.inv.len, hmem, fun n hn => ?_, fun p hp hd => ?_, fun p hp hn hle => ?_, r.1.2, h1.inv.len, fun p hp hz => ⟨h1.kept p hp hz, (h2.same p hp hz).symm⟩, fun n hn => ?_⟩
  · have := h2.inv.cons n hn
    have := hs0 n hn
    omega
  · have hz : nth r.1.2 p = 0 := by
      by_cases hz : nth r.1.2 p = 0
      · exact hz
      · exact absurd ((h2.same p hp hz).trans (h1.kept p hp hz)) hd
    have hpos := h2.filled p hp hz (hnz p hp)
    have hca := hall _ hpos (hnz p hp)
    have := h1.inv.cons _ (hmem p hp)
    omega
  · by_cases hz : nth r.1.2 p = 0
    · exfalso
      have h3 := (h1.zero p hp hz).2
      have h4 := h1.inv.nonneg _ hn
      have h5 := h1.inv.cons _ hn
      have h6 := count_lt (nth o p) r.1.2 o (by rw [ho, h1.inv.len]) (fun q hq he => by
        have hq8 : q < 8 := by rw [← h1.inv.len]; exact hq
        rw [← h1.kept q hq8 (by rw [he]; exact hne _ hn)]; exact he) p (by rw [h1.inv.len]; exact hp) rfl (by rw [hz]; exact fun e => hne _ hn e.symm)
      omega
    · rw [h2.same p hp hz, h1.kept p hp hz]
  · have h5 := h1.inv.cons n hn
    have h4 := h1.inv.nonneg n hn
    by_cases hpos : 0 < r.1.1 n
    · have := hall n hpos (hne n hn); omega
    · omega
/-- what Claim comes to: f0: the quotas -/
theorem claim_facts (o l ys : List Int) (ho : o.length = 8) (h0 : 0 ∉ l) (hl : l.Nodup) (hne : l ≠ []) (hp : ys.Perm l) : Facts o l (leftTo ys ys.length) (claimW o l ys) := by
  have hyn : ys.Nodup := hp.nodup_iff.2 hl
  have hm : 0 < ys.length := by rw [hp.length_eq]; exact List.length_pos_iff.2 hne
  refine facts o l (leftTo ys ys.length) ho h0 hl (fun n hn => ?_) (fun n hn => ?_) ?_
  · rw [leftTo_out ys n (fun h => hn (hp.mem_iff.1 h)) _ (Nat.le_refl _)]; exact Int.le_refl _
  · obtain ⟨i, hi, rfl⟩ := mem_nth (hp.mem_iff.2 hn)
    rw [leftTo_at ys hyn _ (Nat.le_refl _) i hi]
    exact quota_nonneg _ _ hm
  · rw [← sum_perm (hp.map (leftTo ys ys.length)), map_eq_range ys _ (quota ys.length) (fun i hi => leftTo_at ys hyn _ (Nat.le_refl _) i hi)]
    exact quota_sum _ hm
end Go.Proofs.YtalbdcpbdedfiaaDoor
