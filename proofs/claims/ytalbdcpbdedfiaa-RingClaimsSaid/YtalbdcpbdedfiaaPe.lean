/- Plain law: a claim made again changes nothing, and no balanced division keeps more. -/
import Derived.Test.YtalbdcpbdedfiaaPt
namespace Go.Proofs.Ytalbdcpbdedfiaa
open Go.RowKit

theorem ext8 {a b : List Int} (ha : a.length = 8) (hb : b.length = 8) (h : ∀ p, p < 8 → nth a p = nth b p) : a = b := by
  refine List.ext_getElem (by rw [ha, hb]) (fun i h1 h2 => ?_)
  rw [← nth_get a i h1, ← nth_get b i h2]
  exact h i (by omega)
theorem quota_cases {m i j : Nat} (h : quota m j < quota m i) : (i : Int) < 8 % (m : Int) ∧ ¬ (j : Int) < 8 % (m : Int) ∧ quota m i = 8 / (m : Int) + 1 := by
  unfold quota at *
  split at h <;> split at h <;> first | (exact absurd h (Int.lt_irrefl _)) | (exact absurd h (by omega)) | (refine ⟨by assumption, by assumption, ?_⟩; rw [if_pos (by assumption)])
/-- claimed again: nothing changes -/
theorem claim_again {o l ys c ys' c' : List Int} (hl : l.Nodup) (hpos : ∀ n ∈ l, 0 < n) (hp : ys.Perm l) (fc : Facts o l (leftTo ys ys.length) c)
    (hS : Sorted c ys' l) (fc' : Facts c l (leftTo ys' ys'.length) c') : c' = c := by
  refine ext8 fc'.len fc.len (fun p hp8 => fc'.stay p hp8 (fc.mem p hp8) ?_)
  have hin := fc.mem p hp8
  generalize nth c p = n at hin
  have hyn : ys.Nodup := hp.nodup_iff.2 hl
  have hyn' : ys'.Nodup := hS.1.nodup_iff.2 hl
  have lenY : ys.length = l.length := hp.length_eq
  have lenY' : ys'.length = l.length := hS.1.length_eq
  obtain ⟨i, hi, e⟩ := mem_nth (hp.mem_iff.2 hin)
  obtain ⟨j, hj, e'⟩ := mem_nth (hS.1.mem_iff.2 hin)
  have qc : ∀ k, k < ys.length → (c.count (nth ys k) : Int) = quota l.length k := fun k hk => by
    rw [fc.cnt _ (hp.mem_iff.1 (nth_mem ys k hk)), leftTo_at ys hyn _ (Nat.le_refl _) k hk, lenY]
  have qn : (c.count n : Int) = quota l.length i := by rw [← e]; exact qc i hi
  have qn' : leftTo ys' ys'.length n = quota l.length j := by rw [← e', leftTo_at ys' hyn' _ (Nat.le_refl _) j hj, lenY']
  rw [qn, qn']
  refine Classical.byContradiction fun hno => ?_
  obtain ⟨g1, g2, g3⟩ := quota_cases (m := l.length) (i := i) (j := j) (by omega)
  have hr0 : (0 : Int) ≤ 8 % (l.length : Int) := Int.le_trans (Int.natCast_nonneg _) (Int.le_of_lt g1)
  have := rank (ys := ys) (ys' := ys') (hp.trans hS.1.symm) (fun x => decide (8 / (l.length : Int) + 1 ≤ cnt c x)) (i := j) (r := (8 % (l.length : Int)).toNat) hj
    (fun t ht => by
      have h3 := sorted_desc hS ht hj
      rw [e', cnt_count c fc.len _ (hpos _ hin), qn, g3] at h3
      rw [decide_eq_true_iff]
      exact h3)
    (fun t h1 h2 => by
      rw [decide_eq_false_iff_not, cnt_count c fc.len _ (hpos _ (hp.mem_iff.1 (nth_mem ys t h2))), qc t h2, quota, if_neg (by omega)]
      omega)
  omega

/-! ### sums -/
theorem sum_le (f g : Int → Int) : ∀ l : List Int, (∀ n ∈ l, f n ≤ g n) → (l.map f).sum ≤ (l.map g).sum
  | [], _ => Int.le_refl _
  | x :: l, h => by
    have h1 := h x (List.mem_cons_self ..)
    have h2 := sum_le f g l (fun n hn => h n (List.mem_cons_of_mem _ hn))
    simp only [List.map_cons, List.sum_cons]; omega
theorem sum_congr (f g : Int → Int) (l : List Int) (h : ∀ n ∈ l, f n = g n) : (l.map f).sum = (l.map g).sum := by
  rw [List.map_congr_left h]
theorem sum_add (f g : Int → Int) : ∀ l : List Int, (l.map (fun n => f n + g n)).sum = (l.map f).sum + (l.map g).sum
  | [] => rfl
  | x :: l => by
    have h := sum_add f g l
    simp only [List.map_cons, List.sum_cons]; omega
theorem sum_cast (f : Int → Nat) : ∀ l : List Int, (l.map (fun n => (f n : Int))).sum = (((l.map f).sum : Nat) : Int)
  | [] => rfl
  | x :: l => by
    have h := sum_cast f l
    simp only [List.map_cons, List.sum_cons]; omega
theorem sum_ite (p : Int → Bool) : ∀ l : List Int, (l.map (fun n => if p n = true then (1 : Int) else 0)).sum = (l.countP p : Int)
  | [] => rfl
  | x :: l => by
    have h := sum_ite p l
    simp only [List.map_cons, List.sum_cons, List.countP_cons]
    split <;> omega
theorem sum_const (k : Int) : ∀ l : List Int, (l.map (fun _ => k)).sum = (l.length : Int) * k
  | [] => by simp
  | x :: l => by
    have h := sum_const k l
    simp only [List.map_cons, List.sum_cons, List.length_cons, h, Int.natCast_add, Int.add_mul, Int.natCast_one, Int.one_mul]
    omega
theorem min_split (k D own : Int) (h1 : k ≤ D) (h2 : D ≤ k + 1) : min D own = min k own + (if (decide (k < D) && decide (k < own)) = true then (1 : Int) else 0) := by
  by_cases h3 : k < D <;> by_cases h4 : k < own <;> simp only [h3, h4, decide_true, decide_false, Bool.and_true, Bool.and_false, if_true, if_false, Bool.false_eq_true] <;> omega
/-- places where two lists are the same -/
def sameTo (a b : List Int) : Nat → Nat
  | 0 => 0
  | k + 1 => sameTo a b k + (if nth a k = nth b k then 1 else 0)
theorem sameTo_le (a b : List Int) : ∀ k, sameTo a b k ≤ k
  | 0 => Nat.le_refl _
  | k + 1 => by
    have := sameTo_le a b k
    unfold sameTo
    split <;> omega
theorem take_count (xs : List Int) (k : Nat) (hk : k < xs.length) : (xs.take (k + 1)).count 0 = (xs.take k).count 0 + (if nth xs k = 0 then 1 else 0) := by
  rw [List.take_add_one, List.count_append, List.getElem?_eq_getElem hk, nth_get xs k hk]
  by_cases h : xs[k] = 0 <;> simp [h]
theorem sameTo_up (a b xs : List Int) (hx : ∀ p, p < xs.length → nth a p = nth b p → nth xs p ≠ 0) : ∀ k, k ≤ xs.length → sameTo a b k + (xs.take k).count 0 ≤ k
  | 0, _ => by simp [sameTo]
  | k + 1, hk => by
    have ih := sameTo_up a b xs hx k (by omega)
    have h := hx k (by omega)
    rw [take_count xs k (by omega)]
    unfold sameTo
    split
    · rw [if_neg (h (by assumption))]; omega
    · split <;> omega
theorem sameTo_down (a b xs : List Int) (hx : ∀ p, p < xs.length → nth xs p ≠ 0 → nth a p = nth b p) : ∀ k, k ≤ xs.length → k ≤ sameTo a b k + (xs.take k).count 0
  | 0, _ => Nat.zero_le _
  | k + 1, hk => by
    have ih := sameTo_down a b xs hx k (by omega)
    have h := hx k (by omega)
    rw [take_count xs k (by omega)]
    unfold sameTo
    by_cases h0 : nth xs k = 0
    · rw [if_pos h0]; omega
    · rw [if_pos (h h0)]; omega
/-- no balanced division shares more -/
theorem shares {l ys : List Int} (D Q own : Int → Int) (h0 : 0 < l.length) (hD : ∀ n ∈ l, 8 / (l.length : Int) ≤ D n ∧ D n ≤ 8 / (l.length : Int) + 1) (h8 : (l.map D).sum = 8)
    (hp : ys.Perm l) (hd : ∀ i j, i ≤ j → j < ys.length → own (nth ys j) ≤ own (nth ys i)) (hQ : ∀ i, i < ys.length → Q (nth ys i) = quota l.length i) :
    (l.map (fun n => min (D n) (own n))).sum ≤ (l.map (fun n => min (Q n) (own n))).sum := by
  have hQ' : ∀ n ∈ l, 8 / (l.length : Int) ≤ Q n ∧ Q n ≤ 8 / (l.length : Int) + 1 := fun n hn => by
    obtain ⟨i, hi, rfl⟩ := mem_nth (hp.mem_iff.2 hn)
    rw [hQ i hi]
    exact quota_bd _ _
  have lenY : ys.length = l.length := hp.length_eq
  have hr0 : (0 : Int) ≤ 8 % (l.length : Int) := Int.emod_nonneg _ (by omega)
  have hr1 : (8 : Int) % (l.length : Int) < (l.length : Int) := Int.emod_lt_of_pos _ (by omega)
  have hdm : (l.length : Int) * (8 / (l.length : Int)) + 8 % (l.length : Int) = 8 := Int.mul_ediv_add_emod 8 _
  have hqv : ∀ i, i < ys.length → (i : Int) < 8 % (l.length : Int) → 8 / (l.length : Int) < Q (nth ys i) := fun i hi h => by
    rw [hQ i hi, quota, if_pos h]; omega
  generalize hk : (8 : Int) / (l.length : Int) = k at *
  generalize hr : (8 : Int) % (l.length : Int) = r at *
  have split : ∀ X : Int → Int, (∀ n ∈ l, k ≤ X n ∧ X n ≤ k + 1) → (l.map (fun n => min (X n) (own n))).sum = (l.map (fun n => min k (own n))).sum + (l.countP (fun n => decide (k < X n) && decide (k < own n)) : Int) := fun X hX => by
    rw [← sum_ite, ← sum_add]
    exact sum_congr _ _ l (fun n hn => min_split k (X n) (own n) (hX n hn).1 (hX n hn).2)
  rw [split D hD, split Q hQ']
  have hcD : ((l.countP (fun n => decide (k < D n)) : Nat) : Int) = r := by
    have h := sum_congr D (fun n => k + (if decide (k < D n) = true then (1 : Int) else 0)) l (fun n hn => by
      have := hD n hn
      by_cases h : k < D n
      · simp only [h, decide_true, if_true]; omega
      · simp only [h, decide_false, Bool.false_eq_true, if_false]; omega)
    rw [h8, sum_add, sum_const, sum_ite] at h
    omega
  have hB1 : l.countP (fun n => decide (k < D n) && decide (k < own n)) ≤ l.countP (fun n => decide (k < D n)) :=
    List.countP_mono_left (fun x _ h => by rw [Bool.and_eq_true] at h; exact h.1)
  have hB2 : l.countP (fun n => decide (k < D n) && decide (k < own n)) ≤ l.countP (fun n => decide (k < own n)) :=
    List.countP_mono_left (fun x _ h => by rw [Bool.and_eq_true] at h; exact h.2)
  have hC : ys.countP (fun n => decide (k < Q n) && decide (k < own n)) = l.countP (fun n => decide (k < Q n) && decide (k < own n)) := hp.countP_eq _
  by_cases hex : ∃ i : Nat, (i : Int) < r ∧ own (nth ys i) ≤ k
  · obtain ⟨i, hi, ho⟩ := hex
    have h1 : ys.countP (fun n => decide (k < own n)) ≤ ys.countP (fun n => decide (k < Q n) && decide (k < own n)) := by
      refine List.countP_mono_left (fun x hx h => ?_)
      obtain ⟨j, hj, rfl⟩ := mem_nth hx
      rw [decide_eq_true_iff] at h
      rw [Bool.and_eq_true, decide_eq_true_iff, decide_eq_true_iff]
      have hji : j < i := by
        refine Classical.byContradiction fun hno => ?_
        have := hd i j (by omega) hj
        omega
      exact ⟨hqv j hj (by omega), h⟩
    have h2 : ys.countP (fun n => decide (k < own n)) = l.countP (fun n => decide (k < own n)) := hp.countP_eq _
    omega
  · have h1 : (ys.take r.toNat).countP (fun n => decide (k < Q n) && decide (k < own n)) = r.toNat := by
      rw [List.countP_eq_length.2, List.length_take]
      · omega
      · intro x hx
        obtain ⟨j, hj, rfl⟩ := mem_nth hx
        rw [List.length_take] at hj
        have e : nth (ys.take r.toNat) j = nth ys j := by simp [nth, List.getD_eq_getElem?_getD, show j < r.toNat by omega]
        rw [e, Bool.and_eq_true, decide_eq_true_iff, decide_eq_true_iff]
        refine ⟨hqv j (by omega) (by omega), ?_⟩
        refine Classical.byContradiction fun hno => hex ⟨j, by omega, by omega⟩
    have h2 := (List.take_sublist r.toNat ys).countP_le (p := fun n => decide (k < Q n) && decide (k < own n))
    omega

/-- how a balanced division shares -/
theorem balanced_bd {d l : List Int} (hd : d.length = 8) (hl : l.Nodup) (hpos : ∀ n ∈ l, 0 < n) (h0 : 0 < l.length) (hm : ∀ p, p < 8 → nth d p ∈ l) (hb : balL d l = true) :
    (∀ n ∈ l, 8 / (l.length : Int) ≤ (d.count n : Int) ∧ (d.count n : Int) ≤ 8 / (l.length : Int) + 1) ∧ (l.map (fun n => (d.count n : Int))).sum = 8 := by
  have hz : 0 ∉ l := fun h => absurd (hpos 0 h) (by omega)
  have hmem : ∀ x ∈ d, x ∈ l := fun x hx => by
    obtain ⟨i, hi, rfl⟩ := mem_nth hx
    exact hm i (by omega)
  have h8 : (l.map (fun n => (d.count n : Int))).sum = 8 := by
    rw [sum_cast]
    have h1 := sum_count hl hz d (fun x hx => Or.inr (hmem x hx))
    have h2 : d.count 0 = 0 := List.count_eq_zero.2 (fun h => hz (hmem 0 h))
    omega
  refine ⟨?_, h8⟩
  have hbad : ∀ j, j < 8 → badB d l j = false := fun j hj => by
    have h1 := hm j hj
    have h2 : l.contains (nth d j) = true := by simpa using h1
    simp only [badB, if_pos (hpos _ h1), h2]; rfl
  rw [balL_good d l hbad] at hb
  have hb' := of_decide_eq_true hb
  have hsp := lmTo_spec d l l.length
  generalize (lmTo d l l.length).1 = a at *
  generalize (lmTo d l l.length).2 = b at *
  have hin : ∀ n ∈ l, a ≤ (d.count n : Int) ∧ (d.count n : Int) ≤ a + 1 := fun n hn => by
    obtain ⟨i, hi, rfl⟩ := mem_nth hn
    have h := hsp i hi
    rw [cnt_count d hd _ (hpos _ hn)] at h
    omega
  have s1 := sum_le (fun _ => a) (fun n => (d.count n : Int)) l (fun n hn => (hin n hn).1)
  have s2 := sum_le (fun n => (d.count n : Int)) (fun _ => a + 1) l (fun n hn => (hin n hn).2)
  rw [sum_const, h8] at s1
  rw [sum_const, h8] at s2
  have m0 : (0 : Int) < (l.length : Int) := by omega
  have k1 : a ≤ 8 / (l.length : Int) := (Int.le_ediv_iff_mul_le m0).2 (by rw [Int.mul_comm]; exact s1)
  by_cases hk : 8 / (l.length : Int) ≤ a
  · intro n hn
    have := hin n hn
    omega
  · have e : (l.length : Int) * (a + 1) = 8 := by
      refine Int.le_antisymm ?_ s2
      have h1 : (l.length : Int) * (a + 1) ≤ (l.length : Int) * (8 / (l.length : Int)) := Int.mul_le_mul_of_nonneg_left (by omega) (by omega)
      exact Int.le_trans h1 (Int.mul_ediv_self_le (by omega))
    have hke : 8 / (l.length : Int) = a + 1 := by rw [← e]; exact Int.mul_ediv_cancel_left _ (by omega)
    have hz0 : (l.map (fun n => (a + 1) + (-(d.count n : Int)))).sum = 0 := by
      rw [sum_add, sum_const, e]
      have hn : (l.map (fun n => -(d.count n : Int))).sum = -8 := by
        have h := sum_add (fun n => -(d.count n : Int)) (fun n => (d.count n : Int)) l
        rw [h8, sum_congr _ (fun _ => (0 : Int)) l (fun n _ => by omega), sum_const] at h
        omega
      rw [hn]; rfl
    intro n hn
    have := sum_zero _ l (fun n hn => by have := hin n hn; omega) hz0 n hn
    have := hin n hn
    omega

/-- no balanced division keeps more partitions where they are -/
theorem keeps_most {o l ys c d : List Int} (ho : o.length = 8) (hd : d.length = 8) (hl : l.Nodup) (hpos : ∀ n ∈ l, 0 < n) (h0 : 0 < l.length)
    (hS : Sorted o ys l) (fc : Facts o l (leftTo ys ys.length) c) (hm : ∀ p, p < 8 → nth d p ∈ l) (hb : balL d l = true) : sameTo d o 8 ≤ sameTo c o 8 := by
  have hz : 0 ∉ l := fun h => absurd (hpos 0 h) (by omega)
  have hyn : ys.Nodup := hS.1.nodup_iff.2 hl
  have lenY : ys.length = l.length := hS.1.length_eq
  obtain ⟨b1, b2⟩ := balanced_bd hd hl hpos h0 hm hb
  have main := shares (ys := ys) (fun n => (d.count n : Int)) (leftTo ys ys.length) (fun n => (o.count n : Int)) h0 b1 b2 hS.1
    (fun i j hij hj => by
      have h := sorted_desc hS hij hj
      rw [cnt_count o ho _ (hpos _ (hS.1.mem_iff.1 (nth_mem ys j hj))), cnt_count o ho _ (hpos _ (hS.1.mem_iff.1 (nth_mem ys i (by omega))))] at h
      exact h)
    (fun i hi => by rw [leftTo_at ys hyn _ (Nat.le_refl _) i hi, lenY])
  obtain ⟨kp, hkl, hk1, hk2⟩ := fc.kept
  have hkm : ∀ x ∈ kp, x = 0 ∨ x ∈ l := fun x hx => by
    obtain ⟨p, hp, rfl⟩ := mem_nth hx
    by_cases h : nth kp p = 0
    · exact Or.inl h
    · right; rw [(hk1 p (by omega) h).2]; exact fc.mem p (by omega)
  have up1 := sum_le _ _ l (fun n hn => hk2 n hn)
  have kd : ∃ kd : List Int, kd.length = 8 ∧ ∀ p, p < 8 → nth kd p = if nth d p = nth o p then nth d p else 0 :=
    ⟨(List.range 8).map (fun p => if nth d p = nth o p then nth d p else 0), by simp, fun p hp => by
      simp [nth, List.getD_eq_getElem?_getD, List.getElem?_map, List.getElem?_range hp]⟩
  obtain ⟨kd, hdl, hdp⟩ := kd
  have hdm : ∀ x ∈ kd, x = 0 ∨ x ∈ l := fun x hx => by
    obtain ⟨p, hp, rfl⟩ := mem_nth hx
    rw [hdp p (by omega)]
    split
    · exact Or.inr (hm p (by omega))
    · exact Or.inl rfl
  have low : ∀ n ∈ l, (kd.count n : Int) ≤ min (d.count n : Int) (o.count n : Int) := fun n hn => by
    have n0 := hpos n hn
    have a1 := count_le n kd d (by omega) (fun p hp h => by
      rw [hdp p (by omega)] at h
      split at h
      · exact h
      · omega)
    have a2 := count_le n kd o (by omega) (fun p hp h => by
      rw [hdp p (by omega)] at h
      split at h
      · rename_i e; rw [← e]; exact h
      · omega)
    omega
  have low1 := sum_le _ _ l low
  rw [sum_cast] at low1
  rw [sum_cast] at up1
  have c1 := sum_count hl hz kd hdm
  have c2 := sum_count hl hz kp hkm
  have t1 := sameTo_up d o kd (fun p hp h => by
    rw [hdp p (by omega), if_pos h]
    intro e
    exact hz (e ▸ hm p (by omega))) 8 (by omega)
  have t2 := sameTo_down c o kp (fun p hp h => by
    have := hk1 p (by omega) h
    rw [← this.1, ← this.2]) 8 (by omega)
  rw [List.take_of_length_le (by omega)] at t1 t2
  omega
end Go.Proofs.Ytalbdcpbdedfiaa
