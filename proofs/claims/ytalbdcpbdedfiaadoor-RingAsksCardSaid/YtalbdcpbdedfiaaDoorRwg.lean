/- Walks: ring.Claim. -/
import Derived.Test.YtalbdcpbdedfiaaDoorRwf
import Derived.Deep.RegionWith
namespace Go.Proofs.YtalbdcpbdedfiaaDoor
open Go.RowKit

/-! ### what Claim computes -/
def zeros8 : List Int := [0, 0, 0, 0, 0, 0, 0, 0]
/-- how many the k-th member of m may have -/
def quota (m k : Nat) : Int := if (k : Int) < 8 % (m : Int) then 8 / (m : Int) + 1 else 8 / (m : Int)
def leftTo (ys : List Int) : Nat → Int → Int
  | 0 => fun _ => 0
  | k + 1 => upd (leftTo ys k) (nth ys k) (quota ys.length k)
def takeS (s : (Int → Int) × List Int) (p : Nat) (n : Int) : (Int → Int) × List Int := if 0 < s.1 n then (upd s.1 n (s.1 n - 1), s.2.set p n) else s
/-- the first pass: who keeps its partition; which are open -/
def keepTo (o : List Int) (f : Int → Int) : Nat → ((Int → Int) × List Int) × List Int
  | 0 => ((f, zeros8), [])
  | k + 1 => if 0 < (keepTo o f k).1.1 (nth o k) then (takeS (keepTo o f k).1 k (nth o k), (keepTo o f k).2) else ((keepTo o f k).1, (keepTo o f k).2 ++ [(k : Int)])
def fillOne (l : List Int) (s : (Int → Int) × List Int) (p : Nat) : (Int → Int) × List Int :=
  match l.find? (fun n => decide (0 < s.1 n)) with
  | some n => takeS s p n
  | none => s
/-- the second pass: the open ones go to the first members that have not enough -/
def fillTo (l : List Int) (s : (Int → Int) × List Int) (opens : List Int) : Nat → (Int → Int) × List Int
  | 0 => s
  | k + 1 => fillOne l (fillTo l s opens k) (nth opens k).toNat
def claimW (o l ys : List Int) : List Int :=
  (fillTo l (keepTo o (leftTo ys ys.length) 8).1 (keepTo o (leftTo ys ys.length) 8).2 (keepTo o (leftTo ys ys.length) 8).2.length).2
def Sorted (o ys l : List Int) : Prop := ys.Perm l ∧ ys.Pairwise (fun a b => Go.Proofs.ltOf (claimCmp o) b a = false)
def ClaimRes (o l out : List Int) : Prop := (l = [] ∧ out = zeros8) ∨ ∃ ys, Sorted o ys l ∧ l ≠ [] ∧ out = claimW o l ys

theorem nth_mem (xs : List Int) (k : Nat) (h : k < xs.length) : nth xs k ∈ xs := by
  have : nth xs k = xs[k] := by simp [nth, List.getD_eq_getElem?_getD, h]
  rw [this]; exact List.getElem_mem h
theorem RdB.at_ {n₀ : Nat} {w : World} {A : Option Addr} {n c : Nat} {xs : List Int} (h : RdB n₀ w (.slice A n c) xs) (k : Nat) (hk : k < xs.length) : ∃ b off, A = some ⟨b, off, none⟩ ∧ b < n₀ ∧ w.cell? ⟨b, off + k, none⟩ = some (.int .i64 (nth xs k)) := by
  obtain ⟨A', c', e, hm, hr⟩ := h
  injection e with e1 _ _
  subst e1
  obtain ⟨b, off, rfl, hb, hcell⟩ := hr (by omega)
  exact ⟨b, off, rfl, hb, hcell k hk⟩
theorem div_bd (m : Nat) (h : 0 < m) : 0 ≤ (8 : Int) / (m : Int) ∧ (8 : Int) / (m : Int) ≤ 8 :=
  ⟨Int.ediv_nonneg (by omega) (by omega), Int.ediv_le_self _ (by omega)⟩
theorem upd_upd (f : Int → Int) (x a b : Int) : upd (upd f x a) x b = upd f x b := by
  funext z
  unfold upd
  split <;> simp_all
theorem leftTo_more (ys : List Int) (k : Nat) (h : (k : Int) < 8 % (ys.length : Int)) : leftTo ys (k + 1) = upd (leftTo ys k) (nth ys k) (8 / (ys.length : Int) + 1) := by
  show upd _ _ (quota ys.length k) = _
  rw [quota, if_pos h]
theorem leftTo_less (ys : List Int) (k : Nat) (h : ¬ (k : Int) < 8 % (ys.length : Int)) : leftTo ys (k + 1) = upd (leftTo ys k) (nth ys k) (8 / (ys.length : Int)) := by
  show upd _ _ (quota ys.length k) = _
  rw [quota, if_neg h]
/-- the state of the division in a world: the map at M (in the box BL) and the array at BO -/
def CSt (BL BO M : Nat) (base : World) (m : Nat) (s : (Int → Int) × List Int) (w : World) : Prop :=
  MapI Tryd.prog 3 w M m s.1 ∧ w.heap[BO]? = some (.cells (ints s.2).toArray 23 (0, 0)) ∧ w.heap[BL]? = some (.cells #[.map (some M)] 57 (0, 0)) ∧ Kept2 M BO base w ∧ s.2.length = 8 ∧ ∀ z, s.1 z ≤ 9
theorem leftTo_le (ys : List Int) (h : 0 < ys.length) (k : Nat) : ∀ z, leftTo ys k z ≤ 9 := by
  have hd := div_bd ys.length h
  induction k with
  | zero => intro z; simp [leftTo]
  | succ k ih =>
    intro z
    show upd _ _ _ z ≤ 9
    unfold upd quota
    split
    · split <;> omega
    · exact ih z
theorem takeS_yes (s : (Int → Int) × List Int) (p : Nat) (n : Int) (h : 0 < s.1 n) : takeS s p n = (upd s.1 n (s.1 n - 1), s.2.set p n) := if_pos h
theorem takeS_no (s : (Int → Int) × List Int) (p : Nat) (n : Int) (h : ¬ 0 < s.1 n) : takeS s p n = s := if_neg h
theorem CSt.take {BL BO M m m' : Nat} {base w w' : World} {s : (Int → Int) × List Int} (h : CSt BL BO M base m s w) (p : Nat) (n : Int) (hp : 0 < s.1 n)
    (h1 : MapI Tryd.prog 3 w' M m' (upd s.1 n (s.1 n - 1))) (h2 : w'.heap[BO]? = some (.cells (ints (s.2.set p n)).toArray 23 (0, 0))) (h3 : w'.heap[BL]? = some (.cells #[.map (some M)] 57 (0, 0))) (h4 : Kept2 M BO w w') :
    CSt BL BO M base m' (takeS s p n) w' := by
  rw [takeS_yes s p n hp]
  obtain ⟨_, _, _, hk, hl, hb⟩ := h
  refine ⟨h1, h2, h3, hk.trans h4, by simpa using hl, fun z => ?_⟩
  have := hb z
  have := hb n
  show upd _ _ _ z ≤ 9
  unfold upd
  split <;> omega
theorem CSt.grown {BL BO M m c : Nat} {base w w' : World} {s : (Int → Int) × List Int} (h : CSt BL BO M base m s w) (hL : BL < c) (hO : BO < c) (hM : M < c) (hc : base.heap.size ≤ c) (hg : Below c w w') : CSt BL BO M base m s w' := by
  obtain ⟨h1, h2, h3, hk, hl, hb⟩ := h
  refine ⟨h1.kept (hg.block _ hM), (hg.block _ hO).trans h2, (hg.block _ hL).trans h3, ⟨hg.os.trans hk.os, hg.tape.trans hk.tape, hg.output.trans hk.output, Nat.le_trans hk.size hg.size, fun i hi a b => (hg.block i (by omega)).trans (hk.block i hi a b)⟩, hl, hb⟩
theorem keepTo_yes (o : List Int) (f : Int → Int) (k : Nat) (h : 0 < (keepTo o f k).1.1 (nth o k)) : keepTo o f (k + 1) = (takeS (keepTo o f k).1 k (nth o k), (keepTo o f k).2) := if_pos h
theorem keepTo_no (o : List Int) (f : Int → Int) (k : Nat) (h : ¬ 0 < (keepTo o f k).1.1 (nth o k)) : keepTo o f (k + 1) = ((keepTo o f k).1, (keepTo o f k).2 ++ [(k : Int)]) := if_neg h
theorem keepTo_le (o : List Int) (f : Int → Int) (k : Nat) : (keepTo o f k).2.length ≤ k ∧ ∀ x ∈ (keepTo o f k).2, 0 ≤ x ∧ x < k := by
  induction k with
  | zero => simp [keepTo]
  | succ k ih =>
    by_cases h : 0 < (keepTo o f k).1.1 (nth o k)
    · rw [keepTo_yes o f k h]
      exact ⟨by have := ih.1; simp only; omega, fun x hx => by have := ih.2 x hx; omega⟩
    · rw [keepTo_no o f k h]
      refine ⟨by have := ih.1; simp; omega, fun x hx => ?_⟩
      rcases List.mem_append.1 hx with hx | hx
      · have := ih.2 x hx; omega
      · simp at hx; omega
theorem find_no (l : List Int) (f : Int → Int) (h : ∀ i, i < l.length → ¬ 0 < f (nth l i)) : l.find? (fun n => decide (0 < f n)) = none := by
  rw [List.find?_eq_none]
  intro x hx
  obtain ⟨i, hi, rfl⟩ := List.getElem_of_mem hx
  have := h i hi
  simpa [nth, List.getD_eq_getElem?_getD, hi] using this
theorem find_yes (l : List Int) (f : Int → Int) (j : Nat) (hj : j < l.length) (h : ∀ i, i < j → ¬ 0 < f (nth l i)) (hp : 0 < f (nth l j)) : l.find? (fun n => decide (0 < f n)) = some (nth l j) := by
  have e : ∀ i, i < l.length → nth l i = l[i]! := fun i hi => by simp [nth, List.getD_eq_getElem?_getD, hi]
  have hx : nth l j = l[j] := by simp [nth, List.getD_eq_getElem?_getD, hj]
  rw [hx] at hp ⊢
  rw [List.find?_eq_some_iff_getElem]
  refine ⟨by simpa using hp, j, hj, rfl, fun i hi => ?_⟩
  have := h i hi
  simpa [nth, List.getD_eq_getElem?_getD, show i < l.length by omega] using this
theorem fillOne_no (l : List Int) (s : (Int → Int) × List Int) (p : Nat) (h : ∀ i, i < l.length → ¬ 0 < s.1 (nth l i)) : fillOne l s p = s := by
  unfold fillOne; rw [find_no l s.1 h]
theorem fillOne_yes (l : List Int) (s : (Int → Int) × List Int) (p j : Nat) (hj : j < l.length) (h : ∀ i, i < j → ¬ 0 < s.1 (nth l i)) (hp : 0 < s.1 (nth l j)) : fillOne l s p = takeS s p (nth l j) := by
  unfold fillOne; rw [find_yes l s.1 j hj h hp]
theorem Claim_swo (o : List Int) : Go.Sort.SWO (Go.Proofs.ltOf (claimCmp o)) := by
  have key : ∀ a b, Go.Proofs.ltOf (claimCmp o) a b = true ↔ cnt o b < cnt o a ∨ (cnt o b = cnt o a ∧ a < b) := by
    intro a b
    unfold Go.Proofs.ltOf claimCmp orI Lib.compareInt
    rw [decide_eq_true_iff]
    repeat' split
    all_goals omega
  refine ⟨fun x => ?_, fun x y z => ?_, fun x y z => ?_⟩
  · rw [← Bool.not_eq_true, key]; omega
  · rw [key, key, key]; omega
  · rw [← Bool.not_eq_true, ← Bool.not_eq_true, ← Bool.not_eq_true, key, key, key]; omega

set_option maxRecDepth 100000 in
set_option maxHeartbeats 400000 in
theorem Claim_none (o : List Int) (v : Value) (xs : List Int) (w : World) (hv : RdI w v xs) (hn : xs.length * 8 ≤ 140737488351232) (h0 : thoseL xs = []) :
    Calls Tryd.prog 15 #[.agg (ints o).toArray, v] w fun e w' => e = .returned (.agg (ints zeros8).toArray) ∧ Below w.heap.size w w' := by
  go_enter Tryd.func15, Tryd.ntmps15
  go_wp2_with fail
  have hs0 : ((w.alloc (Obj.cells (ints o).toArray 23)).alloc (Obj.cells (ints zeros8).toArray 23)).heap.size = w.heap.size + 2 := by simp
  have hR : ((w.alloc (Obj.cells (ints o).toArray 23)).alloc (Obj.cells (ints zeros8).toArray 23)).heap[w.heap.size + 1]? = some (Obj.cells (ints zeros8).toArray 23 (0, 0)) := heap_alloc2_new w _ _
  have hb0 : Bel w.heap.size w ((w.alloc (Obj.cells (ints o).toArray 23)).alloc (Obj.cells (ints zeros8).toArray 23)) := ((Bel.refl _ _).alloc (Nat.le_refl _) _).alloc (by simp) _
  change Calls _ _ _ ((w.alloc (Obj.cells (ints o).toArray 23)).alloc (Obj.cells (ints zeros8).toArray 23)) _
  generalize (w.alloc (Obj.cells (ints o).toArray 23)).alloc (Obj.cells (ints zeros8).toArray 23) = w0 at *
  refine (those_any v xs w0 (hv.below hb0.bel) hn).mono ?_
  rintro e w1 ⟨vl, rfl, hol, hbl⟩
  rw [h0] at hol
  obtain ⟨Al, cl, rfl, _⟩ := hol.rd
  have HR := Lib.hid ((hbl.block _ (Array.getElem?_eq_some_iff.1 hR).1).trans hR)
  have HS0 := Lib.hid hs0
  have HH0 := Lib.hid h0
  clear hR hs0 h0
  have h01 := hbl.size
  have hlt : w.heap.size + 1 < w1.heap.size := by rw [HS0.out] at h01; omega
  go_wp2_with (refine wpList_store_arr rfl _ _ _ rfl (w.heap.size + 1) zeros8 rfl rfl _ zeros8 8 rfl rfl ((Below.heap_alloc w1 _ _ hlt).trans HR.out) sOwners ?_; intro w2 hg2 hk2)
  refine bodyPost_ret (results_cell_arr rfl _ _ (w.heap.size + 1) _ zeros8 8 rfl rfl hg2 _ uOwners sOwners) rfl ⟨rfl, ?_⟩
  exact ((hb0.bel.trans (hbl.mono hb0.size)).alloc (by omega) _).trans (hk2.below (by simp; omega) (by omega) (by omega))

set_option maxRecDepth 100000 in
set_option maxHeartbeats 1000000 in
theorem Claim_some (o : List Int) (ho : o.length = 8) (hoW : ∀ j, j < 8 → WF (nth o j)) (v : Value) (xs : List Int) (w : World) (hv : RdI w v xs) (hn : xs.length * 8 ≤ 140737488351232) (hxW : ∀ x ∈ thoseL xs, WF x) (h0 : thoseL xs ≠ []) (hlen : (thoseL xs).length ≤ xs.length) :
    Calls Tryd.prog 15 #[.agg (ints o).toArray, v] w fun e w' => (∃ ys, Sorted o ys (thoseL xs) ∧ e = .returned (.agg (ints (claimW o (thoseL xs) ys)).toArray)) ∧ Below w.heap.size w w' := by
  have eg : ∀ args w, (callFunc 28 args).run Tryd.prog w = .ok (.enter 28 args) w := enters_of Tryd.func28 (by kernel_rfl) rfl
  have hmm := @run_makeMap Tryd.prog
  go_enter Tryd.func15, Tryd.ntmps15
  go_wp2_with fail
  have hs0 : ((w.alloc (Obj.cells (ints o).toArray 23)).alloc (Obj.cells (ints zeros8).toArray 23)).heap.size = w.heap.size + 2 := by simp
  have hA : ((w.alloc (Obj.cells (ints o).toArray 23)).alloc (Obj.cells (ints zeros8).toArray 23)).heap[w.heap.size]? = some (Obj.cells (ints o).toArray 23 (0, 0)) := heap_alloc2_old w _ _
  have hR : ((w.alloc (Obj.cells (ints o).toArray 23)).alloc (Obj.cells (ints zeros8).toArray 23)).heap[w.heap.size + 1]? = some (Obj.cells (ints zeros8).toArray 23 (0, 0)) := heap_alloc2_new w _ _
  have hb0 : Bel w.heap.size w ((w.alloc (Obj.cells (ints o).toArray 23)).alloc (Obj.cells (ints zeros8).toArray 23)) := ((Bel.refl _ _).alloc (Nat.le_refl _) _).alloc (by simp) _
  change Calls _ _ _ ((w.alloc (Obj.cells (ints o).toArray 23)).alloc (Obj.cells (ints zeros8).toArray 23)) _
  generalize (w.alloc (Obj.cells (ints o).toArray 23)).alloc (Obj.cells (ints zeros8).toArray 23) = w0 at *
  refine (those_any v xs w0 (hv.below hb0.bel) hn).mono ?_
  rintro e w1 ⟨vl, rfl, hol, hbl⟩
  have hrl := hol.rd
  generalize hl : thoseL xs = l at *
  obtain ⟨Al, cl, rfl, hlm, hlc, _⟩ := id hrl
  have h01 := hbl.size
  have hpos : 0 < l.length := List.length_pos_iff.2 h0
  have HA1 := Lib.hid ((hbl.block _ (Array.getElem?_eq_some_iff.1 hA).1).trans hA)
  have HR1 := Lib.hid ((hbl.block _ (Array.getElem?_eq_some_iff.1 hR).1).trans hR)
  have HL := Lib.hid hl
  have HS0 := Lib.hid hs0
  have HW := Lib.hid hxW
  have HOW := Lib.hid hoW
  have HO := Lib.hid ho
  have HN0 := Lib.hid h0
  clear hA hR hl hs0 hxW hoW ho h0
  have hz : ((l.length : Int) == 0) = false := by rw [beq_eq_false_iff_ne]; omega
  go_wp2_with (go_at_call 27; refine (Values_any _ _ _ _).mono ?_; rintro e w3 ⟨rfl, rfl⟩)
  change Calls _ _ _ ((w1.alloc (Obj.cells (ints zeros8).toArray 23)).alloc (Obj.cells #[Value.slice Al l.length cl] 24)) _
  have hs3 : ((w1.alloc (Obj.cells (ints zeros8).toArray 23)).alloc (Obj.cells #[Value.slice Al l.length cl] 24)).heap.size = w1.heap.size + 2 := by simp
  have hO3 : ((w1.alloc (Obj.cells (ints zeros8).toArray 23)).alloc (Obj.cells #[Value.slice Al l.length cl] 24)).heap[w1.heap.size]? = some (Obj.cells (ints zeros8).toArray 23 (0, 0)) := heap_alloc2_old w1 _ _
  have hL3 : ((w1.alloc (Obj.cells (ints zeros8).toArray 23)).alloc (Obj.cells #[Value.slice Al l.length cl] 24)).heap[w1.heap.size + 1]? = some (Obj.cells #[Value.slice Al l.length cl] 24 (0, 0)) := heap_alloc2_new w1 _ _
  have hb3 : Bel w1.heap.size w1 ((w1.alloc (Obj.cells (ints zeros8).toArray 23)).alloc (Obj.cells #[Value.slice Al l.length cl] 24)) := ((Bel.refl _ _).alloc (Nat.le_refl _) _).alloc (by simp) _
  generalize (w1.alloc (Obj.cells (ints zeros8).toArray 23)).alloc (Obj.cells #[Value.slice Al l.length cl] 24) = w3 at *
  have hA3 : w3.heap[w.heap.size]? = some (Obj.cells (ints o).toArray 23 (0, 0)) := hb3.block' HA1.out
  refine (SortedFunc_any (w1.heap.size + 1) (.slice Al l.length cl) l HN0.out (by omega) w3 (by omega) (cell_of_row _ _ _ _ _ _ hL3) (hrl.below hb3.bel) (claimCmp o) (Claim_swo o) 28 #[.pointer (some ⟨w.heap.size, 0, none⟩)] eg (fun W x y hB => ?_)).mono ?_
  · exact Claim1_any o HO.out x y w.heap.size W ((hB.block _ (Array.getElem?_eq_some_iff.1 hA3).1).trans hA3)
  rintro e w4 ⟨vy, ys, rfl, hP, hS, hoy, hb4⟩
  have h34 := hb4.size
  have HO4 := Lib.hid ((hb4.block _ (by omega)).trans hO3)
  have HA4 := Lib.hid ((hb4.block _ (Array.getElem?_eq_some_iff.1 hA3).1).trans hA3)
  have HR4 := Lib.hid ((hb4.block _ (by rw [hs3]; have := (Array.getElem?_eq_some_iff.1 HR1.out).1; omega)).trans (hb3.block' HR1.out))
  have HYS := Lib.hid (show Sorted o ys l from ⟨hP, hS⟩)
  have hyl : ys.length = l.length := hP.length_eq
  have HYL := Lib.hid hyl
  have hry := hoy.rd
  have h14 : w1.heap.size < w4.heap.size := by omega
  have HS3 := Lib.hid hs3
  clear hA3 hO3 hL3 hP hS hs3
  obtain ⟨Ay, cy, rfl, _, _, _⟩ := id hry
  rw [hyl] at hry ⊢
  clear hyl
  go_wp2
  have hM5 : MapI Tryd.prog 3 ((w4.alloc (.map #[] 0)).alloc (Obj.cells #[Value.map (some w4.heap.size)] 57)) w4.heap.size 0 (leftTo ys 0) := (MapI.made 3 w4).kept (Below.heap_alloc _ _ _ (by simp))
  have hB5 : ((w4.alloc (.map #[] 0)).alloc (Obj.cells #[Value.map (some w4.heap.size)] 57)).heap[w4.heap.size + 1]? = some (Obj.cells #[Value.map (some w4.heap.size)] 57 (0, 0)) := heap_alloc2_new w4 _ _
  have hs5 : ((w4.alloc (.map #[] 0)).alloc (Obj.cells #[Value.map (some w4.heap.size)] 57)).heap.size = w4.heap.size + 2 := by simp
  have hb5 : Bel w4.heap.size w4 ((w4.alloc (.map #[] 0)).alloc (Obj.cells #[Value.map (some w4.heap.size)] 57)) := ((Bel.refl _ _).alloc (Nat.le_refl _) _).alloc (by simp) _
  generalize (w4.alloc (.map #[] 0)).alloc (Obj.cells #[Value.map (some w4.heap.size)] 57) = w5 at *
  have HM5 := Lib.hid hM5
  have HB5 := Lib.hid hB5
  have HS5 := Lib.hid hs5
  clear hM5 hB5 hs5
  have hry5 : RdB w4.heap.size w5 (.slice Ay l.length cy) ys := by have := hry.b.below hb5.bel; exact this
  have hlm' : l.length ≤ 9223372036854775807 := by simpa [maxLen] using hlm
  go_loopw [32] (fun i wr => ∃ k m : Nat, k ≤ l.length ∧ m ≤ 2 * k ∧ i = .int .i64 k ∧ MapI Tryd.prog 3 wr w4.heap.size m (leftTo ys k) ∧ Kept2 w4.heap.size w4.heap.size w5 wr) (fun i _ => l.length - (intOf i).toNat)
  case atStart => exact ⟨0, 0, Nat.zero_le _, Nat.zero_le _, rfl, HM5.out, Kept2.refl _ _ _⟩
  case round =>
    obtain ⟨k, m, hk, hm, rfl, hM, hK⟩ := hrel
    have hsz := hK.size
    have hBr : wr.heap[w4.heap.size + 1]? = some (Obj.cells #[Value.map (some w4.heap.size)] 57 (0, 0)) := hK.block' HB5.out (by omega) (by omega)
    by_cases hlt : k < l.length
    · obtain ⟨by_, oy, rfl, _, cy1⟩ := (hry5.below (hK.below (by have := hb5.size; omega) (Nat.le_refl _) (Nat.le_refl _))).at_ k (by rw [HYL.out]; exact hlt)
      have hwy : WF (nth ys k) := HW.out _ (HYS.out.1.mem_iff.1 (nth_mem ys k (by rw [HYL.out]; exact hlt)))
      have hd := div_bd l.length hpos
      have hmx : m + 1 < maxLen := by simp only [maxLen]; omega
      obtain ⟨wa, hua, hMa, hga, _⟩ := (show MapI Tryd.prog 3 wr.drew w4.heap.size m (leftTo ys k) from hM).update uInt uMap (by omega) (nth ys k) (8 / (l.length : Int)) hwy ⟨by omega, by omega⟩
      have cb : wr.cell? ⟨w4.heap.size + 1, 0, none⟩ = some (.map (some w4.heap.size)) := cell_of_row _ _ _ _ _ _ hBr
      have hBa : wa.heap[w4.heap.size + 1]? = some (Obj.cells #[Value.map (some w4.heap.size)] 57 (0, 0)) := (hga.block _ (Array.getElem?_eq_some_iff.1 hBr).1 (by simp)).trans hBr
      have hKa : Kept2 w4.heap.size w4.heap.size w5 wa := hK.trans (Kept2.of_grown (w := wr) ⟨hga.os, hga.tape, hga.output, hga.size, hga.block⟩)
      by_cases hq : (k : Int) < 8 % (l.length : Int)
      · have ca : wa.cell? ⟨w4.heap.size + 1, 0, none⟩ = some (.map (some w4.heap.size)) := cell_of_row _ _ _ _ _ _ hBa
        have hla := hMa.lookup uInt uMap (zInt wa) (nth ys k) hwy
        rw [upd_same] at hla
        obtain ⟨wb, hub, hMb, hgb, _⟩ := hMa.update uInt uMap hmx (nth ys k) (8 / (l.length : Int) + 1) hwy ⟨by omega, by omega⟩
        rw [upd_upd] at hMb
        have HMb := Lib.hid hMb
        have HLM := Lib.hid (leftTo_more ys k (by rw [HYL.out]; exact hq))
        clear hMb hMa hM hBr hBa
        have hKb : Kept2 w4.heap.size w4.heap.size w5 wb := hKa.trans (Kept2.of_grown hgb)
        go_wp2
        go_region
        all_goals
          go_wp2
          go_roundw
          case rel => exact ⟨k + 1, m + 2, by omega, by omega, by go_num, by rw [HLM.out, HYL.out]; exact HMb.out, hKb⟩
          case measure => simp [intOf]; omega
      · have HLM := Lib.hid (leftTo_less ys k (by rw [HYL.out]; exact hq))
        have HMa := Lib.hid hMa
        clear hMa hM hBr hBa
        go_wp2
        go_region
        all_goals
          go_wp2
          go_roundw
          case rel => exact ⟨k + 1, m + 1, by omega, by omega, by go_num, by rw [HLM.out, HYL.out]; exact HMa.out, hKa⟩
          case measure => simp [intOf]; omega
    · obtain rfl : k = l.length := by omega
      have HMr := Lib.hid hM
      have HBr := Lib.hid hBr
      have h5 := hb5.size
      have HAr := Lib.hid (hK.block' (hb5.block' HA4.out) (by have := (Array.getElem?_eq_some_iff.1 HA4.out).1; omega) (by have := (Array.getElem?_eq_some_iff.1 HA4.out).1; omega))
      have HOr := Lib.hid (hK.block' (hb5.block' HO4.out) (by have := (Array.getElem?_eq_some_iff.1 HO4.out).1; omega) (by have := (Array.getElem?_eq_some_iff.1 HO4.out).1; omega))
      have HRr := Lib.hid (hK.block' (hb5.block' HR4.out) (by have := (Array.getElem?_eq_some_iff.1 HR4.out).1; omega) (by have := (Array.getElem?_eq_some_iff.1 HR4.out).1; omega))
      clear hM hBr
      have hix := run_index_arr _ _ _ uOwners uInt sInt o HO.out
      go_wp2_with (refine wpList_load_arr rfl _ _ rfl _ rfl _ o 8 HO.out HAr.out _ uOwners sOwners ?_)
      have hL6 : 2 * l.length < 140737488355328 := by omega
      have HC6 := Lib.hid (show CSt (w4.heap.size + 1) w1.heap.size w4.heap.size wr m (keepTo o (leftTo ys l.length) 0).1 wr from ⟨HMr.out, HOr.out, HBr.out, Kept2.refl _ _ _, rfl, leftTo_le ys (by rw [HYL.out]; exact hpos) _⟩)
      have hz6 : wr.heap.size = wr.heap.size := rfl
      have hBL : w4.heap.size + 1 < wr.heap.size := (Array.getElem?_eq_some_iff.1 HBr.out).1
      have hBO : w1.heap.size < wr.heap.size := (Array.getElem?_eq_some_iff.1 HOr.out).1
      have HLB6 : Hid (RdB w1.heap.size wr (.slice Al l.length cl) l) :=
        hrl.b.below (((hb3.bel.trans (hb4.mono hb3.size)).trans (hb5.bel.mono (by omega))).trans (hK.below (by omega) (by omega) (by omega)))
      have HB06 : Hid (Below w.heap.size w wr) :=
        ((((hb0.bel.trans (hbl.mono hb0.size)).trans (hb3.bel.mono (by have := hb0.size; omega))).trans (hb4.mono (by have := hb0.size; have := hb3.size; omega))).trans (hb5.bel.mono (by have := hb0.size; have := hb3.size; omega))).trans (hK.below (by have := hb0.size; have := hb3.size; omega) (by have := hb0.size; have := hb3.size; omega) (by have := hb0.size; have := hb3.size; omega))
      have hw01 : w.heap.size + 1 < w1.heap.size := (Array.getElem?_eq_some_iff.1 HR1.out).1
      clear hK hz6
      obtain ⟨w6, e6⟩ : ∃ w6, wr = w6 := ⟨_, rfl⟩
      rw [e6] at hBL hBO hsz HC6 HLB6 HB06 HMr HBr HAr HOr HRr ⊢
      clear e6
      go_loopw [12, 54] (fun a i wr => ∃ k q : Nat, k ≤ 8 ∧ q ≤ m + k ∧ i = .int .i64 k ∧ OwnI 3 w6.heap.size wr a (keepTo o (leftTo ys l.length) k).2 ∧ CSt (w4.heap.size + 1) w1.heap.size w4.heap.size w6 q (keepTo o (leftTo ys l.length) k).1 wr) (fun _ i _ => 8 - (intOf i).toNat)
      case atStart => exact ⟨0, m, by omega, by omega, rfl, OwnI.nil _ _ _, HC6.out⟩
      case round =>
        obtain ⟨k, q, hk, hq, rfl, hown, hC⟩ := hrel
        have hle := keepTo_le o (leftTo ys l.length) k
        have HLE := Lib.hid hle
        have hlen : (keepTo o (leftTo ys l.length) k).2.length ≤ k := hle.1
        clear hle
        have HC := Lib.hid hC
        have hsz6 : w6.heap.size ≤ wr.heap.size := hC.2.2.2.1.size
        clear hC
        by_cases hlt8 : k < 8
        · have hwn : WF (nth o k) := HOW.out k hlt8
          have hqm : q < maxLen := by simp only [maxLen]; omega
          by_cases hp : 0 < (keepTo o (leftTo ys l.length) k).1.1 (nth o k)
          · have HT := Lib.hid (take_yes k (nth o k) (w4.heap.size + 1) w1.heap.size w4.heap.size q _ _ (by rw [HC.out.2.2.2.2.1]; exact hlt8) HC.out.2.2.2.2.1 wr hwn ⟨by omega, by omega⟩ HC.out.2.2.1 HC.out.1 hqm HC.out.2.1 hp (Int.le_trans (HC.out.2.2.2.2.2 (nth o k)) (by decide)))
            have HKT := Lib.hid (keepTo_yes o (leftTo ys l.length) k hp)
            have HP := Lib.hid hp
            clear hp hwn hqm
            go_wp2_with (go_at_call 31; refine HT.out.mono ?_; rintro e w7 ⟨rfl, hT⟩; have HT7 := Lib.hid hT; clear hT)
            go_roundw
            case rel => exact ⟨k + 1, q + 1, by omega, by omega, by go_num, by rw [HKT.out]; exact hown.kept2 HT7.out.2.2.2 (by omega) (by omega), by rw [HKT.out]; exact HC.out.take k (nth o k) HP.out HT7.out.1 HT7.out.2.1 HT7.out.2.2.1 HT7.out.2.2.2⟩
            case measure => simp [intOf]; omega
          · have HT := Lib.hid (take_no k (nth o k) (w4.heap.size + 1) w1.heap.size w4.heap.size q _ wr hwn HC.out.2.2.1 HC.out.1 (by omega))
            have HKT := Lib.hid (keepTo_no o (leftTo ys l.length) k hp)
            clear hp hwn hqm
            go_wp2_with (first | (go_at_call 31; refine HT.out.mono ?_; rintro e w7 ⟨rfl, rfl⟩) | (at_builtin; refine wpList_append_int rfl _ _ _ rfl w6.heap.size _ uInts infoI wr _ _ rfl (by exact hown) k rfl (by omega) hsz6 ?_; intro v' w7 hown1 hg1 hb1 hne1))
            go_roundw
            case rel => exact ⟨k + 1, q, by omega, by omega, by go_num, by rw [HKT.out]; exact hown1, by rw [HKT.out]; exact HC.out.grown (c := w6.heap.size) (by omega) (by omega) (by omega) (Nat.le_refl _) hb1.bel⟩
            case measure => simp [intOf]; omega
        · obtain rfl : k = 8 := by omega
          have hro := hown.rd
          have HOP : Hid (∀ x ∈ (keepTo o (leftTo ys l.length) 8).2, 0 ≤ x ∧ x < 8) := fun x hx => HLE.out.2 x hx
          have HOWN := Lib.hid hown
          clear hown
          have HSP : Hid (claimW o l ys = (fillTo l (keepTo o (leftTo ys l.length) 8).1 (keepTo o (leftTo ys l.length) 8).2 (keepTo o (leftTo ys l.length) 8).2.length).2) := by
            show claimW o l ys = _
            rw [claimW, HYL.out]
          generalize (keepTo o (leftTo ys l.length) 8).2 = opens at *
          generalize (keepTo o (leftTo ys l.length) 8).1 = s0 at *
          obtain ⟨Ao, co, rfl, _⟩ := id hro
          go_wp2
          have hlo : opens.length ≤ 8 := hlen
          go_loopw [70] (fun i wr7 => ∃ k q : Nat, k ≤ opens.length ∧ q ≤ m + 8 + k ∧ i = .int .i64 k ∧ CSt (w4.heap.size + 1) w1.heap.size w4.heap.size w6 q (fillTo l s0 opens k) wr7 ∧ Kept2 w4.heap.size w1.heap.size wr wr7) (fun i _ => opens.length - (intOf i).toNat)
          case atStart => exact ⟨0, _, by omega, hq, rfl, HC.out, Kept2.refl _ _ _⟩
          case round =>
            obtain ⟨k, q, hk, hq7, rfl, hC7, hK7⟩ := hrel
            have HC7 := Lib.hid hC7
            clear hC7
            have hro7 := (HOWN.out.kept2 hK7 (by omega) (by omega)).rd
            by_cases hlt : k < opens.length
            · obtain ⟨bo, oo, rfl, co1⟩ := hro7.at_ k hlt
              have hpk := HOP.out _ (nth_mem opens k hlt)
              obtain ⟨pn, hpn⟩ : ∃ pn : Nat, nth opens k = (pn : Int) := ⟨(nth opens k).toNat, by omega⟩
              rw [hpn] at co1
              have hpn8 : pn < 8 := by omega
              have HPN := Lib.hid hpn
              clear hpn hpk
              go_wp2
              go_loop [76] (fun i => ∃ j : Nat, j ≤ l.length ∧ i = .int .i64 j ∧ ∀ i, i < j → ¬ 0 < (fillTo l s0 opens k).1 (nth l i)) (fun i => l.length - (intOf i).toNat)
              case atStart => exact ⟨0, Nat.zero_le _, rfl, fun i hi => absurd hi (Nat.not_lt_zero _)⟩
              case round =>
                obtain ⟨j, hj, rfl, hno⟩ := hrel
                have HNO := Lib.hid hno
                clear hno
                by_cases hltj : j < l.length
                · obtain ⟨bl, ol, rfl, _, cl1⟩ := (HLB6.out.below (HC7.out.2.2.2.1.below (by omega) (by omega) (Nat.le_refl _))).at_ j hltj
                  have hwn : WF (nth l j) := HW.out _ (nth_mem l j hltj)
                  have hqm : q < maxLen := by simp only [maxLen]; omega
                  by_cases hp : 0 < (fillTo l s0 opens k).1 (nth l j)
                  · have HT := Lib.hid (take_yes pn (nth l j) (w4.heap.size + 1) w1.heap.size w4.heap.size q _ _ (by rw [HC7.out.2.2.2.2.1]; exact hpn8) HC7.out.2.2.2.2.1 _ hwn ⟨by omega, by omega⟩ HC7.out.2.2.1 HC7.out.1 hqm HC7.out.2.1 hp (Int.le_trans (HC7.out.2.2.2.2.2 (nth l j)) (by decide)))
                    have HP := Lib.hid hp
                    have HF : Hid (fillTo l s0 opens (k + 1) = takeS (fillTo l s0 opens k) pn (nth l j)) := by
                      show fillOne l (fillTo l s0 opens k) (nth opens k).toNat = _
                      rw [HPN.out, Int.toNat_natCast, fillOne_yes l _ _ j hltj HNO.out hp]
                    clear hp hwn hqm
                    go_wp2_with (go_at_call 31; refine HT.out.mono ?_; rintro e w8 ⟨rfl, hT⟩; have HT8 := Lib.hid hT; clear hT)
                    go_roundw
                    case rel => ((repeat apply Exists.intro); exact ⟨⟨k + 1, q + 1, by omega, by omega, by go_num, by rw [HF.out]; exact HC7.out.take pn (nth l j) HP.out HT8.out.1 HT8.out.2.1 HT8.out.2.2.1 HT8.out.2.2.2, hK7.trans HT8.out.2.2.2⟩, rfl⟩)
                    case measure => simp [intOf]; omega
                  · have HT := Lib.hid (take_no pn (nth l j) (w4.heap.size + 1) w1.heap.size w4.heap.size q _ _ hwn HC7.out.2.2.1 HC7.out.1 (Int.not_lt.1 hp))
                    have HP := Lib.hid hp
                    clear hp hwn hqm
                    go_wp2_with (go_at_call 31; refine HT.out.mono ?_; rintro e w8 ⟨rfl, rfl⟩)
                    go_round
                    case rel => exact ⟨j + 1, by omega, by go_num, fun i hi => by rcases Nat.lt_succ_iff_lt_or_eq.1 hi with h | rfl; exact HNO.out i h; exact HP.out⟩
                    case measure => simp [intOf]; omega
                · obtain rfl : j = l.length := by omega
                  have HF : Hid (fillTo l s0 opens (k + 1) = fillTo l s0 opens k) := by
                    show fillOne l (fillTo l s0 opens k) (nth opens k).toNat = _
                    rw [fillOne_no l _ _ HNO.out]
                  go_wp2
                  go_roundw
                  case rel => exact ⟨k + 1, q, by omega, by omega, by go_num, by rw [HF.out]; exact HC7.out, hK7⟩
                  case measure => simp [intOf]; omega
            · obtain rfl : k = opens.length := by omega
              have HR7 := Lib.hid (HC7.out.2.2.2.1.block' HRr.out (by omega) (by omega))
              go_wp2_with (first | (refine wpList_load_arr rfl _ _ rfl _ rfl _ _ 8 HC7.out.2.2.2.2.1 HC7.out.2.1 _ uOwners sOwners ?_) | (refine wpList_store_arr rfl _ _ _ rfl (w.heap.size + 1) (fillTo l s0 opens opens.length).2 rfl rfl _ zeros8 8 HC7.out.2.2.2.2.1 rfl HR7.out sOwners ?_; intro w8 hg8 hk8))
              refine bodyPost_ret (results_cell_arr rfl _ _ (w.heap.size + 1) _ (fillTo l s0 opens opens.length).2 8 HC7.out.2.2.2.2.1 rfl hg8 _ uOwners sOwners) rfl ⟨?_, ?_⟩
              · rw [HL.out]; exact ⟨ys, HYS.out, by rw [HSP.out]⟩
              · exact (HB06.out.trans (HC7.out.2.2.2.1.below (by omega) (by omega) (by omega))).trans (hk8.below (by have := hK7.size; omega) (by omega) (by omega))
end Go.Proofs.YtalbdcpbdedfiaaDoor
