/- The library's contracts (slices.Contains, Clone, Sort, Compact at int) in the words of YtalbdcpbdedfiaaDoorMk. -/
import Derived.Test.YtalbdcpbdedfiaaDoorShelf
import Derived.Test.YtalbdcpbdedfiaaDoorMk
import Derived.Lib.OwnBridge
import Derived.Shelf.SlicesE.DeleteFunc
namespace Go.Proofs.YtalbdcpbdedfiaaDoor
open Go.RowKit Go.Sort Go.Lib

theorem rd_cells {w : World} {b off : Nat} {xs : List Int} (h : ∀ j, j < xs.length → w.cell? ⟨b, off + j, none⟩ = some (.int .i64 (nth xs j))) : ∀ j, j < xs.length → w.cell? ⟨b, off + j, none⟩ = some (.int .i64 (xs.getD j 0)) := h

theorem Contains_any (v : Value) (xs : List Int) (x : Int) (w : World) (h : RdI w v xs) :
    Calls Tryd.prog 21 #[v, .int .i64 x] w fun e w' => e = .returned (.bool (xs.contains x)) ∧ w = w' := by
  obtain ⟨A, c, rfl, hm, hc, hr⟩ := h
  rcases Nat.eq_zero_or_pos xs.length with h0 | h0
  · obtain rfl : xs = [] := List.eq_nil_of_length_eq_zero h0
    exact (Tryd.slices_Contains_int_empty A c x w).mono fun _ _ ⟨he, hw⟩ => ⟨by simpa using he, hw.symm⟩
  · obtain ⟨b, off, rfl, hcell⟩ := hr h0
    exact (Tryd.slices_Contains_int b off xs.length c xs x w (Nat.le_refl _) (by simpa [maxLen] using hm) (rd_cells hcell)).mono fun _ _ ⟨he, hw⟩ => ⟨by simpa using he, hw.symm⟩

theorem Clone_any (v : Value) (xs : List Int) (w : World) (h : RdI w v xs) (hb : xs.length * 8 ≤ 140737488355328) :
    Calls Tryd.prog 40 #[v] w fun e w' => ∃ v', e = .returned v' ∧ OwnI 3 w.heap.size w' v' xs ∧ Below w.heap.size w w' := by
  obtain ⟨A, c, rfl, hm, hc, hr⟩ := h
  rcases Nat.eq_zero_or_pos xs.length with h0 | h0
  · obtain rfl : xs = [] := List.eq_nil_of_length_eq_zero h0
    cases A with
    | none => exact (Tryd.slices_Clone_int_nil 0 c w).mono fun _ _ ⟨he, hw⟩ => ⟨_, he, OwnI.nil _ _ _, hw ▸ Below.refl _ _⟩
    | some a => exact (Tryd.slices_Clone_int_zero a c w).mono fun _ _ ⟨v', he, ho, _, hb⟩ => ⟨v', he, ho, hb⟩
  · obtain ⟨b, off, rfl, hcell⟩ := hr h0
    exact (Tryd.slices_Clone_int b off xs.length c xs w (Nat.le_refl _) hb (rd_cells hcell)).mono fun _ _ ⟨v', he, ho, _, hb⟩ => ⟨v', he, by simpa [OwnI, ints] using ho, hb⟩

theorem own_grow {e B n size : Nat} {w : World} {v : Value} {cs : List Value} (h : w.ownsRow B e size v n cs) (os : Array Obj) : (grow w os).ownsRow B e size v n cs :=
  World.ownsRow.kept (row := none) h ⟨rfl, rfl, rfl, by simp [grow], fun i hi _ => by simp [grow, Array.getElem?_append, hi]⟩ (by cases v.ownBlock <;> simp)
theorem below_grow {B : Nat} {w0 w : World} (h : Below B w0 w) (hB : B ≤ w.heap.size) (os : Array Obj) : Below B w0 (grow w os) :=
  h.trans ⟨rfl, rfl, rfl, by simp [grow], fun k hk => by simp [grow, Array.getElem?_append, show k < w.heap.size by omega]⟩

/-- Go's order of numbers, sorted -/
def sorted (xs : List Int) : List Int := xs.mergeSort fun x y => decide (x ≤ y)
theorem sorted_nil : sorted [] = [] := by simp [sorted]
theorem sorted_length (xs : List Int) : (sorted xs).length = xs.length := List.length_mergeSort xs

theorem own_of_putRow {B g cap q k : Nat} {w : World} {xs ys zs : List Int} (h : OwnI 3 B w (.slice (some ⟨g, 0, none⟩) xs.length cap) xs) (hy : zs.length = xs.length) (hz : zs.take k = ys) (hk : ys.length = k) (hkn : k ≤ xs.length) :
    OwnI 3 B (putRow (Value.int .i64) (Sort.ahead w q) g 0 zs.toArray) (.slice (some ⟨g, 0, none⟩) ys.length cap) ys := by
  have h1 := ownsRow_putRow (q := q) (k := k) (ys := zs) (enc := Value.int .i64) h hy hkn
  rw [hz] at h1
  unfold OwnI
  rw [hk]
  exact h1
theorem compact_length_le (xs : List Int) : (Lib.compact xs).length ≤ xs.length := Lib.compact_length_le xs

/-! ### slices.DeleteFunc -/
theorem putCells_get (off : Nat) (d : Array Int) (c : Array Value) (j : Nat) (hj : j < d.size) (hc : off + j < c.size) : (putCells (Value.int .i64) off d c)[off + j]? = some (.int .i64 d[j]!) := by
  simp [putCells, Array.getElem?_mapIdx, Array.getElem?_eq_getElem hc, hj]
theorem putRow_block {enc : Int → Value} (w : World) (g off : Nat) (d : Array Int) (cur : Array Value) (E : Nat) (h : w.heap[g]? = some (.cells cur E (0, 0))) (q : Nat) :
    (putRow enc (Sort.ahead w q) g off d).heap[g]? = some (.cells (putCells enc off d cur) E (0, 0)) := by
  simp [putRow, mapBlock, Sort.ahead, Array.getElem?_modify, h, onCells]
theorem below_putRow' {enc : Int → Value} {B : Nat} {w0 w : World} {g off q : Nat} {d : Array Int} (h : Below B w0 w) (hg : B ≤ g) : Below B w0 (putRow enc (Sort.ahead w q) g off d) :=
  ⟨h.os, h.tape, h.output, by simpa [putRow, mapBlock, Sort.ahead] using h.size, fun k hk => by
    rw [← h.block k hk]
    simp only [putRow, mapBlock, Sort.ahead, Array.getElem?_modify]
    rw [if_neg (by omega)]⟩
theorem holds_of_at {E B : Nat} {w : World} {g off cap : Nat} {xs : List Int} (h : OwnAt E B w (.slice (some ⟨g, off, none⟩) xs.length cap) xs) :
    ∃ cur, B ≤ g ∧ w.heap[g]? = some (.cells cur E (0, 0)) ∧ xs.length ≤ cap ∧ cap ≤ maxLen ∧ (∀ j, j < xs.length → cur[off + j]? = some (.int .i64 (nth xs j))) ∧ Holds (Value.int .i64) w g off xs.toArray := by
  rcases h with ⟨e, _⟩ | ⟨g', off', cap', cur, e, hb, hh, hn, hm, hc⟩
  · injection e with e1 _ _; cases e1
  · injection e with e1 _ e3
    injection e1 with e1
    injection e1 with e1 e2
    subst e1 e2 e3
    refine ⟨cur, hb, hh, hn, hm, hc, fun j hj => ⟨?_, ?_⟩⟩
    · simp at hj
      rw [cell_of_row _ _ _ _ _ _ hh, hc j hj]
      simp [nth, List.getD_eq_getElem?_getD, hj]
    · simp [World.frozen?, hh]

theorem at_of_putRow {B g off cap q : Nat} {w : World} {xs zs ys : List Int} (h : OwnAt 3 B w (.slice (some ⟨g, off, none⟩) xs.length cap) xs) (hz : zs.length = xs.length) (hy : zs.take ys.length = ys) (hl : ys.length ≤ xs.length) :
    OwnAt 3 B (putRow (Value.int .i64) (Sort.ahead w q) g off zs.toArray) (.slice (some ⟨g, off, none⟩) ys.length cap) ys := by
  obtain ⟨cur, hB, hh, hn, hm, hc, _⟩ := holds_of_at h
  refine .inr ⟨g, off, cap, _, rfl, hB, putRow_block _ _ _ _ _ _ hh _, by omega, hm, fun j hj => ?_⟩
  have hsz : off + j < cur.size := (Array.getElem?_eq_some_iff.1 (hc j (by omega))).1
  rw [putCells_get _ _ _ _ (by simp; omega) hsz]
  have e : zs[j]? = ys[j]? := by rw [← hy, List.getElem?_take_of_lt hj]
  simp [nth, List.getD_eq_getElem?_getD, e]
theorem at_cases {E B : Nat} {w : World} {v : Value} {xs : List Int} (h : OwnAt E B w v xs) : (v = .slice none 0 0 ∧ xs = []) ∨ ∃ b off cap, v = .slice (some ⟨b, off, none⟩) xs.length cap := by
  rcases h with h | ⟨g, off, cap, cur, e, _⟩
  · exact .inl h
  · exact .inr ⟨_, _, _, e⟩

theorem Sort_any (B : Nat) (v : Value) (xs : List Int) (w : World) (h : OwnAt 3 B w v xs) (hn : xs.length < 4611686018427387904) :
    Calls Tryd.prog 42 #[v] w fun e w' => e = .returned (.tuple #[]) ∧ OwnAt 3 B w' v (sorted xs) ∧ Below B w w' := by
  rcases at_cases h with ⟨rfl, rfl⟩ | ⟨b, off, cap, rfl⟩
  · exact (Tryd.slices_Sort_int_none none 0 w).mono fun _ _ ⟨he, hw⟩ => ⟨he, by rw [hw, sorted_nil]; exact OwnAt.nil _ _ _, by rw [hw]; exact Below.refl _ _⟩
  · obtain ⟨cur, hB, hh, hnc, hm, hc, hH⟩ := holds_of_at h
    have hlt : b < w.heap.size := (Array.getElem?_eq_some_iff.1 hh).1
    refine (Tryd.slices_Sort_int b off cap xs w hH hlt hn).mono fun _ _ ⟨he, n, os, hw⟩ => ⟨he, ?_⟩
    subst hw
    have h1 := at_of_putRow (q := n) h (sorted_length xs) (List.take_of_length_le (Nat.le_refl _)) (by rw [sorted_length]; exact Nat.le_refl _)
    rw [sorted_length] at h1
    exact ⟨h1.kept (row := none) ⟨rfl, rfl, rfl, by simp [grow], fun i hi _ => by simp only [grow]; exact Array.getElem?_append_left hi⟩ (.inr (by simp [Value.ownBlock])), below_grow (below_putRow' (Below.refl _ _) hB) (by simp; omega) os⟩

theorem Compact_any (B : Nat) (v : Value) (xs : List Int) (w : World) (h : OwnAt 3 B w v xs) :
    Calls Tryd.prog 43 #[v] w fun e w' => ∃ v', e = .returned v' ∧ OwnAt 3 B w' v' (Lib.compact xs) ∧ Below B w w' := by
  rcases at_cases h with ⟨rfl, rfl⟩ | ⟨b, off, cap, rfl⟩
  · exact (Tryd.slices_Compact_int_empty none 0 w).mono fun _ _ ⟨he, hw⟩ => ⟨_, he, by rw [hw, show Lib.compact ([] : List Int) = [] from rfl]; exact OwnAt.nil _ _ _, by rw [hw]; exact Below.refl _ _⟩
  · obtain ⟨cur, hB, hh, hnc, hm, hc, hH⟩ := holds_of_at h
    have hbig : xs.length ≤ 9223372036854775807 := by simp only [maxLen] at hm; omega
    refine (Tryd.slices_Compact_int b off cap xs w hH hbig hnc).mono fun _ _ ⟨he, q, hw⟩ => ⟨_, he, ?_⟩
    subst hw
    have hl := compact_length_le xs
    exact ⟨at_of_putRow h (by simp; omega) (by simp) hl, below_putRow' (Below.refl _ _) hB⟩

theorem DeleteFunc_nil (A : Option Addr) (c : Nat) (f : Value) (w : World) :
    Calls Tryd.prog 19 #[.slice A 0 c, f] w fun e w' => e = .returned (.slice A 0 c) ∧ w = w' := by
  go_enter Tryd.func19, Tryd.ntmps19
  go_wp2
  go_rounds 1
  go_ret
  exact ⟨rfl, rfl⟩

set_option maxRecDepth 10000 in
theorem DeleteFunc_at (B : Nat) (v : Value) (xs : List Int) (w : World) (h : OwnAt 3 B w v xs) (p : Int → Bool) (g : Nat) (lb : Array Value)
    (eg : ∀ args w, (callFunc g args).run Tryd.prog w = .ok (.enter g args) w)
    (hp : ∀ W x, w.grownBy W v.ownBlock → FnGives Tryd.prog g lb #[.int .i64 x] (.bool (p x)) W) :
    Calls Tryd.prog 19 #[v, .func (.func g) #[] lb] w fun e w' => ∃ v', e = .returned v' ∧ OwnAt 3 B w' v' (xs.filter fun x => !p x) ∧ Below B w w' ∧ (∀ k, v'.ownBlock = some k → v.ownBlock = some k) := by
  by_cases hv : v = .slice none 0 0
  · subst hv
    rcases h with ⟨_, rfl⟩ | ⟨g, off, cap, cur, e, _⟩
    · exact (DeleteFunc_nil none 0 _ w).mono fun _ _ ⟨he, hw⟩ => ⟨_, he, hw ▸ OwnAt.nil _ _ _, hw ▸ Below.refl _ _, fun _ h => h⟩
    · injection e with e1 _ _; cases e1
  · obtain ⟨b, off, cap, rfl⟩ : ∃ b off cap, v = .slice (some ⟨b, off, none⟩) xs.length cap := by
      rcases h with ⟨e, _⟩ | ⟨g, off, cap, cur, e, _⟩
      · exact absurd e hv
      · exact ⟨_, _, _, e⟩
    obtain ⟨cur, hB, hh, hn, hm, hc, hH⟩ := holds_of_at h
    have hbig : xs.length ≤ 9223372036854775807 := by simp only [maxLen] at hm; omega
    refine (Tryd.slices_DeleteFunc (Value.int .i64) (fun _ => rfl) p g lb eg 0 Tryd.zeroValue3 b off cap xs.toArray w (fun W x hb => hp W x (grownBy_of_below hb _)) (fun n os dk x hs => hp _ x ?_) hH (by simpa using hbig) (by simpa using hn)).mono ?_
    · refine ⟨rfl, rfl, rfl, by simp [sortWorld, grow], fun k hk hne => ?_⟩
      simp only [sortWorld, grow]
      rw [Array.getElem?_append_left (by simpa using hk)]
      simp only [putRow, mapBlock, Sort.ahead, Array.getElem?_modify]
      rw [if_neg (by intro e; exact hne (by simp [Value.ownBlock, e]))]
    · rintro e w' ⟨he, q, rfl⟩
      have hle : (xs.filter fun x => !p x).length ≤ xs.length := List.length_filter_le _ _
      refine ⟨_, by simpa using he, ?_, below_putRow' (Below.refl _ _) hB, fun _ h => by simpa [Value.ownBlock] using h⟩
      exact at_of_putRow h (by simp; omega) (by simp) hle

/-! ### slices.SortFunc -/
theorem own_of_putRow' {B g cap q : Nat} {w : World} {xs ys : List Int} (h : OwnI 3 B w (.slice (some ⟨g, 0, none⟩) xs.length cap) xs) (hy : ys.length = xs.length) :
    OwnI 3 B (putRow (Value.int .i64) (Sort.ahead w q) g 0 ys.toArray) (.slice (some ⟨g, 0, none⟩) xs.length cap) ys := by
  have := own_of_putRow (q := q) (k := xs.length) h hy (List.take_of_length_le (Nat.le_of_eq hy)) hy (Nat.le_refl _)
  rw [hy] at this
  exact this
set_option maxRecDepth 10000 in
theorem SortFunc_any (B : Nat) (v : Value) (xs : List Int) (w : World) (h : OwnI 3 B w v xs) (hv : v ≠ .slice none 0 0) (hn : xs.length < 4611686018427387904) (cf : Int → Int → Int) (hO : SWO (Go.Proofs.ltOf cf)) (g : Nat) (cb : Array Value)
    (eg : ∀ args w, (callFunc g args).run Tryd.prog w = .ok (.enter g args) w)
    (hp : ∀ W x y, w.grownBy W v.ownBlock → Calls Tryd.prog g (#[.int .i64 x, .int .i64 y] ++ cb) W fun e w' => e = .returned (.int .i64 (cf x y)) ∧ Bel W.heap.size W w') :
    Calls Tryd.prog 45 #[v, .func (.func g) #[] cb] w fun e w' => e = .returned (.tuple #[]) ∧ ∃ ys, ys.Perm xs ∧ ys.Pairwise (fun a b => Go.Proofs.ltOf cf b a = false) ∧ OwnI 3 B w' v ys ∧ RowKit.Below B w w' := by
  obtain ⟨b, cap, rfl, hbg, hlt, hnc, hcm, _, hH⟩ := holds_of_ownsRow (enc := Value.int .i64) h hv
  have hgr : ∀ m os (dk : Array Int), w.grownBy (sortWorld (Value.int .i64) w b 0 m dk os) (some b) := by
    intro m os dk
    refine ⟨rfl, rfl, rfl, by simp [sortWorld, grow], fun k hk hne => ?_⟩
    simp only [sortWorld, grow]
    rw [Array.getElem?_append_left (by simpa using hk)]
    simp only [putRow, mapBlock, Sort.ahead, Array.getElem?_modify]
    rw [if_neg (by intro e; exact hne (by simp [e]))]
  refine (Tryd.slices_SortFunc (Value.int .i64) (fun _ => rfl) cf hO g cb b 0 cap xs.toArray w eg (fun m os dk hs x y => ?_) hH hlt (by simpa using hn)).mono ?_
  · refine (hp _ x y (hgr m os dk)).mono fun e w' ⟨he, hb⟩ => ⟨he, ?_⟩
    obtain ⟨q, os', hq⟩ := hb.grow
    exact ⟨q, os', hq⟩
  · rintro e w' ⟨he, d', n, os, hP, hS, rfl⟩
    have hsz : d'.size = xs.length := by simpa using hP.1
    have hl : d'.toList.length = xs.length := by simpa using hsz
    refine ⟨he, d'.toList, ?_, ?_, ?_, ?_⟩
    · have := hP.2.2
      rw [Array.extract_eq_self_of_le (by simp [hsz]), Array.extract_eq_self_of_le (by simp)] at this
      simpa using this
    · rw [List.pairwise_iff_getElem]
      intro i j hi hj hij
      have := hS i j (Nat.zero_le _) hij (by simpa [hsz] using hj)
      have e1 : d'[i]! = d'.toList[i] := by simp at hi; simp [hi]
      have e2 : d'[j]! = d'.toList[j] := by simp at hj; simp [hj]
      rw [← e1, ← e2]; exact this
    · have h1 := own_of_putRow' (q := n) h hl
      simp only [Array.toArray_toList] at h1
      exact own_grow h1 os
    · exact below_grow (below_putRow (RowKit.Below.refl _ _) hbg) (by have := hlt; simp; omega) os
end Go.Proofs.YtalbdcpbdedfiaaDoor
