/- Walks: ring.walk, ring.Primaries. -/
import Derived.Test.YtalbdcpbdedfiaaDoorRwa
import Derived.Test.YtalbdcpbdedfiaaDoorLb
namespace Go.Proofs.YtalbdcpbdedfiaaDoor
open Go.RowKit

/-! ### walk -/
/-- the k-th owner from partition p on -/
def from_ (o : List Int) (p : Int) (k : Nat) : Int := nth o ((max p 0 + k) % 8).toNat
def walkTo (o : List Int) (p : Int) : Nat → List Int
  | 0 => []
  | k + 1 => if 0 < from_ o p k ∧ ¬ (walkTo o p k).contains (from_ o p k) then walkTo o p k ++ [from_ o p k] else walkTo o p k
theorem walkTo_le (o : List Int) (p : Int) (k : Nat) : (walkTo o p k).length ≤ k := by
  induction k with
  | zero => simp [walkTo]
  | succ k ih => unfold walkTo; split <;> simp_all <;> omega

set_option maxRecDepth 100000 in
set_option maxHeartbeats 400000 in
theorem walk_any (o : List Int) (ho : o.length = 8) (p : Int) (hp : p ≤ 9223372036854775807) (w : World) :
    Calls Tryd.prog 17 #[.agg (ints o).toArray, .int .i64 p] w fun e w' => ∃ v, e = .returned v ∧ OwnI 3 w.heap.size w' v (walkTo o p 8) ∧ Bel w.heap.size w w' := by
  have Ho := Lib.hid ho
  clear ho
  go_enter Tryd.func17, Tryd.ntmps17
  go_wp2
  have hA : (w.alloc (Obj.cells (ints o).toArray 23)).heap[w.heap.size]? = some (Obj.cells (ints o).toArray 23 (0, 0)) := heap_alloc_new w _
  have hs0 : (w.alloc (Obj.cells (ints o).toArray 23)).heap.size = w.heap.size + 1 := by simp
  have hb0 : Bel w.heap.size w (w.alloc (Obj.cells (ints o).toArray 23)) := (Bel.refl _ _).alloc (Nat.le_refl _) _
  generalize w.alloc (Obj.cells (ints o).toArray 23) = w0 at *
  have HA := Lib.hid hA
  have HS0 := Lib.hid hs0
  clear hA hs0
  go_loopw [5, 8] (fun v i wr => ∃ k : Nat, k ≤ 8 ∧ i = .int .i64 k ∧ OwnI 3 w0.heap.size wr v (walkTo o p k) ∧ Bel w0.heap.size w0 wr) (fun _ i _ => 8 - (intOf i).toNat)
  case atStart => exact ⟨0, by omega, rfl, OwnI.nil _ _ _, Bel.refl _ _⟩
  case round =>
    obtain ⟨k, hk, rfl, hown, hbl⟩ := hrel
    have hsz := hbl.size
    have hl := walkTo_le o p k
    by_cases hlt : k < 8
    · have hj : ((max p 0 + k) % 8).toNat < 8 := by omega
      have ca : wr.cell? ⟨w.heap.size, ((max p 0 + k) % 8).toNat, none⟩ = some (.int .i64 (from_ o p k)) := by
        rw [cell_of_row _ _ _ _ _ _ (hbl.block' HA.out), List.getElem?_toArray]; exact ints_get o _ (by rw [Ho.out]; exact hj)
      have hc := Contains_any u5 (walkTo o p k) (from_ o p k) wr hown.rd
      by_cases e1 : 0 < from_ o p k
      · by_cases e2 : (walkTo o p k).contains (from_ o p k) = true
        · have HW : Hid (walkTo o p (k + 1) = walkTo o p k) := by show walkTo o p (k + 1) = _; rw [walkTo, if_neg (fun h => h.2 e2)]
          rw [e2] at hc
          clear e2
          go_wp2_with (go_at_call 21; refine hc.mono ?_; rintro e w1 ⟨rfl, rfl⟩)
          go_roundw
          case rel => exact ⟨k + 1, by omega, by go_num, by rw [HW.out]; exact hown, hbl⟩
          case measure => simp [intOf]; omega
        · have HW : Hid (walkTo o p (k + 1) = walkTo o p k ++ [from_ o p k]) := by show walkTo o p (k + 1) = _; rw [walkTo, if_pos ⟨e1, e2⟩]
          rw [Bool.not_eq_true] at e2
          rw [e2] at hc
          clear e2
          go_wp2_with (first | (go_at_call 21; refine hc.mono ?_; rintro e w1 ⟨rfl, rfl⟩) | (at_builtin; refine wpList_append_int rfl _ _ _ rfl w0.heap.size _ uInts infoI wr _ _ rfl (by exact hown) (from_ o p k) rfl (by omega) hsz ?_; intro v' w1 hown1 hg1 hb1 hne1))
          go_roundw
          case rel => exact ⟨k + 1, by omega, by go_num, by rw [HW.out]; exact hown1, hbl.trans hb1⟩
          case measure => simp [intOf]; omega
      · have HW : Hid (walkTo o p (k + 1) = walkTo o p k) := by show walkTo o p (k + 1) = _; rw [walkTo, if_neg (by simp [e1])]
        clear hc
        go_wp2
        go_roundw
        case rel => exact ⟨k + 1, by omega, by go_num, by rw [HW.out]; exact hown, hbl⟩
        case measure => simp [intOf]; omega
    · obtain rfl : k = 8 := by omega
      go_wp2
      go_ret
      exact ⟨_, rfl, hown.mono (by rw [HS0.out]; omega), hb0.trans (hbl.mono (by rw [HS0.out]; omega))⟩

/-! ### Primaries -/
def primL (o : List Int) (p n : Int) : List Int := (walkTo o p 8).take (max n 0).toNat
set_option maxRecDepth 100000 in
set_option maxHeartbeats 400000 in
theorem Primaries_any (o : List Int) (ho : o.length = 8) (p n : Int) (hp : p ≤ 9223372036854775807) (hn : n ≤ 9223372036854775807) (w : World) :
    Calls Tryd.prog 6 #[.agg (ints o).toArray, .int .i64 p, .int .i64 n] w fun e w' => ∃ v, e = .returned v ∧ OwnI 3 w.heap.size w' v (primL o p n) ∧ Bel w.heap.size w w' := by
  have Ho := Lib.hid ho
  clear ho
  go_enter Tryd.func6, Tryd.ntmps6
  go_wp2_with (refine wpList_load_arr rfl _ _ rfl _ rfl _ o 8 Ho.out (heap_alloc_new _ _) _ uOwners sOwners ?_)
  have hw0 : Bel w.heap.size w (w.alloc (Obj.cells (ints o).toArray 23)) := (Bel.refl _ _).alloc (Nat.le_refl _) _
  refine (walk_any o Ho.out p hp _).mono ?_
  rintro e w1 ⟨v, rfl, hown, hb⟩
  have hl := walkTo_le o p 8
  obtain ⟨A, c, rfl, hm, hc, _⟩ := hown.rd
  go_wp2
  go_ret
  have h1 := hown.cut (min (max n 0) (walkTo o p 8).length).toNat (by omega)
  rw [take_int] at h1
  exact ⟨_, rfl, h1.mono hw0.size, hw0.then hw0.size hb⟩
end Go.Proofs.YtalbdcpbdedfiaaDoor
