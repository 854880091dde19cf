/- Walks: ring.Owned, ring.Transfers. -/
import Derived.Test.YtalbdcpbdedfiaaDoorProg
import Derived.Test.YtalbdcpbdedfiaaDoorMk
import Derived.StillTailTactics
import Derived.BigQuiet
import Derived.Deep.RegionLaw
import Derived.Deep.QuietTactic
namespace Go.Proofs.YtalbdcpbdedfiaaDoor
open Go.RowKit

theorem infoI : (Tryd.prog.info? 3).map (fun i => (i.zero, i.size, i.bytes)) = some (some (.int .i64 0), 1, 8) := by kernel_rfl
theorem infoT : (Tryd.prog.info? 42).map (fun i => (i.zero, i.size, i.bytes)) = some (some (.agg #[.int .i64 0, .int .i64 0, .int .i64 0]), 3, 24) := by kernel_rfl
theorem uOwners : Tryd.prog.underlying 23 = some (.array 8 3) := by kernel_rfl
theorem uInt : Tryd.prog.underlying 3 = some (.int .i64) := by kernel_rfl
theorem uInts : Tryd.prog.underlying 24 = some (.slice 3) := by kernel_rfl
theorem uTransfers : Tryd.prog.underlying 38 = some (.slice 42) := by kernel_rfl
theorem sOwners : (Tryd.prog.info? 23).map (·.size) = some 8 := by kernel_rfl
theorem sInt : (Tryd.prog.info? 3).map (·.size) = some 1 := by kernel_rfl

/-! ### Owned -/
def ownedTo (o : List Int) (n : Int) (k : Nat) : List Int := (List.range k).filterMap fun p => if 0 < n ∧ nth o p = n then some (p : Int) else none
theorem ownedTo_hit (o : List Int) (n : Int) (k : Nat) (h0 : 0 < n) (h : nth o k = n) : ownedTo o n (k + 1) = ownedTo o n k ++ [(k : Int)] := by
  simp [ownedTo, List.range_succ, List.filterMap_append, h0, h]
theorem ownedTo_miss (o : List Int) (n : Int) (k : Nat) (h : ¬ (0 < n ∧ nth o k = n)) : ownedTo o n (k + 1) = ownedTo o n k := by
  simp [ownedTo, List.range_succ, List.filterMap_append, h]
theorem ownedTo_le (o : List Int) (n : Int) (k : Nat) : (ownedTo o n k).length ≤ k := by
  have := List.length_filterMap_le (fun p : Nat => if 0 < n ∧ nth o p = n then some (p : Int) else none) (List.range k)
  simpa [ownedTo] using this

set_option maxRecDepth 100000 in
set_option maxHeartbeats 400000 in
theorem Owned_any (o : List Int) (ho : o.length = 8) (n : Int) (w : World) :
    Calls Tryd.prog 8 #[.agg (ints o).toArray, .int .i64 n] w fun e w' => ∃ v, e = .returned v ∧ OwnI 3 w.heap.size w' v (ownedTo o n 8) ∧ Bel w.heap.size w w' := by
  have hix := run_index_arr _ _ _ uOwners uInt sInt o ho
  have Ho := Lib.hid ho
  clear ho
  go_enter Tryd.func8, Tryd.ntmps8
  go_wp2_with (refine wpList_load_arr rfl _ _ rfl _ rfl _ o 8 Ho.out (heap_alloc_new _ _) _ uOwners sOwners ?_)
  go_loopw [5, 9] (fun v i wr => ∃ k : Nat, k ≤ 8 ∧ i = .int .i64 k ∧ OwnI 3 w.heap.size wr v (ownedTo o n k) ∧ Bel w.heap.size w wr) (fun _ i _ => 8 - (intOf i).toNat)
  case atStart => exact ⟨0, by omega, rfl, OwnI.nil _ _ _, (Bel.refl _ _).alloc (Nat.le_refl _) _⟩
  case round =>
    obtain ⟨k, hk, rfl, hown, hb⟩ := hrel
    have hsz := hb.size
    have hl := ownedTo_le o n k
    go_wp2_with (at_builtin; refine wpList_append_int rfl _ _ _ rfl w.heap.size _ uInts infoI wr _ _ rfl (by exact hown) k rfl (by omega) hsz ?_; intro v' w1 hown1 hg1 hb1 hne1)
    · have h1 : 0 < n := by assumption
      have h2 : nth o k = n := by simpa using (by assumption : (nth o k == n) = true)
      go_wp2
      go_roundw
      case rel => exact ⟨k + 1, by omega, by go_num, by rw [ownedTo_hit o n k h1 h2]; exact hown1, hb.trans hb1⟩
      case measure => simp [intOf]; omega
    · have h2 : ¬ nth o k = n := by simpa using (by assumption : (nth o k == n) = false)
      go_roundw
      case rel => exact ⟨k + 1, by omega, by go_num, by rw [ownedTo_miss o n k (by omega)]; exact hown, hb⟩
      case measure => simp [intOf]; omega
    · have h2 : ¬ 0 < n := by assumption
      go_roundw
      case rel => exact ⟨k + 1, by omega, by go_num, by rw [ownedTo_miss o n k (by omega)]; exact hown, hb⟩
      case measure => simp [intOf]; omega
    · obtain rfl : k = 8 := by omega
      go_ret
      exact ⟨_, rfl, hown, hb⟩

/-! ### Transfers -/
/-- what moves: partition, from, to -/
def movesTo (a b : List Int) (k : Nat) : List (Int × Int × Int) := (List.range k).filterMap fun p => if nth a p ≠ nth b p ∧ 0 < nth a p ∧ 0 < nth b p then some ((p : Int), nth a p, nth b p) else none
def movs (l : List (Int × Int × Int)) : List Value := l.flatMap fun t => [.int .i64 t.1, .int .i64 t.2.1, .int .i64 t.2.2]
theorem movesTo_hit (a b : List Int) (k : Nat) (h : nth a k ≠ nth b k ∧ 0 < nth a k ∧ 0 < nth b k) : movesTo a b (k + 1) = movesTo a b k ++ [((k : Int), nth a k, nth b k)] := by
  simp [movesTo, List.range_succ, List.filterMap_append, h]
theorem movesTo_miss (a b : List Int) (k : Nat) (h : ¬ (nth a k ≠ nth b k ∧ 0 < nth a k ∧ 0 < nth b k)) : movesTo a b (k + 1) = movesTo a b k := by
  simp only [movesTo, List.range_succ, List.filterMap_append, List.filterMap_cons, List.filterMap_nil, if_neg h, List.append_nil]
theorem movesTo_le (a b : List Int) (k : Nat) : (movesTo a b k).length ≤ k := by
  have := List.length_filterMap_le (fun p : Nat => if nth a p ≠ nth b p ∧ 0 < nth a p ∧ 0 < nth b p then some ((p : Int), nth a p, nth b p) else none) (List.range k)
  simpa [movesTo] using this
theorem movs_one (a b c : Int) : movs [(a, b, c)] = [.int .i64 a, .int .i64 b, .int .i64 c] := rfl
theorem movs_append (l m : List (Int × Int × Int)) : movs (l ++ m) = movs l ++ movs m := by simp [movs]

set_option maxRecDepth 100000 in
set_option maxHeartbeats 400000 in
theorem Transfers_any (a b : List Int) (ha : a.length = 8) (hb : b.length = 8) (w : World) :
    Calls Tryd.prog 14 #[.agg (ints a).toArray, .agg (ints b).toArray] w fun e w' => ∃ v, e = .returned v ∧ w'.ownsRow w.heap.size 42 3 v (movesTo a b 8).length (movs (movesTo a b 8)) ∧ Bel w.heap.size w w' := by
  have Ha := Lib.hid ha
  have Hb := Lib.hid hb
  clear ha hb
  go_enter Tryd.func14, Tryd.ntmps14
  go_wp2
  have hA : ((w.alloc (Obj.cells (ints a).toArray 23)).alloc (Obj.cells (ints b).toArray 23)).heap[w.heap.size]? = some (Obj.cells (ints a).toArray 23 (0, 0)) := heap_alloc2_old w _ _
  have hB : ((w.alloc (Obj.cells (ints a).toArray 23)).alloc (Obj.cells (ints b).toArray 23)).heap[w.heap.size + 1]? = some (Obj.cells (ints b).toArray 23 (0, 0)) := heap_alloc2_new w _ _
  have hs0 : ((w.alloc (Obj.cells (ints a).toArray 23)).alloc (Obj.cells (ints b).toArray 23)).heap.size = w.heap.size + 2 := by simp
  have hb0 : Bel w.heap.size w ((w.alloc (Obj.cells (ints a).toArray 23)).alloc (Obj.cells (ints b).toArray 23)) := ((Bel.refl _ _).alloc (Nat.le_refl _) _).alloc (by simp) _
  generalize (w.alloc (Obj.cells (ints a).toArray 23)).alloc (Obj.cells (ints b).toArray 23) = w0 at *
  have HA := Lib.hid hA
  have HB := Lib.hid hB
  have HS0 := Lib.hid hs0
  clear hA hB hs0
  go_loopw [5, 7] (fun v i wr => ∃ k : Nat, k ≤ 8 ∧ i = .int .i64 k ∧ wr.ownsRow w0.heap.size 42 3 v (movesTo a b k).length (movs (movesTo a b k)) ∧ Bel w0.heap.size w0 wr) (fun _ i _ => 8 - (intOf i).toNat)
  case atStart => exact ⟨0, by omega, rfl, World.ownsRow_nil _ _ _ _, Bel.refl _ _⟩
  case round =>
    obtain ⟨k, hk, rfl, hown, hbl⟩ := hrel
    have hsz := hbl.size
    have hl := movesTo_le a b k
    by_cases hlt : k < 8
    · have ca : wr.cell? ⟨w.heap.size, k, none⟩ = some (.int .i64 (nth a k)) := by rw [cell_of_row _ _ _ _ _ _ (hbl.block' HA.out)]; simpa using ints_get a k (by rw [Ha.out]; exact hlt)
      have cb : wr.cell? ⟨w.heap.size + 1, k, none⟩ = some (.int .i64 (nth b k)) := by rw [cell_of_row _ _ _ _ _ _ (hbl.block' HB.out)]; simpa using ints_get b k (by rw [Hb.out]; exact hlt)
      by_cases e1 : nth a k = nth b k
      · have t1 : (nth a k != nth b k) = false := by simp [e1]
        have HM : Hid (¬ (nth a k ≠ nth b k ∧ 0 < nth a k ∧ 0 < nth b k)) := by intro h; exact h.1 e1
        clear e1
        go_wp2
        go_quiet (fail)
        go_wp2
        go_roundw
        case rel => exact ⟨k + 1, by omega, by go_num, by rw [movesTo_miss a b k HM.out]; exact hown, by repeat (first | exact hbl | apply Bel.drew | apply Bel.drewN)⟩
        case measure => simp [intOf]; omega
      have t1 : (nth a k != nth b k) = true := by simp [e1]
      by_cases e2 : 0 < nth a k
      · by_cases e3 : 0 < nth b k
        · have HM : Hid (nth a k ≠ nth b k ∧ 0 < nth a k ∧ 0 < nth b k) := ⟨e1, e2, e3⟩
          clear e1
          go_wp2
          go_quiet (fail)
          go_wp2
          go_region_law (refine step_append1 rfl _ _ _ rfl w0.heap.size _ (.agg #[.int .i64 0, .int .i64 0, .int .i64 0]) 3 24 uTransfers infoT rfl (by decide) (wr.drewN (nq + 1)) u5 _ _ rfl (by exact hown) #[.int .i64 k, .int .i64 (nth a k), .int .i64 (nth b k)] _ rfl rfl rfl (by simp [Value.oneCell']) (by omega) (by simp only [maxLen]; omega) hsz ?_; intro v' w1 hown1 hg1 hb1 hne1)
          all_goals
            clear hg1 hown
            go_wp2
            go_roundw
            case rel => exact ⟨k + 1, by omega, by go_num, by rw [movesTo_hit a b k HM.out, movs_append, movs_one]; simpa using hown1, hbl.trans (((Bel.refl _ _).drewN _).trans hb1)⟩
            case measure => simp [intOf]; omega
        · have t3 : decide (0 < nth b k) = false := by simpa using e3
          have HM : Hid (¬ (nth a k ≠ nth b k ∧ 0 < nth a k ∧ 0 < nth b k)) := by intro h; exact e3 h.2.2
          clear e1 e3
          go_wp2
          go_quiet (fail)
          go_wp2
          go_roundw
          case rel => exact ⟨k + 1, by omega, by go_num, by rw [movesTo_miss a b k HM.out]; exact hown, by repeat (first | exact hbl | apply Bel.drew | apply Bel.drewN)⟩
          case measure => simp [intOf]; omega
      · have t2 : decide (0 < nth a k) = false := by simpa using e2
        have HM : Hid (¬ (nth a k ≠ nth b k ∧ 0 < nth a k ∧ 0 < nth b k)) := by intro h; exact e2 h.2.1
        clear e1 e2
        go_wp2
        go_quiet (fail)
        go_wp2
        go_roundw
        case rel => exact ⟨k + 1, by omega, by go_num, by rw [movesTo_miss a b k HM.out]; exact hown, by repeat (first | exact hbl | apply Bel.drew | apply Bel.drewN)⟩
        case measure => simp [intOf]; omega
    · obtain rfl : k = 8 := by omega
      go_wp2
      go_ret
      exact ⟨_, rfl, ownsRow_mono hown (by rw [HS0.out]; omega), hb0.trans (hbl.mono (by rw [HS0.out]; omega))⟩
end Go.Proofs.YtalbdcpbdedfiaaDoor
