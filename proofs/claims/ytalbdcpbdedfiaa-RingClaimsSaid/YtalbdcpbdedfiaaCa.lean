/- Walks: the reference's Owned and Transfers. -/
import Derived.Test.YtalbdcpbdedfiaaEw
namespace Go.Proofs.Ytalbdcpbdedfiaa
open Go.RowKit

set_option maxRecDepth 100000 in
set_option maxHeartbeats 400000 in
theorem RefOwned_any (o : List Int) (ho : o.length = 8) (n : Int) (w : World) :
    Calls Try.prog 26 #[.agg (ints o).toArray, .int .i64 n] w fun e w' => ∃ v, e = .returned v ∧ OwnI 3 w.heap.size w' v (ownedTo o n 8) ∧ Bel w.heap.size w w' := by
  have Ho := Lib.hid ho
  clear ho
  go_enter Try.func26, Try.ntmps26
  go_wp2
  have hA : (w.alloc (Obj.cells (ints o).toArray 23)).heap[w.heap.size]? = some (Obj.cells (ints o).toArray 23 (0, 0)) := heap_alloc_new w _
  have hs0 : (w.alloc (Obj.cells (ints o).toArray 23)).heap.size = w.heap.size + 1 := by simp
  have hb0 : Bel w.heap.size w (w.alloc (Obj.cells (ints o).toArray 23)) := (Bel.refl _ _).alloc (Nat.le_refl _) _
  generalize w.alloc (Obj.cells (ints o).toArray 23) = w0 at *
  have HA := Lib.hid hA
  have HS0 := Lib.hid hs0
  clear hA hs0
  go_loopw [5, 6] (fun v i wr => ∃ k : Nat, k ≤ 8 ∧ i = .int .i64 k ∧ OwnI 3 w0.heap.size wr v (ownedTo o n k) ∧ Bel w0.heap.size w0 wr) (fun _ i _ => 8 - (intOf i).toNat)
  case atStart => exact ⟨0, by omega, rfl, OwnI.nil _ _ _, Bel.refl _ _⟩
  case round =>
    obtain ⟨k, hk, rfl, hown, hb⟩ := hrel
    have hsz := hb.size
    have hl := ownedTo_le o n k
    by_cases hlt : k < 8
    · have cc := row_cell o (by rw [Ho.out]; exact hlt) (hb.block' HA.out)
      by_cases h1 : 0 < n
      · by_cases h2 : nth o k = n
        · have H2 := Lib.hid h2
          have H1 := Lib.hid h1
          go_wp2_with (at_builtin; refine wpList_append_int rfl _ _ _ rfl w0.heap.size _ uInts infoI wr _ _ rfl (by exact hown) k rfl (by omega) hsz ?_; intro v' w1 hown1 hg1 hb1 hne1)
          go_roundw
          case rel => exact ⟨k + 1, by omega, by go_num, by rw [ownedTo_hit o n k H1.out H2.out]; exact hown1, hb.trans hb1⟩
          case measure => simp [intOf]; omega
        · have H2 := Lib.hid h2
          go_wp2
          go_roundw
          case rel => exact ⟨k + 1, by omega, by go_num, by rw [ownedTo_miss o n k (fun h => H2.out h.2)]; exact hown, hb⟩
          case measure => simp [intOf]; omega
      · have H1 := Lib.hid h1
        go_wp2
        go_roundw
        case rel => exact ⟨k + 1, by omega, by go_num, by rw [ownedTo_miss o n k (fun h => H1.out h.1)]; exact hown, hb⟩
        case measure => simp [intOf]; omega
    · obtain rfl : k = 8 := by omega
      go_wp2
      go_ret
      exact ⟨_, rfl, ownsRow_mono hown (by rw [HS0.out]; omega), hb0.trans (hb.mono (by rw [HS0.out]; omega))⟩

set_option maxRecDepth 100000 in
set_option maxHeartbeats 400000 in
theorem RefTransfers_any (a b : List Int) (ha : a.length = 8) (hb : b.length = 8) (w : World) :
    Calls Try.prog 8 #[.agg (ints a).toArray, .agg (ints b).toArray] w fun e w' => ∃ v, e = .returned v ∧ w'.ownsRow w.heap.size 29 3 v (movesTo a b 8).length (movs (movesTo a b 8)) ∧ Bel w.heap.size w w' := by
  have Ha := Lib.hid ha
  have Hb := Lib.hid hb
  clear ha hb
  go_enter Try.func8, Try.ntmps8
  go_wp2
  have hA : ((w.alloc (Obj.cells (ints a).toArray 23)).alloc (Obj.cells (ints b).toArray 23)).heap[w.heap.size]? = some (Obj.cells (ints a).toArray 23 (0, 0)) := heap_alloc2_old w _ _
  have hB : ((w.alloc (Obj.cells (ints a).toArray 23)).alloc (Obj.cells (ints b).toArray 23)).heap[w.heap.size + 1]? = some (Obj.cells (ints b).toArray 23 (0, 0)) := heap_alloc2_new w _ _
  have hs0 : ((w.alloc (Obj.cells (ints a).toArray 23)).alloc (Obj.cells (ints b).toArray 23)).heap.size = w.heap.size + 2 := by simp
  have hb0 : Bel w.heap.size w ((w.alloc (Obj.cells (ints a).toArray 23)).alloc (Obj.cells (ints b).toArray 23)) := ((Bel.refl _ _).alloc (Nat.le_refl _) _).alloc (by simp) _
  generalize (w.alloc (Obj.cells (ints a).toArray 23)).alloc (Obj.cells (ints b).toArray 23) = w0 at *
  have HA := Lib.hid hA
  have HB := Lib.hid hB
  have HS0 := Lib.hid hs0
  clear hA hB hs0
  go_loopw [5, 6] (fun v i wr => ∃ k : Nat, k ≤ 8 ∧ i = .int .i64 k ∧ wr.ownsRow w0.heap.size 29 3 v (movesTo a b k).length (movs (movesTo a b k)) ∧ Bel w0.heap.size w0 wr) (fun _ i _ => 8 - (intOf i).toNat)
  case atStart => exact ⟨0, by omega, rfl, World.ownsRow_nil _ _ _ _, Bel.refl _ _⟩
  case round =>
    obtain ⟨k, hk, rfl, hown, hbl⟩ := hrel
    have hsz := hbl.size
    have hl := movesTo_le a b k
    by_cases hlt : k < 8
    · have ca : wr.cell? ⟨w.heap.size, k, none⟩ = some (.int .i64 (nth a k)) := by rw [cell_of_row _ _ _ _ _ _ (hbl.block' HA.out)]; simpa using ints_get a k (by rw [Ha.out]; exact hlt)
      have cb : wr.cell? ⟨w.heap.size + 1, k, none⟩ = some (.int .i64 (nth b k)) := by rw [cell_of_row _ _ _ _ _ _ (hbl.block' HB.out)]; simpa using ints_get b k (by rw [Hb.out]; exact hlt)
      by_cases e1 : nth a k = nth b k
      · have t1 : (nth a k != nth b k) = false := by simp [e1]
        have HM : Hid (¬ (nth a k ≠ nth b k ∧ 0 < nth a k ∧ 0 < nth b k)) := by intro h; exact h.1 e1
        clear e1
        go_wp2
        go_quiet (fail)
        go_wp2
        go_roundw
        case rel => exact ⟨k + 1, by omega, by go_num, by rw [movesTo_miss a b k HM.out]; exact hown, by repeat (first | exact hbl | apply Bel.drew | apply Bel.drewN)⟩
        case measure => simp [intOf]; omega
      have t1 : (nth a k != nth b k) = true := by simp [e1]
      by_cases e2 : 0 < nth a k
      · by_cases e3 : 0 < nth b k
        · have HM : Hid (nth a k ≠ nth b k ∧ 0 < nth a k ∧ 0 < nth b k) := ⟨e1, e2, e3⟩
          clear e1
          go_wp2
          go_quiet (fail)
          go_wp2
          go_region_law (refine step_append1 rfl _ _ _ rfl w0.heap.size _ (.agg #[.int .i64 0, .int .i64 0, .int .i64 0]) 3 24 uTransfers infoT rfl (by decide) (wr.drewN (nq + 1)) u5 _ _ rfl (by exact hown) #[.int .i64 k, .int .i64 (nth a k), .int .i64 (nth b k)] _ rfl rfl rfl (by simp [Value.oneCell']) (by omega) (by simp only [maxLen]; omega) hsz ?_; intro v' w1 hown1 hg1 hb1 hne1)
          all_goals
            clear hg1 hown
            go_wp2
            go_roundw
            case rel => exact ⟨k + 1, by omega, by go_num, by rw [movesTo_hit a b k HM.out, movs_append, movs_one]; simpa using hown1, hbl.trans (((Bel.refl _ _).drewN _).trans hb1)⟩
            case measure => simp [intOf]; omega
        · have t3 : decide (0 < nth b k) = false := by simpa using e3
          have HM : Hid (¬ (nth a k ≠ nth b k ∧ 0 < nth a k ∧ 0 < nth b k)) := by intro h; exact e3 h.2.2
          clear e1 e3
          go_wp2
          go_quiet (fail)
          go_wp2
          go_roundw
          case rel => exact ⟨k + 1, by omega, by go_num, by rw [movesTo_miss a b k HM.out]; exact hown, by repeat (first | exact hbl | apply Bel.drew | apply Bel.drewN)⟩
          case measure => simp [intOf]; omega
      · have t2 : decide (0 < nth a k) = false := by simpa using e2
        have HM : Hid (¬ (nth a k ≠ nth b k ∧ 0 < nth a k ∧ 0 < nth b k)) := by intro h; exact e2 h.2.1
        clear e1 e2
        go_wp2
        go_quiet (fail)
        go_wp2
        go_roundw
        case rel => exact ⟨k + 1, by omega, by go_num, by rw [movesTo_miss a b k HM.out]; exact hown, by repeat (first | exact hbl | apply Bel.drew | apply Bel.drewN)⟩
        case measure => simp [intOf]; omega
    · obtain rfl : k = 8 := by omega
      go_wp2
      go_ret
      exact ⟨_, rfl, ownsRow_mono hown (by rw [HS0.out]; omega), hb0.trans (hbl.mono (by rw [HS0.out]; omega))⟩
end Go.Proofs.Ytalbdcpbdedfiaa
