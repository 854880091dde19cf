/- Walks: ring.Claim's 'take'. -/
import Derived.Test.YtalbdcpbdedfiaaDoorRwe
import Derived.Test.YtalbdcpbdedfiaaDoorIt
import Derived.Test.YtalbdcpbdedfiaaDoorMp
namespace Go.Proofs.YtalbdcpbdedfiaaDoor
open Go.RowKit

theorem uMap : Tryd.prog.underlying 57 = some (.map 3 3) := by kernel_rfl
theorem zInt (w : World) : (zeroValue 3).run Tryd.prog w = .ok (.int .i64 0) w := by kernel_rfl
theorem ints_set (xs : List Int) (i : Nat) (x : Int) : (ints xs).toArray.setIfInBounds i (.int .i64 x) = (ints (xs.set i x)).toArray := by
  simp [ints, List.map_set]

set_option maxRecDepth 100000 in
set_option maxHeartbeats 400000 in
theorem take_no (p n : Int) (BL BO M k : Nat) (f : Int → Int) (w : World) (hn : WF n) (hL : w.heap[BL]? = some (.cells #[.map (some M)] 57 (0, 0))) (hM : MapI Tryd.prog 3 w M k f) (hf : f n ≤ 0) :
    Calls Tryd.prog 31 #[.int .i64 p, .int .i64 n, .pointer (some ⟨BL, 0, none⟩), .pointer (some ⟨BO, 0, none⟩)] w fun e w' => e = .returned (.bool false) ∧ w = w' := by
  have hc : w.cell? ⟨BL, 0, none⟩ = some (.map (some M)) := cell_of_row _ _ _ _ _ _ hL
  have hl := hM.lookup uInt uMap (zInt w) n hn
  clear hL hM
  generalize f n = y at *
  go_enter Tryd.func31, Tryd.ntmps31
  go_wp2
  go_ret
  exact ⟨rfl, rfl⟩

set_option maxRecDepth 100000 in
set_option maxHeartbeats 400000 in
theorem take_yes (p : Nat) (n : Int) (BL BO M k : Nat) (f : Int → Int) (out : List Int) (hp : p < out.length) (ho : out.length = 8) (w : World) (hn : WF n) (hne : BL ≠ M ∧ BL ≠ BO) (hL : w.heap[BL]? = some (.cells #[.map (some M)] 57 (0, 0))) (hM : MapI Tryd.prog 3 w M k f) (hk : k < maxLen)
    (hO : w.heap[BO]? = some (.cells (ints out).toArray 23 (0, 0))) (hf : 0 < f n) (hf2 : f n ≤ 100) :
    Calls Tryd.prog 31 #[.int .i64 p, .int .i64 n, .pointer (some ⟨BL, 0, none⟩), .pointer (some ⟨BO, 0, none⟩)] w fun e w' => e = .returned (.bool true) ∧ MapI Tryd.prog 3 w' M (k + 1) (upd f n (f n - 1)) ∧
      w'.heap[BO]? = some (.cells (ints (out.set p n)).toArray 23 (0, 0)) ∧ w'.heap[BL]? = some (.cells #[.map (some M)] 57 (0, 0)) ∧ Kept2 M BO w w' := by
  have hc : w.cell? ⟨BL, 0, none⟩ = some (.map (some M)) := cell_of_row _ _ _ _ _ _ hL
  have hl := hM.lookup uInt uMap (zInt w) n hn
  have hMO : M ≠ BO := by
    intro e
    have := hM.noCell 0
    rw [e, cell_of_row _ _ _ _ _ _ hO, List.getElem?_toArray, ints_get out 0 (by omega)] at this
    cases this
  obtain ⟨w1, hu, hM1, hg1, _⟩ := hM.update uInt uMap hk n (f n - 1) hn ⟨by omega, by omega⟩
  have hO1 : w1.heap[BO]? = some (.cells (ints out).toArray 23 (0, 0)) := (hg1.block BO (Array.getElem?_eq_some_iff.1 hO).1 (by simpa using fun e => hMO e.symm)).trans hO
  have hL1 : w1.heap[BL]? = some (.cells #[.map (some M)] 57 (0, 0)) := (hg1.block BL (Array.getElem?_eq_some_iff.1 hL).1 (by simpa using hne.1)).trans hL
  have co : w1.cell? ⟨BO, p, none⟩ = some (.int .i64 (nth out p)) := by rw [cell_of_row _ _ _ _ _ _ hO1, List.getElem?_toArray]; exact ints_get out p hp
  have cf : w1.frozen? ⟨BO, p, none⟩ = false := by simp [World.frozen?, hO1]
  have hp8 : p < 8 := by omega
  have HM := Lib.hid hM1
  have HO := Lib.hid hO1
  have HL := Lib.hid hL1
  have HMO := Lib.hid hMO
  have HO8 := Lib.hid ho
  clear hM1 hO1 hL1 hMO hL hM hO ho
  generalize f n = y at *
  go_enter Tryd.func31, Tryd.ntmps31
  go_wp2
  go_ret
  refine ⟨rfl, HM.out.kept (Below.heap_setCell _ _ _ _ HMO.out), ?_, ?_, (Kept2.of_grown hg1).setCell p _⟩
  · rw [heap_setCell_same _ _ _ _ _ _ HO.out, ints_set]
  · rw [Below.heap_setCell _ _ _ _ hne.2]; exact HL.out
end Go.Proofs.YtalbdcpbdedfiaaDoor
