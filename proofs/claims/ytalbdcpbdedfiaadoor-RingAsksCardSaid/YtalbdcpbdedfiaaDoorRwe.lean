/- Walks: cmp.Or, ring.Claim's comparison. -/
import Derived.Test.YtalbdcpbdedfiaaDoorRwd
import Derived.Deep.RegionWith
namespace Go.Proofs.YtalbdcpbdedfiaaDoor
open Go.RowKit

def orI (x y : Int) : Int := if x = 0 then y else x
set_option maxRecDepth 100000 in
set_option maxHeartbeats 400000 in
theorem Or_two (b off : Nat) (x y : Int) (w : World) (h0 : w.cell? ⟨b, off, none⟩ = some (.int .i64 x)) (h1 : w.cell? ⟨b, off + 1, none⟩ = some (.int .i64 y)) :
    Calls Tryd.prog 29 #[.slice (some ⟨b, off, none⟩) 2 2] w fun e w' => e = .returned (.int .i64 (orI x y)) ∧ w = w' := by
  by_cases hx : x = 0
  · have t0 : (x != 0) = false := by simp [hx]
    have HX := Lib.hid hx
    clear hx
    by_cases hy : y = 0
    · have t1 : (y != 0) = false := by simp [hy]
      have HY := Lib.hid hy
      clear hy
      go_enter Tryd.func29, Tryd.ntmps29
      go_wp2
      go_rounds 3
      go_ret
      exact ⟨by rw [orI, if_pos HX.out, HY.out]; rfl, rfl⟩
    · have t1 : (y != 0) = true := by simp [hy]
      clear hy
      go_enter Tryd.func29, Tryd.ntmps29
      go_wp2
      go_rounds 2
      go_ret
      exact ⟨by rw [orI, if_pos HX.out]; rfl, rfl⟩
  · have t0 : (x != 0) = true := by simp [hx]
    have HX := Lib.hid hx
    clear hx
    go_enter Tryd.func29, Tryd.ntmps29
    go_wp2
    go_rounds 1
    go_ret
    exact ⟨by rw [orI, if_neg HX.out]; rfl, rfl⟩

theorem Or_new (x y : Int) (w : World) :
    Calls Tryd.prog 29 #[.slice (some ⟨w.heap.size, 0, none⟩) 2 2] (w.alloc (.cells #[.int .i64 x, .int .i64 y] 3)) fun e w' => e = .returned (.int .i64 (orI x y)) ∧ w.alloc (.cells #[.int .i64 x, .int .i64 y] 3) = w' :=
  Or_two w.heap.size 0 x y _ (cell_of_row _ _ _ _ _ _ (heap_alloc_new w _)) (cell_of_row _ _ _ _ _ _ (heap_alloc_new w _))

/-- the comparison of two members: who owns more first, then by numbers -/
def claimCmp (o : List Int) (a b : Int) : Int := orI (Lib.compareInt (cnt o b) (cnt o a)) (Lib.compareInt a b)

theorem Compare_any (x y : Int) (w : World) : Calls Tryd.prog 30 #[.int .i64 x, .int .i64 y] w fun e w' => e = .returned (.int .i64 (Lib.compareInt x y)) ∧ w = w' :=
  (Tryd.cmp_Compare_int x y w).mono fun _ _ ⟨he, hw⟩ => ⟨he, hw.symm⟩

set_option maxRecDepth 100000 in
set_option maxHeartbeats 1000000 in
theorem Claim1_any (o : List Int) (ho : o.length = 8) (a b : Int) (B : Nat) (w : World) (hB : w.heap[B]? = some (.cells (ints o).toArray 23 (0, 0))) :
    Calls Tryd.prog 28 #[.int .i64 a, .int .i64 b, .pointer (some ⟨B, 0, none⟩)] w fun e w' => e = .returned (.int .i64 (claimCmp o a b)) ∧ Bel w.heap.size w w' := by
  obtain ⟨o0, o1, o2, o3, o4, o5, o6, o7, rfl⟩ : ∃ o0 o1 o2 o3 o4 o5 o6 o7, o = [o0, o1, o2, o3, o4, o5, o6, o7] := by
    match o, ho with
    | [o0, o1, o2, o3, o4, o5, o6, o7], _ => exact ⟨_, _, _, _, _, _, _, _, rfl⟩
  have c0 : w.cell? ⟨B, 0, none⟩ = some (.int .i64 o0) := cell_of_row _ _ _ _ _ _ hB
  have c1 : w.cell? ⟨B, 1, none⟩ = some (.int .i64 o1) := cell_of_row _ _ _ _ _ _ hB
  have c2 : w.cell? ⟨B, 2, none⟩ = some (.int .i64 o2) := cell_of_row _ _ _ _ _ _ hB
  have c3 : w.cell? ⟨B, 3, none⟩ = some (.int .i64 o3) := cell_of_row _ _ _ _ _ _ hB
  have c4 : w.cell? ⟨B, 4, none⟩ = some (.int .i64 o4) := cell_of_row _ _ _ _ _ _ hB
  have c5 : w.cell? ⟨B, 5, none⟩ = some (.int .i64 o5) := cell_of_row _ _ _ _ _ _ hB
  have c6 : w.cell? ⟨B, 6, none⟩ = some (.int .i64 o6) := cell_of_row _ _ _ _ _ _ hB
  have c7 : w.cell? ⟨B, 7, none⟩ = some (.int .i64 o7) := cell_of_row _ _ _ _ _ _ hB
  clear hB
  go_enter Tryd.func28, Tryd.ntmps28
  go_wp2
  go_region_with (first | (go_at_call 8; refine (Owned_any [o0, o1, o2, o3, o4, o5, o6, o7] rfl _ _).mono ?_; rintro e w1 ⟨v1, rfl, ho1, hb1⟩; obtain ⟨A1, k1, rfl, _⟩ := ho1.rd; try (have d0 := hb1.cell' c0; have d1 := hb1.cell' c1; have d2 := hb1.cell' c2; have d3 := hb1.cell' c3; have d4 := hb1.cell' c4; have d5 := hb1.cell' c5; have d6 := hb1.cell' c6; have d7 := hb1.cell' c7)) | (go_at_call 30; refine (Compare_any _ _ _).mono ?_; rintro e w1 ⟨rfl, rfl⟩) | (go_at_call 29; refine (Or_new _ _ _).mono ?_; rintro e w1 ⟨rfl, rfl⟩))
  all_goals
    go_wp2
    go_ret
    exact ⟨rfl, (((Bel.refl w.heap.size w).drew.then' (by assumption)).then' hb1).alloc' _⟩
end Go.Proofs.YtalbdcpbdedfiaaDoor
