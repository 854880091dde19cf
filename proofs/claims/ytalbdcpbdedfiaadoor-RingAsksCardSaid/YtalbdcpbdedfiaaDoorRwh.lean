/- Walks: what the chapter's examples tell (awake). -/
import Derived.Test.YtalbdcpbdedfiaaDoorRwg
import Derived.Test.YtalbdcpbdedfiaaDoorAe
namespace Go.Proofs.YtalbdcpbdedfiaaDoor
open Go.RowKit

instance (x : Int) : Decidable (WF x) := inferInstanceAs (Decidable (_ ∧ _))
theorem RdI_lit (E : TypeId) (w : World) (xs : List Int) (n : Nat) (hn : xs.length = n) (hm : n ≤ 4096) : RdI (w.alloc (.cells (ints xs).toArray E)) (.slice (some ⟨w.heap.size, 0, none⟩) n n) xs := by
  subst hn
  refine ⟨_, _, rfl, by simp only [maxLen]; omega, Nat.le_refl _, fun _ => ⟨w.heap.size, 0, rfl, fun j hj => ?_⟩⟩
  rw [cell_of_row _ _ _ _ _ _ (heap_alloc_new w _), Nat.zero_add, List.getElem?_toArray]
  exact ints_get xs j hj

theorem RdI.drew {w : World} {v : Value} {xs : List Int} (h : RdI w v xs) : RdI w.drew v xs := h

theorem cell_keep {w w' : World} {o : Obj} {p : Addr} {v : Value} (hb : Below (w.alloc o).drew.heap.size (w.alloc o).drew w') (hc : w.cell? p = some v) : w'.cell? p = some v := by
  have h1 := World.block_lt_of_cell? w p hc
  rw [hb.cell (show p.block < (w.alloc o).heap.size by simp; omega)]
  exact (World.cell?_of_block (w := w) (Below.heap_alloc w o _ h1)).trans hc

theorem cell_keep' {w w' : World} {o : Obj} {p : Addr} {v : Value} (hb : Below (w.alloc o).heap.size (w.alloc o) w') (hc : w.cell? p = some v) : w'.cell? p = some v := by
  have h1 := World.block_lt_of_cell? w p hc
  rw [hb.cell (show p.block < (w.alloc o).heap.size by simp; omega)]
  exact (World.cell?_of_block (w := w) (Below.heap_alloc w o _ h1)).trans hc
theorem block_keep {w w' : World} {o u : Obj} {k : Nat} (hb : Below (w.alloc o).heap.size (w.alloc o) w') (hc : w.heap[k]? = some u) : w'.heap[k]? = some u := by
  have h1 := (Array.getElem?_eq_some_iff.1 hc).1
  rw [hb.block k (by simp; omega), Below.heap_alloc w o _ h1]
  exact hc

theorem _root_.Go.RowKit.Below.after {B : Nat} {w w1 w2 : World} {o : Obj} (h : Below B w w1) (hB : B ≤ w1.heap.size) (k : Below (w1.alloc o).heap.size (w1.alloc o) w2) : Below B w w2 :=
  (h.alloc hB o).trans (k.mono (by simp; omega))

/-- sorted one way alone -/
theorem sorted_unique {l m n : List Int} (o : List Int) (hl : Sorted o l n) (hm : m.Perm n) (hs : m.Pairwise (fun a b => Go.Proofs.ltOf (claimCmp o) b a = false)) : l = m := by
  have key : ∀ a b, Go.Proofs.ltOf (claimCmp o) a b = true ↔ cnt o b < cnt o a ∨ (cnt o b = cnt o a ∧ a < b) := by
    intro a b
    unfold Go.Proofs.ltOf claimCmp orI Lib.compareInt
    rw [decide_eq_true_iff]
    repeat' split
    all_goals omega
  refine List.Perm.eq_of_pairwise (le := fun a b => Go.Proofs.ltOf (claimCmp o) b a = false) ?_ hl.2 hs (hl.1.trans hm.symm)
  intro a b _ _ h1 h2
  rw [← Bool.not_eq_true, key] at h1 h2
  omega

theorem sorted_of {xs ys : List Int} (h : ys.Perm xs) (hs : ys.Pairwise (fun a b => a ≤ b)) : sorted xs = ys := by
  refine List.Perm.eq_of_pairwise (le := fun a b : Int => a ≤ b) (fun a b _ _ h1 h2 => Int.le_antisymm h1 h2) ?_ hs ((List.mergeSort_perm xs _).trans h.symm)
  have := List.pairwise_mergeSort (le := fun x y : Int => decide (x ≤ y)) (fun a b c h1 h2 => by simp at *; omega) (fun a b => by simp; omega) xs
  exact this.imp (fun h => by simpa using h)

theorem those_ex (xs : List Int) (h : xs.Pairwise (fun a b => a < b)) (hp : ∀ x ∈ xs, 0 < x) : thoseL xs = Lib.compact xs := by
  have h1 : (xs.filter fun n => !decide (n ≤ 0)) = xs := by
    rw [List.filter_eq_self]
    intro x hx
    have := hp x hx
    simp; omega
  unfold thoseL
  rw [h1, sorted_of (List.Perm.refl _) (h.imp (fun h => Int.le_of_lt h))]

theorem Claim_ex1 (v : Value) (w : World) (hv : RdI w v [1, 2, 3, 4]) :
    Calls Tryd.prog 15 #[.agg (ints [1, 2, 3, 1, 2, 3, 1, 2]).toArray, v] w fun e w' => e = .returned (.agg (ints [1, 2, 3, 1, 2, 3, 4, 4]).toArray) ∧ Below w.heap.size w w' := by
  have ht : thoseL [1, 2, 3, 4] = [1, 2, 3, 4] := by rw [those_ex _ (by decide) (by decide)]; decide +kernel
  refine (Claim_some [1, 2, 3, 1, 2, 3, 1, 2] rfl (by decide +kernel) v [1, 2, 3, 4] w hv (by decide) (by rw [ht]; decide +kernel) (by rw [ht]; decide) (by rw [ht]; decide)).mono ?_
  rintro e w' ⟨⟨ys, hS, he⟩, hb⟩
  refine ⟨?_, hb⟩
  rw [ht] at hS he
  obtain rfl := sorted_unique (m := [1, 2, 3, 4]) _ hS (List.Perm.refl _) (by decide +kernel)
  rw [he, show claimW [1, 2, 3, 1, 2, 3, 1, 2] [1, 2, 3, 4] [1, 2, 3, 4] = [1, 2, 3, 1, 2, 3, 4, 4] from by decide +kernel]
theorem Claim_ex2 (v : Value) (w : World) (hv : RdI w v [1, 2, 3]) :
    Calls Tryd.prog 15 #[.agg (ints zeros8).toArray, v] w fun e w' => e = .returned (.agg (ints [1, 1, 1, 2, 2, 2, 3, 3]).toArray) ∧ Below w.heap.size w w' := by
  have ht : thoseL [1, 2, 3] = [1, 2, 3] := by rw [those_ex _ (by decide) (by decide)]; decide +kernel
  refine (Claim_some zeros8 rfl (by decide +kernel) v [1, 2, 3] w hv (by decide) (by rw [ht]; decide +kernel) (by rw [ht]; decide) (by rw [ht]; decide)).mono ?_
  rintro e w' ⟨⟨ys, hS, he⟩, hb⟩
  refine ⟨?_, hb⟩
  rw [ht] at hS he
  obtain rfl := sorted_unique (m := [1, 2, 3]) _ hS (List.Perm.refl _) (by decide +kernel)
  rw [he, show claimW zeros8 [1, 2, 3] [1, 2, 3] = [1, 1, 1, 2, 2, 2, 3, 3] from by decide +kernel]

def O1 : List Int := [1, 2, 3, 1, 2, 3, 1, 2]
theorem Bal_ex (v : Value) (w : World) (hv : RdI w v [1, 2, 3]) :
    Calls Tryd.prog 16 #[.agg (ints O1).toArray, v] w fun e w' => e = .returned (.bool true) ∧ Below w.heap.size w w' := by
  have ht : thoseL [1, 2, 3] = [1, 2, 3] := by rw [those_ex _ (by decide) (by decide)]; decide +kernel
  refine (Balanced_any O1 rfl v [1, 2, 3] w hv (by decide)).mono ?_
  rintro e w' ⟨he, hb⟩
  rw [ht, show balL O1 [1, 2, 3] = true from by decide +kernel] at he
  exact ⟨he, hb⟩
theorem Owned_ex (w : World) : Calls Tryd.prog 8 #[.agg (ints O1).toArray, .int .i64 1] w fun e w' => ∃ A c, e = .returned (.slice A 3 c) ∧ Bel w.heap.size w w' := by
  refine (Owned_any O1 rfl 1 w).mono ?_
  rintro e w' ⟨v, rfl, ho, hb⟩
  rw [show ownedTo O1 1 8 = [0, 3, 6] from by decide +kernel] at ho
  obtain ⟨A, c, rfl, _⟩ := ho.rd
  exact ⟨A, c, rfl, hb⟩
set_option maxRecDepth 100000 in
set_option maxHeartbeats 2000000 in
theorem awake_any (w : World) : Calls Tryd.prog 4 #[] w fun e w' => e = .returned (.bool true) ∧ Below w.heap.size w w' := by
  have q1 : ∀ w, (binOp .eql 23 (.agg (ints [1, 1, 1, 2, 2, 2, 3, 3]).toArray) (.agg #[.int .i64 1, .int .i64 1, .int .i64 1, .int .i64 2, .int .i64 2, .int .i64 2, .int .i64 3, .int .i64 3])).run Tryd.prog w = .ok (.bool true) w := fun w => run_eql_arr8 uOwners uInt sInt [1, 1, 1, 2, 2, 2, 3, 3] [1, 1, 1, 2, 2, 2, 3, 3] rfl rfl w
  have q2 : ∀ w, (binOp .eql 35 (.agg #[.int .i64 4, .int .i64 2]) (.agg #[.int .i64 4, .int .i64 2])).run Tryd.prog w = .ok (.bool true) w := fun _ => by kernel_rfl
  have q3 : ∀ w, (binOp .eql 42 (.agg #[.int .i64 6, .int .i64 1, .int .i64 4]) (.agg #[.int .i64 6, .int .i64 1, .int .i64 4])).run Tryd.prog w = .ok (.bool true) w := fun _ => by kernel_rfl
  go_enter Tryd.func4, Tryd.ntmps4
  go_wp2_with fail
  have hX : (w.alloc (Obj.cells (ints O1).toArray 23)).heap[w.heap.size]? = some (Obj.cells (ints O1).toArray 23 (0, 0)) := heap_alloc_new w _
  have hb0 : Bel w.heap.size w (w.alloc (Obj.cells (ints O1).toArray 23)) := (Bel.refl _ _).alloc (Nat.le_refl _) _
  change Calls _ _ _ (w.alloc (Obj.cells (ints O1).toArray 23)) _
  generalize w.alloc (Obj.cells (ints O1).toArray 23) = w0 at *
  refine (Primaries_any O1 rfl 2 3 (by decide) (by decide) w0).mono ?_
  rintro e w1 ⟨vf, rfl, hof, hbf⟩
  rw [show primL O1 2 3 = [3, 1, 2] from by decide +kernel] at hof
  have hrf := hof.rd
  have HX1 := Lib.hid (hbf.block' hX)
  have hb1 := hb0.then' hbf
  clear hof hX hbf hb0
  go_wp2_with fail
  refine (Sloppy_any [1, 2, 3, 4, 1, 2, 3, 4] rfl 0 3 (by decide) (by decide) _ [1, 3, 4] _ (RdI_lit 3 w1 [1, 3, 4] 3 rfl (by decide))).mono ?_
  rintro e w2 ⟨vs, rfl, hos, hbs⟩
  rw [show slopL [1, 2, 3, 4, 1, 2, 3, 4] 0 3 [1, 3, 4] = [(1, 1), (4, 2), (3, 3)] from by decide +kernel] at hos
  have hb2 : Below w.heap.size w w2 := (hb1.bel.alloc hb1.size _).trans (hbs.mono (by have := hb1.size; simp; omega))
  have hs12 : w1.heap.size ≤ w2.heap.size := by have := hbs.size; simp at this; omega
  have hX2 : w2.heap[w.heap.size]? = some (Obj.cells (ints O1).toArray 23 (0, 0)) :=
    (hbs.block _ (by have := (Array.getElem?_eq_some_iff.1 HX1.out).1; simp; omega)).trans ((Below.heap_alloc _ _ _ (Array.getElem?_eq_some_iff.1 HX1.out).1).trans HX1.out)
  have hrf2 : RdI w2 vf [3, 1, 2] := (hrf.alloc _).below hbs
  have x0 : w2.cell? ⟨w.heap.size, 0, none⟩ = some (.int .i64 1) := cell_of_row _ _ _ _ _ _ hX2
  have x1 : w2.cell? ⟨w.heap.size, 1, none⟩ = some (.int .i64 2) := cell_of_row _ _ _ _ _ _ hX2
  have x2 : w2.cell? ⟨w.heap.size, 2, none⟩ = some (.int .i64 3) := cell_of_row _ _ _ _ _ _ hX2
  have x3 : w2.cell? ⟨w.heap.size, 3, none⟩ = some (.int .i64 1) := cell_of_row _ _ _ _ _ _ hX2
  have x4 : w2.cell? ⟨w.heap.size, 4, none⟩ = some (.int .i64 2) := cell_of_row _ _ _ _ _ _ hX2
  have x5 : w2.cell? ⟨w.heap.size, 5, none⟩ = some (.int .i64 3) := cell_of_row _ _ _ _ _ _ hX2
  have x6 : w2.cell? ⟨w.heap.size, 6, none⟩ = some (.int .i64 1) := cell_of_row _ _ _ _ _ _ hX2
  have x7 : w2.cell? ⟨w.heap.size, 7, none⟩ = some (.int .i64 2) := cell_of_row _ _ _ _ _ _ hX2
  have HX2 := Lib.hid hX2
  have hlt2 : w.heap.size < w2.heap.size := (Array.getElem?_eq_some_iff.1 hX2).1
  clear hX2 hbs hrf
  go_wp2_with fail
  go_region_with (first | (go_at_call 15; refine (Claim_ex1 _ _ (RdI_lit 3 _ [1, 2, 3, 4] 4 rfl (by decide)).drew).mono ?_; rintro e w3 ⟨rfl, hb3⟩; have y0 := cell_keep hb3 x0; have y1 := cell_keep hb3 x1; have y2 := cell_keep hb3 x2; have y3 := cell_keep hb3 x3; have y4 := cell_keep hb3 x4; have y5 := cell_keep hb3 x5; have y6 := cell_keep hb3 x6; have y7 := cell_keep hb3 x7) | (go_at_call 14; refine (Transfers_any O1 [1, 2, 3, 1, 2, 3, 4, 4] rfl rfl _).mono ?_; rintro e w4 ⟨vt, rfl, hot, hb4⟩))
  all_goals
    have hmv : movesTo O1 [1, 2, 3, 1, 2, 3, 4, 4] 8 = [(6, 1, 4), (7, 2, 4)] := by decide +kernel
    rw [hmv] at hot
    have hb24 : Below w2.heap.size w2 w4 := (((Below.refl _ _).alloc (Nat.le_refl _) _).drew.trans (hb3.mono (by show w2.heap.size ≤ (w2.alloc _).heap.size; simp))).trans (hb4.bel.mono (by have h := hb3.size; have h' : (w2.alloc (Obj.cells #[Value.int IntKind.i64 1, Value.int IntKind.i64 2, Value.int IntKind.i64 3, Value.int IntKind.i64 4] 3)).heap.size ≤ w3.heap.size := h; simp at h'; omega))
    have HX4 := Lib.hid ((hb24.block _ hlt2).trans HX2.out)
    have hrf4 := hrf2.below hb24
    have hos4 := World.ownsRow.kept hos (grownBy_of_below hb24 none) (by cases vs.ownBlock <;> simp)
    have hb04 := hb2.trans (hb24.mono (Nat.le_of_lt hlt2))
    have hlt4 : w.heap.size < w4.heap.size := (Array.getElem?_eq_some_iff.1 HX4.out).1
    obtain ⟨Af, cf, rfl, _⟩ := id hrf4
    obtain ⟨bf, off, rfl, c0⟩ := hrf4.at_ 0 (by decide)
    obtain ⟨_, _, ee, c2⟩ := hrf4.at_ 2 (by decide)
    cases ee
    obtain ⟨gs, cs, rfl⟩ := ownsRow_succ (k := 2) hos4
    obtain ⟨gt, ct, rfl⟩ := ownsRow_succ (k := 1) hot
    have s2 : w4.cell? ⟨gs, 2, none⟩ = some (.int .i64 4) := World.ownsRow.cellAt hos4 2 (by decide)
    have s3 : w4.cell? ⟨gs, 3, none⟩ = some (.int .i64 2) := World.ownsRow.cellAt hos4 3 (by decide)
    have t0 : w4.cell? ⟨gt, 0, none⟩ = some (.int .i64 6) := World.ownsRow.cellAt hot 0 (by decide)
    have t1 : w4.cell? ⟨gt, 1, none⟩ = some (.int .i64 1) := World.ownsRow.cellAt hot 1 (by decide)
    have t2 : w4.cell? ⟨gt, 2, none⟩ = some (.int .i64 4) := World.ownsRow.cellAt hot 2 (by decide)
    have d0 : w4.cell? ⟨bf, off, none⟩ = some (.int .i64 3) := c0
    have d2 : w4.cell? ⟨bf, off + 2, none⟩ = some (.int .i64 2) := c2
    clear c0 c2 hot hos4 hrf4 hos hrf2 hmv x0 x1 x2 x3 x4 x5 x6 x7
    try clear y0 y1 y2 y3 y4 y5 y6 y7
    clear hb3 hb4 hb24 hb2 hb1 HX1 HX2
    go_wp2_with (first | (go_at_call 8; refine (Owned_ex _).mono ?_; rintro e w6 ⟨A6, c6, rfl, hb6⟩; have b0 := hb6.cell' a0; have b1 := hb6.cell' a1; have b2 := hb6.cell' a2; have b3 := hb6.cell' a3; have b4 := hb6.cell' a4; have b5 := hb6.cell' a5; have b6 := hb6.cell' a6; have b7 := hb6.cell' a7) | (go_at_call 16; refine (Bal_ex _ _ (RdI_lit 3 _ [1, 2, 3] 3 rfl (by decide))).mono ?_; rintro e w7 ⟨rfl, hb7⟩) | (go_at_call 15; refine (Claim_ex2 _ _ (RdI_lit 3 _ [1, 2, 3] 3 rfl (by decide))).mono ?_; rintro e w5 ⟨rfl, hb5⟩; have u0 := cell_keep' hb5 t0; have u1 := cell_keep' hb5 t1; have u2 := cell_keep' hb5 t2; have hX5 := block_keep hb5 HX4.out; have a0 : w5.cell? ⟨w.heap.size, 0, none⟩ = some (.int .i64 1) := cell_of_row _ _ _ _ _ _ hX5; have a1 : w5.cell? ⟨w.heap.size, 1, none⟩ = some (.int .i64 2) := cell_of_row _ _ _ _ _ _ hX5; have a2 : w5.cell? ⟨w.heap.size, 2, none⟩ = some (.int .i64 3) := cell_of_row _ _ _ _ _ _ hX5; have a3 : w5.cell? ⟨w.heap.size, 3, none⟩ = some (.int .i64 1) := cell_of_row _ _ _ _ _ _ hX5; have a4 : w5.cell? ⟨w.heap.size, 4, none⟩ = some (.int .i64 2) := cell_of_row _ _ _ _ _ _ hX5; have a5 : w5.cell? ⟨w.heap.size, 5, none⟩ = some (.int .i64 3) := cell_of_row _ _ _ _ _ _ hX5; have a6 : w5.cell? ⟨w.heap.size, 6, none⟩ = some (.int .i64 1) := cell_of_row _ _ _ _ _ _ hX5; have a7 : w5.cell? ⟨w.heap.size, 7, none⟩ = some (.int .i64 2) := cell_of_row _ _ _ _ _ _ hX5; clear hX5))
    go_ret
    have h5 := hb04.after hb04.size hb5
    exact ⟨rfl, (h5.trans (hb6.bel.mono h5.size)).after (by have := hb6.size; have := h5.size; omega) hb7⟩
end Go.Proofs.YtalbdcpbdedfiaaDoor
