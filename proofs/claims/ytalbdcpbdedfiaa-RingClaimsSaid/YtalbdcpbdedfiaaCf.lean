/- Walks: the law RingClaims. -/
import Derived.Test.YtalbdcpbdedfiaaCe
import Derived.Test.YtalbdcpbdedfiaaEw
namespace Go.Proofs.Ytalbdcpbdedfiaa
open Go.RowKit

/-- what a claim comes to, told once for both -/
def cR (o l : List Int) : List Int := if l = [] then zeros8 else claimR o l
theorem cR_len (o xs : List Int) : (cR o (thoseL xs)).length = 8 := by
  unfold cR
  split
  · rfl
  · have hf : ∀ n, n ∉ thoseL xs → fR o (thoseL xs) n ≤ 0 := fun n hn => by rw [fR_out _ _ n hn]; exact Int.le_refl _
    have hnn : ∀ n ∈ thoseL xs, 0 ≤ fR o (thoseL xs) n := fun n _ => (fR_bd _ _ n).1
    unfold claimR
    rw [keepR_eq o _ _ (those_zero _) hf hnn 8 (Nat.le_refl _)]
    exact (fillR_eq _ _ (those_zero _) (keep_inv o _ _ (those_zero _) hf hnn 8 (Nat.le_refl _)).inv.len 8 (Nat.le_refl _)).2.1
theorem Claim8c (o : List Int) (ho : o.length = 8) (hoW : ∀ j, j < 8 → WF (nth o j)) (v : Value) (xs : List Int) (w : World) (hv : RdI w v xs) (hn : xs.length * 8 ≤ 140737488351232) (hxW : ∀ x ∈ xs, WF x) (c : List Int) (hc : cR o (thoseL xs) = c) :
    Calls Try.prog 9 #[.agg #[.int .i64 (nth o 0), .int .i64 (nth o 1), .int .i64 (nth o 2), .int .i64 (nth o 3), .int .i64 (nth o 4), .int .i64 (nth o 5), .int .i64 (nth o 6), .int .i64 (nth o 7)], v] w fun e w' =>
      e = .returned (.agg #[.int .i64 (nth c 0), .int .i64 (nth c 1), .int .i64 (nth c 2), .int .i64 (nth c 3), .int .i64 (nth c 4), .int .i64 (nth c 5), .int .i64 (nth c 6), .int .i64 (nth c 7)]) ∧ Below w.heap.size w w' := by
  have hl := cR_len o xs
  rw [hc] at hl
  by_cases h0 : thoseL xs = []
  · have h := Claim_none o v xs w hv hn h0
    rw [ints8 o ho] at h
    refine h.mono ?_
    rintro e w' ⟨rfl, hb⟩
    have : c = zeros8 := by rw [← hc, cR, if_pos h0]
    subst this
    exact ⟨rfl, hb⟩
  · have h := Claim_some o ho hoW v xs w hv hn (fun x hx => hxW x ((those_mem _ _).1 hx).1) h0 (those_le _)
    rw [ints8 o ho] at h
    refine h.mono ?_
    rintro e w' ⟨⟨ys, hS, rfl⟩, hb⟩
    have : claimW o (thoseL xs) ys = c := by rw [← hc, cR, if_neg h0]; exact claimR_eq (those_nodup _) (those_zero _) hS
    rw [this, ints8 c hl]
    exact ⟨rfl, hb⟩
theorem RefClaim8c (o : List Int) (ho : o.length = 8) (v : Value) (xs : List Int) (w : World) (hv : RdI w v xs) (hn : xs.length * 8 ≤ 140737488351232) (c : List Int) (hc : cR o (thoseL xs) = c) :
    Calls Try.prog 10 #[.agg #[.int .i64 (nth o 0), .int .i64 (nth o 1), .int .i64 (nth o 2), .int .i64 (nth o 3), .int .i64 (nth o 4), .int .i64 (nth o 5), .int .i64 (nth o 6), .int .i64 (nth o 7)], v] w fun e w' =>
      e = .returned (.agg #[.int .i64 (nth c 0), .int .i64 (nth c 1), .int .i64 (nth c 2), .int .i64 (nth c 3), .int .i64 (nth c 4), .int .i64 (nth c 5), .int .i64 (nth c 6), .int .i64 (nth c 7)]) ∧ Below w.heap.size w w' := by
  have hl := cR_len o xs
  rw [hc] at hl
  by_cases h0 : thoseL xs = []
  · have h := RefClaim_none o v xs w hv hn h0
    rw [ints8 o ho] at h
    refine h.mono ?_
    rintro e w' ⟨rfl, hb⟩
    have : c = zeros8 := by rw [← hc, cR, if_pos h0]
    subst this
    exact ⟨rfl, hb⟩
  · have h := RefClaim_some o ho v xs w hv hn h0
    rw [ints8 o ho] at h
    refine h.mono ?_
    rintro e w' ⟨rfl, hb⟩
    have : claimR o (thoseL xs) = c := by rw [← hc, cR, if_neg h0]
    rw [this, ints8 c hl]
    exact ⟨rfl, hb⟩
theorem RefBalanced8v (o : List Int) (ho : o.length = 8) (v : Value) (xs : List Int) (w : World) (hv : RdI w v xs) (hn : xs.length * 8 ≤ 140737488351232) (b : Bool) (hbal : balL o (thoseL xs) = b) :
    Calls Try.prog 12 #[.agg #[.int .i64 (nth o 0), .int .i64 (nth o 1), .int .i64 (nth o 2), .int .i64 (nth o 3), .int .i64 (nth o 4), .int .i64 (nth o 5), .int .i64 (nth o 6), .int .i64 (nth o 7)], v] w fun e w' => e = .returned (.bool b) ∧ Below w.heap.size w w' := by
  have h := RefBalanced_any o ho v xs w hv hn
  rw [← bal_same ho (those_nodup _) (fun n hn => ((those_mem _ _).1 hn).2), hbal, ints8 o ho] at h
  exact h
theorem below_drewN {B : Nat} {a w : World} (h : Below B a w) (n : Nat) : Below B a (w.drewN n) := ⟨h.os, h.tape, h.output, h.size, h.block⟩
theorem movs_get : ∀ (l : List (Int × Int × Int)) (i : Nat), i < l.length → ∃ a b c : Int, (movs l)[i * 3]? = some (.int .i64 a) ∧ (movs l)[i * 3 + 1]? = some (.int .i64 b) ∧ (movs l)[i * 3 + 2]? = some (.int .i64 c)
  | [], i, h => by simp at h
  | t :: l, 0, _ => ⟨t.1, t.2.1, t.2.2, rfl, rfl, rfl⟩
  | t :: l, i + 1, h => by
    obtain ⟨a, b, c, h1, h2, h3⟩ := movs_get l i (by simpa using h)
    refine ⟨a, b, c, ?_, ?_, ?_⟩
    · rw [show (i + 1) * 3 = i * 3 + 3 by omega]; exact h1
    · rw [show (i + 1) * 3 + 1 = i * 3 + 1 + 3 by omega]; exact h2
    · rw [show (i + 1) * 3 + 2 = i * 3 + 2 + 3 by omega]; exact h3

set_option maxRecDepth 100000 in
set_option maxHeartbeats 4000000 in
theorem RingClaims_any (o : List Int) (ho : o.length = 8) (hoW : ∀ j, j < 8 → WF (nth o j)) (vm : Value) (xs : List Int) (d : List Int) (hd : d.length = 8) (w : World) (hm : RdI w vm xs) (hxW : ∀ x ∈ xs, WF x) (hn : xs.length * 8 ≤ 140737488351232) :
    Calls Try.prog 3 #[.agg (ints o).toArray, vm, .agg (ints d).toArray] w fun e w' => e = .returned (.bool true) ∧ Below w.heap.size w w' := by
  obtain ⟨Am, cm, rfl, hlm, hlc, _⟩ := id hm
  unfold maxLen at hlm
  have HO := Lib.hid ho
  have HOW := Lib.hid hoW
  have HD := Lib.hid hd
  have HXW := Lib.hid hxW
  clear ho hoW hd hxW
  go_enter Try.func3, Try.ntmps3
  go_wp2_with fail
  have hA : ((w.alloc (Obj.cells (ints o).toArray 23)).alloc (Obj.cells (ints d).toArray 23)).heap[w.heap.size]? = some (Obj.cells (ints o).toArray 23 (0, 0)) := heap_alloc2_old w _ _
  have hB : ((w.alloc (Obj.cells (ints o).toArray 23)).alloc (Obj.cells (ints d).toArray 23)).heap[w.heap.size + 1]? = some (Obj.cells (ints d).toArray 23 (0, 0)) := heap_alloc2_new w _ _
  have hb0 : Bel w.heap.size w ((w.alloc (Obj.cells (ints o).toArray 23)).alloc (Obj.cells (ints d).toArray 23)) := ((Bel.refl _ _).alloc (Nat.le_refl _) _).alloc (by simp) _
  change Calls _ _ _ ((w.alloc (Obj.cells (ints o).toArray 23)).alloc (Obj.cells (ints d).toArray 23)) _
  generalize (w.alloc (Obj.cells (ints o).toArray 23)).alloc (Obj.cells (ints d).toArray 23) = w0 at *
  refine (awake_any w0).mono ?_
  rintro e w1 ⟨rfl, hb1⟩
  have HA1 := Lib.hid (blk hb1 hA)
  have HB1 := Lib.hid (blk hb1 hB)
  have hbW1 := hb0.bel.trans (hb1.mono hb0.size)
  have hm1 := (hm.below hb0.bel).below hb1
  clear hA hB hb0 hb1
  go_wp2_with (first | (refine wpList_load_arr rfl _ _ rfl _ rfl _ o 8 HO.out HA1.out _ uOwners sOwners ?_) | (refine wpList_load_arr rfl _ _ rfl _ rfl _ d 8 HD.out HB1.out _ uOwners sOwners ?_))
  refine (Transfers_any o d HO.out HD.out _).mono ?_
  rintro e w2 ⟨vt, rfl, hot, hb2⟩
  have HA2 := Lib.hid (blk hb2.bel HA1.out)
  have HB2 := Lib.hid (blk hb2.bel HB1.out)
  have hbW2 := hbW1.trans (hb2.bel.mono hbW1.size)
  have hm2 := hm1.below hb2.bel
  go_wp2_with (first | (refine wpList_load_arr rfl _ _ rfl _ rfl _ o 8 HO.out HA2.out _ uOwners sOwners ?_) | (refine wpList_load_arr rfl _ _ rfl _ rfl _ d 8 HD.out HB2.out _ uOwners sOwners ?_))
  refine (RefTransfers_any o d HO.out HD.out _).mono ?_
  rintro e w3 ⟨vu, rfl, hou, hb3⟩
  have HA3 := Lib.hid (blk hb3.bel HA2.out)
  have hbW3 := hbW2.trans (hb3.bel.mono hbW2.size)
  have hm3 := hm2.below hb3.bel
  have hot3 := World.ownsRow.kept hot (grownBy_of_below hb3.bel none) (by cases vt.ownBlock <;> simp)
  have hlt8 := movesTo_le o d 8
  have hmg := movs_get (movesTo o d 8)
  have HMG := Lib.hid hmg
  clear hmg hot hb2 hb3 hm1 hm2 hbW1 hbW2
  generalize movesTo o d 8 = ml at *
  obtain ⟨At, ct, rfl⟩ := row_slice hot3
  obtain ⟨Au, cu, rfl⟩ := row_slice hou
  go_wp2
  go_loopw [10] (fun i wr => ∃ k : Nat, k ≤ ml.length ∧ i = .int .i64 k ∧ Below w3.heap.size w3 wr) (fun i _ => ml.length - (intOf i).toNat)
  case atStart => exact ⟨0, Nat.zero_le _, rfl, Below.refl _ _⟩
  case round =>
    obtain ⟨k, hk, rfl, hb4⟩ := hrel
    by_cases hlt : k < ml.length
    · obtain ⟨gt, rfl, hct⟩ := row_at (World.ownsRow.kept hot3 (grownBy_of_below hb4 none) (by cases (Value.slice At ml.length ct).ownBlock <;> simp)) (by omega)
      obtain ⟨gu, rfl, hcu⟩ := row_at (World.ownsRow.kept hou (grownBy_of_below hb4 none) (by cases (Value.slice Au ml.length cu).ownBlock <;> simp)) (by omega)
      obtain ⟨x, y, z, h1, h2, h3⟩ := HMG.out k hlt
      have t1 := (hct (k * 3) (by omega)).trans h1
      have t2 := (hct (k * 3 + 1) (by omega)).trans h2
      have t3 := (hct (k * 3 + 2) (by omega)).trans h3
      have u1 := (hcu (k * 3) (by omega)).trans h1
      have u2 := (hcu (k * 3 + 1) (by omega)).trans h2
      have u3 := (hcu (k * 3 + 2) (by omega)).trans h3
      clear hct hcu h1 h2 h3
      go_wp2
      go_quiet (fail)
      go_wp2
      go_roundw
      case rel => exact ⟨k + 1, by omega, by go_num, below_drewN hb4 _⟩
      case measure => simp [intOf]; omega
    · obtain rfl : k = ml.length := by omega
      obtain ⟨w4, hw4⟩ : ∃ V, V = wr := ⟨wr, rfl⟩
      subst hw4
      have HA4 := Lib.hid (blk hb4 HA3.out)
      have hbW4 := hbW3.trans (hb4.mono hbW3.size)
      have hm4 := hm3.below hb4
      obtain ⟨x0, x1, x2, x3, x4, x5, x6, x7⟩ := cells8 o HO.out HA4.out
      clear hot3 hou hbW3 hm3 hb4
      obtain ⟨c, hc⟩ : ∃ c, cR o (thoseL xs) = c := ⟨_, rfl⟩
      have HC := Lib.hid hc
      have HCL : Hid (c.length = 8) := by show c.length = 8; rw [← hc]; exact cR_len o xs
      clear hc
      have q : ∀ W, (binOp .eql 23 (.agg #[.int .i64 (nth c 0), .int .i64 (nth c 1), .int .i64 (nth c 2), .int .i64 (nth c 3), .int .i64 (nth c 4), .int .i64 (nth c 5), .int .i64 (nth c 6), .int .i64 (nth c 7)]) (.agg #[.int .i64 (nth c 0), .int .i64 (nth c 1), .int .i64 (nth c 2), .int .i64 (nth c 3), .int .i64 (nth c 4), .int .i64 (nth c 5), .int .i64 (nth c 6), .int .i64 (nth c 7)])).run Try.prog W = .ok (.bool true) W := fun W => by
        have h := run_eql_arr8 (P := Try.prog) uOwners uInt sInt c c HCL.out HCL.out W
        rw [ints8 c HCL.out] at h
        simpa using h
      obtain ⟨b, hbb⟩ : ∃ b, balL o (thoseL xs) = b := ⟨_, rfl⟩
      have HBB := Lib.hid hbb
      clear hbb
      cases b with
      | true =>
        go_wp2
        go_region_with (first | (go_at_call 9; refine (Claim8c o HO.out HOW.out _ xs _ hm4.drew hn HXW.out c HC.out).mono ?_; rintro e w5 ⟨rfl, hb5⟩; have y0 := cell_drew hb5 x0; have y1 := cell_drew hb5 x1; have y2 := cell_drew hb5 x2; have y3 := cell_drew hb5 x3; have y4 := cell_drew hb5 x4; have y5 := cell_drew hb5 x5; have y6 := cell_drew hb5 x6; have y7 := cell_drew hb5 x7; have hm5 := hm4.drew.below hb5) | (go_at_call 10; refine (RefClaim8c o HO.out _ xs _ hm5 hn c HC.out).mono ?_; rintro e w6 ⟨rfl, hb6⟩; have z0 := cell_below hb6 y0; have z1 := cell_below hb6 y1; have z2 := cell_below hb6 y2; have z3 := cell_below hb6 y3; have z4 := cell_below hb6 y4; have z5 := cell_below hb6 y5; have z6 := cell_below hb6 y6; have z7 := cell_below hb6 y7; have hm6 := hm5.below hb6) | (go_at_call 11; refine (Balanced8v o HO.out _ xs _ hm6 hn true HBB.out).mono ?_; rintro e w7 ⟨rfl, hb7⟩; have t0 := cell_below hb7 z0; have t1 := cell_below hb7 z1; have t2 := cell_below hb7 z2; have t3 := cell_below hb7 z3; have t4 := cell_below hb7 z4; have t5 := cell_below hb7 z5; have t6 := cell_below hb7 z6; have t7 := cell_below hb7 z7; have hm7 := hm6.below hb7) | (go_at_call 12; refine (RefBalanced8v o HO.out _ xs _ hm7 hn true HBB.out).mono ?_; rintro e w8 ⟨rfl, hb8⟩))
        all_goals
          go_wp2
          go_ret
          exact ⟨rfl, hbW4.trans (((((Below.refl _ _).drew.trans hb5).trans (hb6.mono hb5.size)).trans (hb7.mono (Nat.le_trans hb5.size hb6.size))).trans (hb8.mono (Nat.le_trans (Nat.le_trans hb5.size hb6.size) hb7.size)) |>.mono hbW4.size)⟩
      | false =>
        go_wp2
        go_region_with (first | (go_at_call 9; refine (Claim8c o HO.out HOW.out _ xs _ hm4.drew hn HXW.out c HC.out).mono ?_; rintro e w5 ⟨rfl, hb5⟩; have y0 := cell_drew hb5 x0; have y1 := cell_drew hb5 x1; have y2 := cell_drew hb5 x2; have y3 := cell_drew hb5 x3; have y4 := cell_drew hb5 x4; have y5 := cell_drew hb5 x5; have y6 := cell_drew hb5 x6; have y7 := cell_drew hb5 x7; have hm5 := hm4.drew.below hb5) | (go_at_call 10; refine (RefClaim8c o HO.out _ xs _ hm5 hn c HC.out).mono ?_; rintro e w6 ⟨rfl, hb6⟩; have z0 := cell_below hb6 y0; have z1 := cell_below hb6 y1; have z2 := cell_below hb6 y2; have z3 := cell_below hb6 y3; have z4 := cell_below hb6 y4; have z5 := cell_below hb6 y5; have z6 := cell_below hb6 y6; have z7 := cell_below hb6 y7; have hm6 := hm5.below hb6) | (go_at_call 11; refine (Balanced8v o HO.out _ xs _ hm6 hn false HBB.out).mono ?_; rintro e w7 ⟨rfl, hb7⟩; have t0 := cell_below hb7 z0; have t1 := cell_below hb7 z1; have t2 := cell_below hb7 z2; have t3 := cell_below hb7 z3; have t4 := cell_below hb7 z4; have t5 := cell_below hb7 z5; have t6 := cell_below hb7 z6; have t7 := cell_below hb7 z7; have hm7 := hm6.below hb7) | (go_at_call 12; refine (RefBalanced8v o HO.out _ xs _ hm7 hn false HBB.out).mono ?_; rintro e w8 ⟨rfl, hb8⟩))
        all_goals
          go_wp2
          go_ret
          exact ⟨rfl, hbW4.trans (((((Below.refl _ _).drew.trans hb5).trans (hb6.mono hb5.size)).trans (hb7.mono (Nat.le_trans hb5.size hb6.size))).trans (hb8.mono (Nat.le_trans (Nat.le_trans hb5.size hb6.size) hb7.size)) |>.mono hbW4.size)⟩
end Go.Proofs.Ytalbdcpbdedfiaa
