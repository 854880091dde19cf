/- Walks: the law RingAsks. (Printed by wip/gen_XQd.py.) -/
import Derived.Test.YtalbdcpbdedfiaaDoorQc
import Derived.Test.YtalbdcpbdedfiaaDoorRwh
import Derived.Test.YtalbdcpbdedfiaaDoorSg
import Derived.Deep.RegionHeld3
namespace Go.Proofs.YtalbdcpbdedfiaaDoor
open Go.RowKit

theorem blk {w w' : World} {k : Nat} {o : Obj} (hb : Below w.heap.size w w') (hk : w.heap[k]? = some o) : w'.heap[k]? = some o :=
  (hb.block k (Array.getElem?_eq_some_iff.1 hk).1).trans hk
theorem cell_below {w w' : World} {p : Addr} {v : Value} (hb : Below w.heap.size w w') (hc : w.cell? p = some v) : w'.cell? p = some v :=
  (hb.cell (World.block_lt_of_cell? w p hc)).trans hc
theorem ask_keep {W W' : World} {b b2 : Nat} {o : List Int} {p n : Int} {v : Value} (h : W.cell? ⟨b, 0, none⟩ = some (.int .i64 (nth o 0)) ∧ W.cell? ⟨b, 1, none⟩ = some (.int .i64 (nth o 1)) ∧ W.cell? ⟨b, 2, none⟩ = some (.int .i64 (nth o 2)) ∧ W.cell? ⟨b, 3, none⟩ = some (.int .i64 (nth o 3)) ∧ W.cell? ⟨b, 4, none⟩ = some (.int .i64 (nth o 4)) ∧ W.cell? ⟨b, 5, none⟩ = some (.int .i64 (nth o 5)) ∧ W.cell? ⟨b, 6, none⟩ = some (.int .i64 (nth o 6)) ∧ W.cell? ⟨b, 7, none⟩ = some (.int .i64 (nth o 7)) ∧ W.cell? ⟨b2, 0, none⟩ = some (.int .i64 p) ∧ W.cell? ⟨b2, 1, none⟩ = some (.int .i64 n) ∧ W.cell? ⟨b2, 2, none⟩ = some (v)) (hb : Below W.heap.size W W') : W'.cell? ⟨b, 0, none⟩ = some (.int .i64 (nth o 0)) ∧ W'.cell? ⟨b, 1, none⟩ = some (.int .i64 (nth o 1)) ∧ W'.cell? ⟨b, 2, none⟩ = some (.int .i64 (nth o 2)) ∧ W'.cell? ⟨b, 3, none⟩ = some (.int .i64 (nth o 3)) ∧ W'.cell? ⟨b, 4, none⟩ = some (.int .i64 (nth o 4)) ∧ W'.cell? ⟨b, 5, none⟩ = some (.int .i64 (nth o 5)) ∧ W'.cell? ⟨b, 6, none⟩ = some (.int .i64 (nth o 6)) ∧ W'.cell? ⟨b, 7, none⟩ = some (.int .i64 (nth o 7)) ∧ W'.cell? ⟨b2, 0, none⟩ = some (.int .i64 p) ∧ W'.cell? ⟨b2, 1, none⟩ = some (.int .i64 n) ∧ W'.cell? ⟨b2, 2, none⟩ = some (v) := by
  obtain ⟨x0, x1, x2, x3, x4, x5, x6, x7, q0, q1, q2⟩ := h
  exact ⟨cell_below hb x0, cell_below hb x1, cell_below hb x2, cell_below hb x3, cell_below hb x4, cell_below hb x5, cell_below hb x6, cell_below hb x7, cell_below hb q0, cell_below hb q1, cell_below hb q2⟩
theorem Primaries8 (o : List Int) (ho : o.length = 8) (p n : Int) (hp : p ≤ 9223372036854775807) (hn : n ≤ 9223372036854775807) (w : World) :
    Calls Tryd.prog 6 #[.agg #[.int .i64 (nth o 0), .int .i64 (nth o 1), .int .i64 (nth o 2), .int .i64 (nth o 3), .int .i64 (nth o 4), .int .i64 (nth o 5), .int .i64 (nth o 6), .int .i64 (nth o 7)], .int .i64 p, .int .i64 n] w fun e w' => ∃ v, e = .returned v ∧ OwnI 3 w.heap.size w' v (primL o p n) ∧ Bel w.heap.size w w' := by
  have h := Primaries_any o ho p n hp hn w
  rw [ints8 o ho] at h
  exact h
theorem RefPrimaries8 (o : List Int) (ho : o.length = 8) (p n : Int) (hp : p ≤ 9223372036854775807) (hp0 : -9223372036854775808 ≤ p) (w : World) :
    Calls Tryd.prog 7 #[.agg #[.int .i64 (nth o 0), .int .i64 (nth o 1), .int .i64 (nth o 2), .int .i64 (nth o 3), .int .i64 (nth o 4), .int .i64 (nth o 5), .int .i64 (nth o 6), .int .i64 (nth o 7)], .int .i64 p, .int .i64 n] w fun e w' => ∃ v, e = .returned v ∧ OwnI 3 w.heap.size w' v (primL o p n) ∧ Bel w.heap.size w w' := by
  have h := RefPrimaries_any o ho p n hp hp0 w
  rw [ints8 o ho] at h
  exact h
theorem Owned8 (o : List Int) (ho : o.length = 8) (n : Int) (w : World) :
    Calls Tryd.prog 8 #[.agg #[.int .i64 (nth o 0), .int .i64 (nth o 1), .int .i64 (nth o 2), .int .i64 (nth o 3), .int .i64 (nth o 4), .int .i64 (nth o 5), .int .i64 (nth o 6), .int .i64 (nth o 7)], .int .i64 n] w fun e w' => ∃ v, e = .returned v ∧ OwnI 3 w.heap.size w' v (ownedTo o n 8) ∧ Bel w.heap.size w w' := by
  have h := Owned_any o ho n w
  rw [ints8 o ho] at h
  exact h
theorem RefOwned8 (o : List Int) (ho : o.length = 8) (n : Int) (w : World) :
    Calls Tryd.prog 9 #[.agg #[.int .i64 (nth o 0), .int .i64 (nth o 1), .int .i64 (nth o 2), .int .i64 (nth o 3), .int .i64 (nth o 4), .int .i64 (nth o 5), .int .i64 (nth o 6), .int .i64 (nth o 7)], .int .i64 n] w fun e w' => ∃ v, e = .returned v ∧ OwnI 3 w.heap.size w' v (ownedTo o n 8) ∧ Bel w.heap.size w w' := by
  have h := RefOwned_any o ho n w
  rw [ints8 o ho] at h
  exact h
theorem tgts_get : ∀ (l : List (Int × Int)) (i : Nat), i < l.length → ∃ a b : Int, (tgts l)[i * 2]? = some (.int .i64 a) ∧ (tgts l)[i * 2 + 1]? = some (.int .i64 b)
  | [], i, h => by simp at h
  | t :: l, 0, _ => ⟨t.1, t.2, rfl, rfl⟩
  | t :: l, i + 1, h => by
    obtain ⟨a, b, h1, h2⟩ := tgts_get l i (by simpa using h)
    refine ⟨a, b, ?_, ?_⟩
    · rw [show (i + 1) * 2 = i * 2 + 2 by omega]; exact h1
    · rw [show (i + 1) * 2 + 1 = i * 2 + 1 + 2 by omega]; exact h2

theorem slopL_len (o : List Int) (p n : Int) (ups : List Int) : (slopL o p n ups).length ≤ 8 := by
  rw [← slopD_eq]
  have h1 := (slopR_le (primL o p n) ((walkTo o p 8).drop (primL o p n).length) ups (primL o p n).length).1
  have h2 := walkTo_le o p 8
  have h3 : (primL o p n).length ≤ (walkTo o p 8).length := by unfold primL; rw [List.length_take]; omega
  unfold slopD
  omega
set_option maxRecDepth 100000 in
set_option maxHeartbeats 4000000 in
theorem RingAsks_any (o : List Int) (ho : o.length = 8) (p n : Int) (hp : WF p) (hn : WF n) (vu : Value) (ups : List Int) (key : ByteArray) (w : World) (hu : RdI w vu ups) (hk : key.size < 1152921504606846976) (hG : ∀ j, j < 64 → w.cell? ⟨0, j, none⟩ = some (uw (Sha.wnth kTab j))) :
    Calls Tryd.prog 3 #[.agg (ints o).toArray, .agg #[.int .i64 p, .int .i64 n, vu], .string key] w fun e w' => e = .returned (.bool true) ∧ Below w.heap.size w w' := by
  obtain ⟨Au, cu, rfl, hlu, hcu, hur⟩ := id hu
  unfold maxLen at hlu
  clear hur
  have HO := Lib.hid ho
  have HG := Lib.hid hG
  have hW : -9223372036854775808 ≤ p ∧ p ≤ 9223372036854775807 := by unfold WF at hp; omega
  have hWn : -9223372036854775808 ≤ n ∧ n ≤ 9223372036854775807 := by unfold WF at hn; omega
  obtain ⟨hp0, hp1⟩ := hW
  obtain ⟨hn0, hn1⟩ := hWn
  clear ho hG hp hn
  go_enter Tryd.func3, Tryd.ntmps3
  go_wp2_with fail
  have hA : ((w.alloc (Obj.cells (ints o).toArray 23)).alloc (Obj.cells #[.int .i64 p, .int .i64 n, .slice Au ups.length cu] 26)).heap[w.heap.size]? = some (Obj.cells (ints o).toArray 23 (0, 0)) := heap_alloc2_old w _ _
  have hB : ((w.alloc (Obj.cells (ints o).toArray 23)).alloc (Obj.cells #[.int .i64 p, .int .i64 n, .slice Au ups.length cu] 26)).heap[w.heap.size + 1]? = some (Obj.cells #[.int .i64 p, .int .i64 n, .slice Au ups.length cu] 26 (0, 0)) := heap_alloc2_new w _ _
  have hb0 : Below w.heap.size w ((w.alloc (Obj.cells (ints o).toArray 23)).alloc (Obj.cells #[.int .i64 p, .int .i64 n, .slice Au ups.length cu] 26)) := ((Below.refl _ _).alloc (Nat.le_refl _) _).alloc (by simp) _
  change Calls _ _ _ ((w.alloc (Obj.cells (ints o).toArray 23)).alloc (Obj.cells #[.int .i64 p, .int .i64 n, .slice Au ups.length cu] 26)) _
  generalize (w.alloc (Obj.cells (ints o).toArray 23)).alloc (Obj.cells #[.int .i64 p, .int .i64 n, .slice Au ups.length cu] 26) = w0 at *
  refine (awake_any w0).mono ?_
  rintro e w1 ⟨rfl, hb1⟩
  have HA1 := Lib.hid (blk hb1 hA)
  have HB1 := Lib.hid (blk hb1 hB)
  have hbW1 := hb0.trans (hb1.mono hb0.size)
  have hu1 := hu.below hbW1
  clear hA hB hb0 hb1
  have hX1 : w1.cell? ⟨w.heap.size, 0, none⟩ = some (.int .i64 (nth o 0)) ∧ w1.cell? ⟨w.heap.size, 1, none⟩ = some (.int .i64 (nth o 1)) ∧ w1.cell? ⟨w.heap.size, 2, none⟩ = some (.int .i64 (nth o 2)) ∧ w1.cell? ⟨w.heap.size, 3, none⟩ = some (.int .i64 (nth o 3)) ∧ w1.cell? ⟨w.heap.size, 4, none⟩ = some (.int .i64 (nth o 4)) ∧ w1.cell? ⟨w.heap.size, 5, none⟩ = some (.int .i64 (nth o 5)) ∧ w1.cell? ⟨w.heap.size, 6, none⟩ = some (.int .i64 (nth o 6)) ∧ w1.cell? ⟨w.heap.size, 7, none⟩ = some (.int .i64 (nth o 7)) ∧ w1.cell? ⟨w.heap.size + 1, 0, none⟩ = some (.int .i64 p) ∧ w1.cell? ⟨w.heap.size + 1, 1, none⟩ = some (.int .i64 n) ∧ w1.cell? ⟨w.heap.size + 1, 2, none⟩ = some (.slice Au ups.length cu) := by
    obtain ⟨x0, x1, x2, x3, x4, x5, x6, x7⟩ := cells8 o HO.out HA1.out
    exact ⟨x0, x1, x2, x3, x4, x5, x6, x7, by rw [cell_of_row _ _ _ _ _ _ HB1.out]; rfl, by rw [cell_of_row _ _ _ _ _ _ HB1.out]; rfl, by rw [cell_of_row _ _ _ _ _ _ HB1.out]; rfl⟩
  have HX1 := Lib.hid hX1
  clear hX1
  go_upto_region 2 with fail
  go_cut [8] (fun s wx => s = .bool true ∧ Below w1.heap.size w1 wx)
  case first =>
    obtain ⟨x0, x1, x2, x3, x4, x5, x6, x7, q0, q1, q2⟩ := HX1.out
    go_region_held3 (fun W => W.cell? ⟨w.heap.size, 0, none⟩ = some (.int .i64 (nth o 0)) ∧ W.cell? ⟨w.heap.size, 1, none⟩ = some (.int .i64 (nth o 1)) ∧ W.cell? ⟨w.heap.size, 2, none⟩ = some (.int .i64 (nth o 2)) ∧ W.cell? ⟨w.heap.size, 3, none⟩ = some (.int .i64 (nth o 3)) ∧ W.cell? ⟨w.heap.size, 4, none⟩ = some (.int .i64 (nth o 4)) ∧ W.cell? ⟨w.heap.size, 5, none⟩ = some (.int .i64 (nth o 5)) ∧ W.cell? ⟨w.heap.size, 6, none⟩ = some (.int .i64 (nth o 6)) ∧ W.cell? ⟨w.heap.size, 7, none⟩ = some (.int .i64 (nth o 7)) ∧ W.cell? ⟨w.heap.size + 1, 0, none⟩ = some (.int .i64 p) ∧ W.cell? ⟨w.heap.size + 1, 1, none⟩ = some (.int .i64 n) ∧ W.cell? ⟨w.heap.size + 1, 2, none⟩ = some (.slice Au ups.length cu)) (first | exact ⟨x0, x1, x2, x3, x4, x5, x6, x7, q0, q1, q2⟩ | exact ask_keep (by assumption) hb5.bel | exact ask_keep (by assumption) hb6.bel | exact ask_keep (by assumption) hb7) (first | (go_at_call 6; refine (Primaries8 o HO.out p n hp1 hn1 _).mono ?_; rintro e w5 ⟨v5, rfl, ho5, hb5⟩) | (go_at_call 7; refine (RefPrimaries8 o HO.out p n hp1 hp0 _).mono ?_; rintro e w6 ⟨v6, rfl, ho6, hb6⟩) | (go_at_call 5; refine (same_any _ _ (primL o p n) _ (ho5.rd.below hb6.bel) ho6.rd).mono ?_; rintro e w7 ⟨rfl, hb7⟩) | (go_at_call 5; refine (same_any _ _ (primL o p n) _ ho5.rd (ho6.rd.below hb5.bel)).mono ?_; rintro e w7 ⟨rfl, hb7⟩))
    all_goals (go_wp2_with fail; go_meet; first | exact ⟨rfl, (((Below.refl _ _).drew.trans hb5.bel).trans (hb6.bel.mono hb5.size)).trans (hb7.mono (Nat.le_trans hb5.size hb6.size))⟩ | exact ⟨rfl, (((Below.refl _ _).drew.trans hb6.bel).trans (hb5.bel.mono hb6.size)).trans (hb7.mono (Nat.le_trans hb6.size hb5.size))⟩)
  case rest =>
    obtain ⟨rfl, hbc⟩ := hcut
    obtain ⟨w2, hw2⟩ : ∃ V, V = wc := ⟨wc, rfl⟩
    subst hw2
    have HX2 := Lib.hid (ask_keep HX1.out hbc)
    have HA2 := Lib.hid (blk hbc HA1.out)
    have hbW2 := hbW1.trans (hbc.mono hbW1.size)
    have hu2 := hu1.below hbc
    clear hbc hbW1 hu1
    go_upto_region 3 with fail
    go_cut [9] (fun s wx => s = .bool true ∧ Below w2.heap.size w2 wx)
    case first =>
      obtain ⟨x0, x1, x2, x3, x4, x5, x6, x7, q0, q1, q2⟩ := HX2.out
      go_region_held3 (fun W => W.cell? ⟨w.heap.size, 0, none⟩ = some (.int .i64 (nth o 0)) ∧ W.cell? ⟨w.heap.size, 1, none⟩ = some (.int .i64 (nth o 1)) ∧ W.cell? ⟨w.heap.size, 2, none⟩ = some (.int .i64 (nth o 2)) ∧ W.cell? ⟨w.heap.size, 3, none⟩ = some (.int .i64 (nth o 3)) ∧ W.cell? ⟨w.heap.size, 4, none⟩ = some (.int .i64 (nth o 4)) ∧ W.cell? ⟨w.heap.size, 5, none⟩ = some (.int .i64 (nth o 5)) ∧ W.cell? ⟨w.heap.size, 6, none⟩ = some (.int .i64 (nth o 6)) ∧ W.cell? ⟨w.heap.size, 7, none⟩ = some (.int .i64 (nth o 7)) ∧ W.cell? ⟨w.heap.size + 1, 0, none⟩ = some (.int .i64 p) ∧ W.cell? ⟨w.heap.size + 1, 1, none⟩ = some (.int .i64 n) ∧ W.cell? ⟨w.heap.size + 1, 2, none⟩ = some (.slice Au ups.length cu)) (first | exact ⟨x0, x1, x2, x3, x4, x5, x6, x7, q0, q1, q2⟩ | exact ask_keep (by assumption) hb5.bel | exact ask_keep (by assumption) hb6.bel | exact ask_keep (by assumption) hb7) (first | (go_at_call 8; refine (Owned8 o HO.out n _).mono ?_; rintro e w5 ⟨v5, rfl, ho5, hb5⟩) | (go_at_call 9; refine (RefOwned8 o HO.out n _).mono ?_; rintro e w6 ⟨v6, rfl, ho6, hb6⟩) | (go_at_call 5; refine (same_any _ _ (ownedTo o n 8) _ (ho5.rd.below hb6.bel) ho6.rd).mono ?_; rintro e w7 ⟨rfl, hb7⟩) | (go_at_call 5; refine (same_any _ _ (ownedTo o n 8) _ ho5.rd (ho6.rd.below hb5.bel)).mono ?_; rintro e w7 ⟨rfl, hb7⟩))
      all_goals (go_wp2_with fail; go_meet; first | exact ⟨rfl, (((Below.refl _ _).drew.trans hb5.bel).trans (hb6.bel.mono hb5.size)).trans (hb7.mono (Nat.le_trans hb5.size hb6.size))⟩ | exact ⟨rfl, (((Below.refl _ _).drew.trans hb6.bel).trans (hb5.bel.mono hb6.size)).trans (hb7.mono (Nat.le_trans hb6.size hb5.size))⟩)
    case rest =>
      obtain ⟨rfl, hbc⟩ := hcut
      obtain ⟨w3, hw3⟩ : ∃ V, V = wc := ⟨wc, rfl⟩
      subst hw3
      have HX3 := Lib.hid (ask_keep HX2.out hbc)
      have HA3 := Lib.hid (blk hbc HA2.out)
      have hbW3 := hbW2.trans (hbc.mono hbW2.size)
      have hu3 := hu2.below hbc
      clear hbc hbW2 hu2
      obtain ⟨_, _, _, _, _, _, _, _, q0, q1, q2⟩ := HX3.out
      go_wp2_with (refine wpList_load_arr rfl _ _ rfl _ rfl _ o 8 HO.out HA3.out _ uOwners sOwners ?_)
      refine (Sloppy_any o HO.out p n hp1 hn1 _ ups w3 hu3).mono ?_
      rintro e w4 ⟨vs, rfl, hos, hb4⟩
      have HA4 := Lib.hid (blk hb4 HA3.out)
      have hbW4 := hbW3.trans (hb4.mono hbW3.size)
      have hu4 := hu3.below hb4
      replace q0 := cell_below hb4 q0
      replace q1 := cell_below hb4 q1
      replace q2 := cell_below hb4 q2
      clear hbW3 hu3
      go_wp2_with (refine wpList_load_arr rfl _ _ rfl _ rfl _ o 8 HO.out HA4.out _ uOwners sOwners ?_)
      refine (RefSloppy_any o HO.out p n hp1 hp0 _ ups w4 hu4).mono ?_
      rintro e w5 ⟨vt, rfl, hot, hb5⟩
      have hbW5 := hbW4.trans (hb5.mono hbW4.size)
      have hos5 := World.ownsRow.kept hos (grownBy_of_below hb5 none) (by cases vs.ownBlock <;> simp)
      have hlt := slopL_len o p n ups
      have HTG := Lib.hid (tgts_get (slopL o p n ups))
      clear hos hb4 hb5 hbW4 hu4 q0 q1 q2
      generalize slopL o p n ups = ml at *
      obtain ⟨As, cs, rfl⟩ := row_slice hos5
      obtain ⟨At, ct, rfl⟩ := row_slice hot
      go_wp2
      go_loopw [12] (fun i wr => ∃ k : Nat, k ≤ ml.length ∧ i = .int .i64 k ∧ Below w5.heap.size w5 wr) (fun i _ => ml.length - (intOf i).toNat)
      case atStart => exact ⟨0, Nat.zero_le _, rfl, Below.refl _ _⟩
      case round =>
        obtain ⟨k, hkl, rfl, hbl⟩ := hrel
        by_cases hltk : k < ml.length
        · obtain ⟨gs, rfl, hcs⟩ := row_at (World.ownsRow.kept hos5 (grownBy_of_below hbl none) (by cases (Value.slice As ml.length cs).ownBlock <;> simp)) (by omega)
          obtain ⟨gt, rfl, hct⟩ := row_at (World.ownsRow.kept hot (grownBy_of_below hbl none) (by cases (Value.slice At ml.length ct).ownBlock <;> simp)) (by omega)
          obtain ⟨x, y, h1, h2⟩ := HTG.out k hltk
          have t1 := (hcs (k * 2) (by omega)).trans h1
          have t2 := (hcs (k * 2 + 1) (by omega)).trans h2
          have y1 := (hct (k * 2) (by omega)).trans h1
          have y2 := (hct (k * 2 + 1) (by omega)).trans h2
          clear hcs hct h1 h2
          go_wp2
          go_quiet (fail)
          go_wp2
          go_roundw
          case rel => exact ⟨k + 1, by omega, by go_num, below_drewN hbl _⟩
          case measure => simp [intOf]; omega
        · obtain rfl : k = ml.length := by omega
          obtain ⟨w6, hw6⟩ : ∃ V, V = wr := ⟨wr, rfl⟩
          subst hw6
          have hbW6 := hbW5.trans (hbl.mono hbW5.size)
          have hG6 : ∀ j, j < 64 → w6.cell? ⟨0, j, none⟩ = some (uw (Sha.wnth kTab j)) := fun j hj => cell_below hbW6 (HG.out j hj)
          have HG6 := Lib.hid hG6
          clear hG6
          go_wp2_with (first | (go_at_call 12; refine (Partition_any key w6 HG6.out hk).mono ?_; rintro e w7 ⟨rfl, hb7⟩) | (go_at_call 13; refine (RefPartition_any key _ hk).mono ?_; rintro e w8 ⟨rfl, hb8⟩))
          go_ret
          exact ⟨by simp, (hbW6.trans (hb7.mono hbW6.size)).trans (hb8.mono (Nat.le_trans hbW6.size hb7.size))⟩
end Go.Proofs.YtalbdcpbdedfiaaDoor
