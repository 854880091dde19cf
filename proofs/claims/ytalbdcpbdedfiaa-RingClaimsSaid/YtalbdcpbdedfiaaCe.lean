/- Walks: the reference's Balanced. -/
import Derived.Test.YtalbdcpbdedfiaaCd
namespace Go.Proofs.Ytalbdcpbdedfiaa
open Go.RowKit

theorem balR_off {o l : List Int} {k : Nat} (hk : k < l.length) (h : offR o l k = true) : balR o l = false := by
  have e : (List.range l.length).any (offR o l) = true := List.any_eq_true.2 ⟨k, List.mem_range.2 hk, h⟩
  unfold balR
  rw [if_neg (by omega), e]
  rfl
theorem balR_sum {o l : List Int} (h0 : 0 < l.length) (h : ∀ k, k < l.length → offR o l k = false) : balR o l = (sumTo o l l.length == 8) := by
  have e : (List.range l.length).any (offR o l) = false := by
    rw [List.any_eq_false]
    intro x hx
    rw [h x (List.mem_range.1 hx)]
    decide
  unfold balR
  rw [if_neg (by omega), e]
  rfl
theorem balR_one {o l : List Int} {i : Nat} (h0 : l.length = 0) (hi : i < 8) (h : 0 < nth o i) : balR o l = false := by
  have e : (List.range 8).any (fun i => decide (0 < nth o i)) = true := List.any_eq_true.2 ⟨i, List.mem_range.2 hi, decide_eq_true h⟩
  unfold balR
  rw [if_pos h0, e]
  rfl
theorem balR_zero {o l : List Int} (h0 : l.length = 0) (h : ∀ i, i < 8 → ¬ 0 < nth o i) : balR o l = true := by
  have e : (List.range 8).any (fun i => decide (0 < nth o i)) = false := by
    rw [List.any_eq_false]
    intro x hx hd
    exact h x (List.mem_range.1 hx) (of_decide_eq_true hd)
  unfold balR
  rw [if_pos h0, e]
  rfl
theorem offR_one {o l : List Int} {k : Nat} (h : cnt o (nth l k) = 8 / (l.length : Int)) : offR o l k = false := by
  unfold offR
  rw [h]
  simp
theorem offR_two {o l : List Int} {k : Nat} (h : cnt o (nth l k) = (8 + (l.length : Int) - 1) / (l.length : Int)) : offR o l k = false := by
  unfold offR
  rw [h]
  simp
theorem offR_off {o l : List Int} {k : Nat} (h1 : cnt o (nth l k) ≠ 8 / (l.length : Int)) (h2 : cnt o (nth l k) ≠ (8 + (l.length : Int) - 1) / (l.length : Int)) : offR o l k = true := by
  unfold offR
  simp [h1, h2]

set_option maxRecDepth 100000 in
set_option maxHeartbeats 4000000 in
theorem RefBalanced_any (o : List Int) (ho : o.length = 8) (v : Value) (xs : List Int) (w : World) (hv : RdI w v xs) (hn : xs.length * 8 ≤ 140737488351232) :
    Calls Try.prog 12 #[.agg (ints o).toArray, v] w fun e w' => e = .returned (.bool (balR o (thoseL xs))) ∧ Below w.heap.size w w' := by
  have hle := those_le xs
  have HO := Lib.hid ho
  clear ho
  go_enter Try.func12, Try.ntmps12
  go_wp2_with fail
  have hA : (w.alloc (Obj.cells (ints o).toArray 23)).heap[w.heap.size]? = some (Obj.cells (ints o).toArray 23 (0, 0)) := heap_alloc_new w _
  have hb0 : Bel w.heap.size w (w.alloc (Obj.cells (ints o).toArray 23)) := (Bel.refl _ _).alloc (Nat.le_refl _) _
  change Calls _ _ _ (w.alloc (Obj.cells (ints o).toArray 23)) _
  generalize w.alloc (Obj.cells (ints o).toArray 23) = w0 at *
  refine (RefThose_any v xs w0 (hv.below hb0.bel) hn).mono ?_
  rintro e w1 ⟨vl, rfl, hol, hbl⟩
  have hrl := hol.rd
  generalize hl : thoseL xs = l at *
  obtain ⟨Al, cl, rfl, hlm, hlc, _⟩ := id hrl
  have HA1 := Lib.hid (hbl.block' hA)
  have HL := Lib.hid hl
  have HB1 := Lib.hid (hb0.bel.trans (hbl.bel.mono hb0.size))
  have hw1 : w.heap.size ≤ w1.heap.size := Nat.le_trans hb0.size hbl.size
  clear hA hl hol
  go_wp2
  go_loopw [6, 7] (fun s i wr => ∃ k : Nat, k ≤ l.length ∧ i = .int .i64 k ∧ s = .int .i64 (sumTo o l k) ∧ (∀ j, j < k → offR o l j = false) ∧ Bel w1.heap.size w1 wr) (fun _ i _ => l.length - (intOf i).toNat)
  case atStart => exact ⟨0, Nat.zero_le _, rfl, rfl, fun j hj => absurd hj (Nat.not_lt_zero _), Bel.refl _ _⟩
  case round =>
    obtain ⟨k, hk, rfl, rfl, hoff, hb⟩ := hrel
    have HOFF := Lib.hid hoff
    have hsb := sumTo_bd o l k
    clear hoff
    by_cases hlt : k < l.length
    · obtain ⟨w2, hw2⟩ : ∃ V, V = wr := ⟨wr, rfl⟩
      subst hw2
      have HA2 := Lib.hid (hb.block' HA1.out)
      have hv2 := hrl.below hb.bel
      obtain ⟨x0, x1, x2, x3, x4, x5, x6, x7⟩ := cells8 o HO.out HA2.out
      obtain ⟨bl, ol, rfl, cm⟩ := hv2.at_ k hlt
      go_upto_region 6 with fail
      go_cut [8] (fun s wx => SlotBel s (ownedTo o (nth l k) 8).length w2 wx)
      case first =>
        go_region_with (first | (go_at_call 26; refine (RefOwned8 o HO.out _ _).mono ?_; rintro e w3 ⟨A3, c3, rfl, hb3⟩))
        all_goals (go_wp2_with fail; go_meet; exact ⟨rfl, by repeat (first | exact ((Bel.refl _ _).drewN _).trans hb3 | exact hb3 | apply Bel.drew | apply Bel.drewN)⟩)
      case rest =>
        obtain ⟨rfl, hb3⟩ := hcut
        obtain ⟨w3, hw3⟩ : ∃ V, V = wc := ⟨wc, rfl⟩
        subst hw3
        clear x0 x1 x2 x3 x4 x5 x6 x7
        have HX : Hid (cnt o (nth l k) = ((ownedTo o (nth l k) 8).length : Int)) := rfl
        have hx8 := ownedTo_le o (nth l k) 8
        generalize (ownedTo o (nth l k) 8).length = a at *
        have HSS : Hid (sumTo o l (k + 1) = sumTo o l k + (a : Int)) := by
          show sumTo o l k + cnt o (nth l k) = _
          rw [HX.out]
        have hd := div_bd l.length (by omega)
        by_cases h1 : (a : Int) = 8 / (l.length : Int)
        · have t1 : ((a : Int) != 8 / (l.length : Int)) = false := by simpa using h1
          have HQ := Lib.hid (offR_one (HX.out.trans h1))
          clear h1
          go_wp2
          go_roundw
          case rel => exact ⟨k + 1, by omega, by go_num, by rw [HSS.out], fun j hj => by rcases Nat.lt_succ_iff_lt_or_eq.1 hj with h | rfl; exact HOFF.out j h; exact HQ.out, by repeat (first | exact hb.trans (hb3.mono hb.size) | apply Bel.drew | apply Bel.drewN)⟩
          case measure => simp [intOf]; omega
        · have t1 : ((a : Int) != 8 / (l.length : Int)) = true := by simpa using h1
          by_cases h2 : (a : Int) = (8 + (l.length : Int) - 1) / (l.length : Int)
          · have t2 : ((a : Int) != (8 + (l.length : Int) - 1) / (l.length : Int)) = false := by simpa using h2
            have HQ := Lib.hid (offR_two (HX.out.trans h2))
            clear h1 h2
            go_wp2
            go_roundw
            case rel => exact ⟨k + 1, by omega, by go_num, by rw [HSS.out], fun j hj => by rcases Nat.lt_succ_iff_lt_or_eq.1 hj with h | rfl; exact HOFF.out j h; exact HQ.out, by repeat (first | exact hb.trans (hb3.mono hb.size) | apply Bel.drew | apply Bel.drewN)⟩
            case measure => simp [intOf]; omega
          · have t2 : ((a : Int) != (8 + (l.length : Int) - 1) / (l.length : Int)) = true := by simpa using h2
            have HQ := Lib.hid (balR_off hlt (offR_off (fun e => h1 (HX.out.symm.trans e)) (fun e => h2 (HX.out.symm.trans e))))
            clear h1 h2
            go_wp2
            go_ret
            exact ⟨by rw [HL.out, HQ.out]; rfl, by repeat (first | exact HB1.out.trans ((hb.trans (hb3.mono hb.size)).bel.mono hw1) | apply Below.drew | apply Below.drewN)⟩
    · obtain rfl : k = l.length := by omega
      have HBR : Hid (Below w.heap.size w wr) := HB1.out.trans (hb.bel.mono hw1)
      by_cases h0 : l.length = 0
      · have hz : ((l.length : Int) == 0) = true := by simpa using h0
        have HA2 := Lib.hid (hb.block' HA1.out)
        have H0 := Lib.hid h0
        go_wp2
        go_loop [9] (fun i => ∃ k : Nat, k ≤ 8 ∧ i = .int .i64 k ∧ ∀ j, j < k → ¬ 0 < nth o j) (fun i => 8 - (intOf i).toNat)
        case atStart => exact ⟨0, Nat.zero_le _, rfl, fun j hj => absurd hj (Nat.not_lt_zero _)⟩
        case round =>
          obtain ⟨k, hk8, rfl, hno⟩ := hrel
          have HNO := Lib.hid hno
          clear hno
          by_cases hlt8 : k < 8
          · have ca := row_cell o (by rw [HO.out]; exact hlt8) HA2.out
            by_cases hp : 0 < nth o k
            · have HQ := Lib.hid (balR_one (l := l) H0.out hlt8 hp)
              go_wp2
              go_ret
              exact ⟨by rw [HL.out, HQ.out]; rfl, HBR.out⟩
            · have HP := Lib.hid hp
              go_wp2
              go_round
              case rel => exact ⟨k + 1, by omega, by go_num, fun j hj => by rcases Nat.lt_succ_iff_lt_or_eq.1 hj with h | rfl; exact HNO.out j h; exact HP.out⟩
              case measure => simp [intOf]; omega
          · obtain rfl : k = 8 := by omega
            have HQ := Lib.hid (balR_zero (l := l) H0.out HNO.out)
            go_wp2
            go_ret
            exact ⟨by rw [HL.out, HQ.out]; rfl, HBR.out⟩
      · have hz : ((l.length : Int) == 0) = false := by rw [beq_eq_false_iff_ne]; omega
        have HQ := Lib.hid (balR_sum (by omega) HOFF.out)
        go_wp2
        go_ret
        exact ⟨by rw [HL.out, HQ.out]; rfl, HBR.out⟩
end Go.Proofs.Ytalbdcpbdedfiaa
