/- Walks: ring.Balanced. -/
import Derived.Test.YtalbdcpbdedfiaaDoorRwc
namespace Go.Proofs.YtalbdcpbdedfiaaDoor
open Go.RowKit

/-- how many partitions a node owns -/
def cnt (o : List Int) (n : Int) : Int := (ownedTo o n 8).length
theorem cnt_bd (o : List Int) (n : Int) : 0 ≤ cnt o n ∧ cnt o n ≤ 8 := by
  have := ownedTo_le o n 8
  unfold cnt
  omega
/-- the least and the most of the first k members -/
def lmTo (o l : List Int) : Nat → Int × Int
  | 0 => (0, 0)
  | k + 1 => if k = 0 then (cnt o (nth l 0), cnt o (nth l 0)) else (min (lmTo o l k).1 (cnt o (nth l k)), max (lmTo o l k).2 (cnt o (nth l k)))
theorem lmTo_bd (o l : List Int) (k : Nat) : 0 ≤ (lmTo o l k).1 ∧ (lmTo o l k).1 ≤ 8 ∧ 0 ≤ (lmTo o l k).2 ∧ (lmTo o l k).2 ≤ 8 := by
  induction k with
  | zero => simp [lmTo]
  | succ k ih =>
    have h0 := cnt_bd o (nth l 0)
    have h1 := cnt_bd o (nth l k)
    unfold lmTo
    split
    · simp only; omega
    · simp only; omega
theorem lmTo_one (o l : List Int) (k : Nat) (h : k = 0) : lmTo o l (k + 1) = (((ownedTo o (nth l k) 8).length : Int), ((ownedTo o (nth l k) 8).length : Int)) := by subst h; rfl
theorem lmTo_more (o l : List Int) (k : Nat) (h : ¬ k = 0) : lmTo o l (k + 1) = (min (lmTo o l k).1 ((ownedTo o (nth l k) 8).length : Int), max (lmTo o l k).2 ((ownedTo o (nth l k) 8).length : Int)) := by
  show (if _ then _ else _) = _
  rw [if_neg h]
  rfl
def badB (o l : List Int) (k : Nat) : Bool := if 0 < nth o k then !l.contains (nth o k) else decide (0 < l.length)
def balL (o l : List Int) : Bool := !(List.range 8).any (badB o l) && decide ((lmTo o l l.length).2 - (lmTo o l l.length).1 ≤ 1)
theorem balL_bad (o l : List Int) (k : Nat) (hk : k < 8) (h : badB o l k = true) : balL o l = false := by
  have : (List.range 8).any (badB o l) = true := List.any_eq_true.2 ⟨k, List.mem_range.2 hk, h⟩
  simp [balL, this]
theorem balL_good (o l : List Int) (h : ∀ j, j < 8 → badB o l j = false) : balL o l = decide ((lmTo o l l.length).2 - (lmTo o l l.length).1 ≤ 1) := by
  have : (List.range 8).any (badB o l) = false := by
    rw [List.any_eq_false]
    intro x hx
    rw [h x (List.mem_range.1 hx)]
    decide
  simp [balL, this]

set_option maxRecDepth 100000 in
set_option maxHeartbeats 400000 in
theorem Balanced_any (o : List Int) (ho : o.length = 8) (v : Value) (xs : List Int) (w : World) (hv : RdI w v xs) (hn : xs.length * 8 ≤ 140737488351232) :
    Calls Tryd.prog 16 #[.agg (ints o).toArray, v] w fun e w' => e = .returned (.bool (balL o (thoseL xs))) ∧ Below w.heap.size w w' := by
  have hix := run_index_arr _ _ _ uOwners uInt sInt o ho
  have Ho := Lib.hid ho
  clear ho
  have hA : (w.alloc (Obj.cells (ints o).toArray 23)).heap[w.heap.size]? = some (Obj.cells (ints o).toArray 23 (0, 0)) := heap_alloc_new w _
  have hs0 : (w.alloc (Obj.cells (ints o).toArray 23)).heap.size = w.heap.size + 1 := by simp
  have hb0 : Bel w.heap.size w (w.alloc (Obj.cells (ints o).toArray 23)) := (Bel.refl _ _).alloc (Nat.le_refl _) _
  go_enter Tryd.func16, Tryd.ntmps16
  go_wp2_with fail
  generalize w.alloc (Obj.cells (ints o).toArray 23) = w0 at *
  have HA := Lib.hid hA
  have HS0 := Lib.hid hs0
  clear hA hs0
  refine (those_any v xs w0 (hv.below hb0.bel) hn).mono ?_
  rintro e w1 ⟨vl, rfl, hol, hbl⟩
  have hrl := hol.rd
  generalize hl : thoseL xs = l at *
  have HL := Lib.hid hl
  clear hl
  obtain ⟨Al, cl, rfl, hlm, hlc, _⟩ := id hrl
  have hA1 : w1.heap[w.heap.size]? = some (Obj.cells (ints o).toArray 23 (0, 0)) := (hbl.block _ (Array.getElem?_eq_some_iff.1 HA.out).1).trans HA.out
  have HA1 := Lib.hid hA1
  clear hA1
  unfold maxLen at hlm
  go_wp2
  go_loopw [6, 7, 17] (fun a b i wr => ∃ k : Nat, k ≤ l.length ∧ i = .int .i64 k ∧ a = .int .i64 (lmTo o l k).1 ∧ b = .int .i64 (lmTo o l k).2 ∧ Below w1.heap.size w1 wr) (fun _ _ i _ => l.length - (intOf i).toNat)
  case atStart => exact ⟨0, Nat.zero_le _, rfl, rfl, rfl, Below.refl _ _⟩
  case round =>
    obtain ⟨k, hk, rfl, rfl, rfl, hb⟩ := hrel
    have hsz := hb.size
    have hA2 : wr.heap[w.heap.size]? = some (Obj.cells (ints o).toArray 23 (0, 0)) := (hb.block _ (Array.getElem?_eq_some_iff.1 HA1.out).1).trans HA1.out
    have HA2 := Lib.hid hA2
    clear hA2
    by_cases hlt : k < l.length
    · obtain ⟨bl, ol, rfl, cl1⟩ := (hrl.below hb).at_ k hlt
      have hcb := cnt_bd o (nth l k)
      have hlb := lmTo_bd o l k
      go_wp2_with (first | (refine wpList_load_arr rfl _ _ rfl _ rfl _ o 8 Ho.out HA2.out _ uOwners sOwners ?_) | (go_at_call 8; refine (Owned_any o Ho.out (nth l k) wr).mono ?_; rintro e w2 ⟨v2, rfl, ho2, hb2⟩; obtain ⟨A2, c2, rfl, _⟩ := ho2.rd))
      · have h0 : k = 0 := by have h : ((k : Int) == 0) = true := by assumption
                              simpa using h
        go_roundw
        case rel => exact ⟨k + 1, by omega, by go_num, by rw [lmTo_one o l k h0], by rw [lmTo_one o l k h0], hb.trans (hb2.bel.mono hsz)⟩
        case measure => simp [intOf]; omega
      · have h0 : ¬ k = 0 := by have h : ((k : Int) == 0) = false := by assumption
                                simpa using h
        go_roundw
        case rel => exact ⟨k + 1, by omega, by go_num, by rw [lmTo_more o l k h0], by rw [lmTo_more o l k h0], hb.trans (hb2.bel.mono hsz)⟩
        case measure => simp [intOf]; omega
    · obtain rfl : k = l.length := by omega
      have hlb := lmTo_bd o l l.length
      go_wp2_with (refine wpList_load_arr rfl _ _ rfl _ rfl _ o 8 Ho.out HA2.out _ uOwners sOwners ?_)
      go_loop [38] (fun i => ∃ k : Nat, k ≤ 8 ∧ i = .int .i64 k ∧ ∀ j, j < k → badB o l j = false) (fun i => 8 - (intOf i).toNat)
      case atStart => exact ⟨0, Nat.zero_le _, rfl, fun j hj => absurd hj (Nat.not_lt_zero _)⟩
      case round =>
        obtain ⟨k, hk, rfl, hgood⟩ := hrel
        have hgood' := Lib.hid hgood
        clear hgood
        have hc := Contains_any (.slice Al l.length cl) l (nth o k) wr (hrl.below hb)
        by_cases hlt8 : k < 8
        · by_cases hp : 0 < nth o k
          · by_cases hq : l.contains (nth o k) = true
            · have HG : Hid (badB o l k = false) := by show badB o l k = false; simp only [badB, if_pos hp, hq]; rfl
              rw [hq] at hc
              clear hq
              go_wp2_with (first | (go_at_call 21; refine hc.mono ?_; rintro e w4 ⟨rfl, rfl⟩))
              go_round
              case rel => exact ⟨k + 1, by omega, by go_num, fun j hj => by rcases Nat.lt_succ_iff_lt_or_eq.1 hj with h | rfl; exact hgood'.out j h; exact HG.out⟩
              case measure => simp [intOf]; omega
            · rw [Bool.not_eq_true] at hq
              have HG : Hid (badB o l k = true) := by show badB o l k = true; simp only [badB, if_pos hp, hq]; rfl
              rw [hq] at hc
              clear hq
              go_wp2_with (first | (go_at_call 21; refine hc.mono ?_; rintro e w4 ⟨rfl, rfl⟩))
              go_ret
              exact ⟨by rw [HL.out, balL_bad o l k hlt8 HG.out]; rfl, ((hb0.bel.trans (hbl.mono (by rw [HS0.out]; omega))).trans (hb.mono (by have := hbl.size; rw [HS0.out] at this; omega)))⟩
          · clear hc
            by_cases hz : 0 < l.length
            · have HG : Hid (badB o l k = true) := by show badB o l k = true; simp only [badB, if_neg hp, hz]; rfl
              go_wp2
              go_ret
              exact ⟨by rw [HL.out, balL_bad o l k hlt8 HG.out]; rfl, ((hb0.bel.trans (hbl.mono (by rw [HS0.out]; omega))).trans (hb.mono (by have := hbl.size; rw [HS0.out] at this; omega)))⟩
            · have HG : Hid (badB o l k = false) := by show badB o l k = false; simp only [badB, if_neg hp, hz]; rfl
              go_wp2
              go_round
              case rel => exact ⟨k + 1, by omega, by go_num, fun j hj => by rcases Nat.lt_succ_iff_lt_or_eq.1 hj with h | rfl; exact hgood'.out j h; exact HG.out⟩
              case measure => simp [intOf]; omega
        · obtain rfl : k = 8 := by omega
          clear hc
          go_wp2
          go_ret
          exact ⟨by rw [HL.out, balL_good o l hgood'.out]; rfl, ((hb0.bel.trans (hbl.mono (by rw [HS0.out]; omega))).trans (hb.mono (by have := hbl.size; rw [HS0.out] at this; omega)))⟩
end Go.Proofs.YtalbdcpbdedfiaaDoor
