/- Walks: the reference's in, walk, Primaries, Owned. -/
import Derived.Test.YtalbdcpbdedfiaaDoorPs
import Derived.Test.YtalbdcpbdedfiaaDoorRwh
import Derived.Deep.DeepCutAuto
import Derived.Deep.CutBlock
namespace Go.Proofs.YtalbdcpbdedfiaaDoor
open Go.RowKit

theorem row_cell {w : World} {b k : Nat} {T : TypeId} (o : List Int) (hk : k < o.length) (h : w.heap[b]? = some (Obj.cells (ints o).toArray T (0, 0))) : w.cell? ⟨b, k, none⟩ = some (.int .i64 (nth o k)) := by
  rw [cell_of_row _ _ _ _ _ _ h, List.getElem?_toArray]
  exact ints_get o k hk
theorem row_slice {e size n B : Nat} {w : World} {v : Value} {xs : List Value} (h : w.ownsRow B e size v n xs) : ∃ A c, v = .slice A n c := by
  rcases h.2 with ⟨rfl, h0⟩ | ⟨g, cap, _, rfl, _⟩
  · exact ⟨none, 0, by rw [h0]⟩
  · exact ⟨_, cap, rfl⟩
theorem row_at {e size n B c : Nat} {w : World} {A : Option Addr} {xs : List Value} (h : w.ownsRow B e size (.slice A n c) n xs) (hn : 0 < n) : ∃ g, A = some ⟨g, 0, none⟩ ∧ ∀ j, j < n * size → w.cell? ⟨g, j, none⟩ = xs[j]? := by
  rcases id h.2 with ⟨_, h0⟩ | ⟨g, cap, _, e, _⟩
  · omega
  · injection e with e1 e2 e3
    subst e1
    exact ⟨g, rfl, fun j hj => World.ownsRow.cellAt h j hj⟩
theorem ints8 (o : List Int) (ho : o.length = 8) : (ints o).toArray = #[.int .i64 (nth o 0), .int .i64 (nth o 1), .int .i64 (nth o 2), .int .i64 (nth o 3), .int .i64 (nth o 4), .int .i64 (nth o 5), .int .i64 (nth o 6), .int .i64 (nth o 7)] := by
  match o, ho with
  | [_, _, _, _, _, _, _, _], _ => rfl
theorem cells8 {w : World} {k : Nat} {T : TypeId} (o : List Int) (ho : o.length = 8) (h : w.heap[k]? = some (Obj.cells (ints o).toArray T (0, 0))) :
    w.cell? ⟨k, 0, none⟩ = some (.int .i64 (nth o 0)) ∧ w.cell? ⟨k, 1, none⟩ = some (.int .i64 (nth o 1)) ∧ w.cell? ⟨k, 2, none⟩ = some (.int .i64 (nth o 2)) ∧ w.cell? ⟨k, 3, none⟩ = some (.int .i64 (nth o 3)) ∧
    w.cell? ⟨k, 4, none⟩ = some (.int .i64 (nth o 4)) ∧ w.cell? ⟨k, 5, none⟩ = some (.int .i64 (nth o 5)) ∧ w.cell? ⟨k, 6, none⟩ = some (.int .i64 (nth o 6)) ∧ w.cell? ⟨k, 7, none⟩ = some (.int .i64 (nth o 7)) := by
  rw [ints8 o ho] at h
  exact ⟨cell_of_row _ _ _ _ _ _ h, cell_of_row _ _ _ _ _ _ h, cell_of_row _ _ _ _ _ _ h, cell_of_row _ _ _ _ _ _ h, cell_of_row _ _ _ _ _ _ h, cell_of_row _ _ _ _ _ _ h, cell_of_row _ _ _ _ _ _ h, cell_of_row _ _ _ _ _ _ h⟩
section
variable {P : Program}
theorem run_slice_to {t e size : Nat} (ht : P.underlying t = some (.slice e)) (hs : (P.info? e).map (·.size) = some size) (A : Option Addr) (n c k : Nat) (hk : k ≤ c) (w : World) :
    (Instr.slice t (.slice A n c) none (some (.int .i64 k)) none).run P w = .ok (.slice A k c) w := by
  have ht' : P.underlying t = some (.slice (P.elem t)) := by rw [ht]; simp [Program.elem, ht]
  have he : P.elem t = e := by simp [Program.elem, ht]
  rw [run_slice_h w t A n c ht' .i64 k (by omega) (by omega), he, run_sizeOf hs]
  cases A <;> simp [Result.andThen, sliced, Addr.add_zero']
end
set_option maxRecDepth 100000 in
set_option maxHeartbeats 400000 in
theorem RefIn_any (v : Value) (xs : List Int) (n : Int) (w : World) (hv : RdI w v xs) :
    Calls Tryd.prog 22 #[v, .int .i64 n] w fun e w' => e = .returned (.bool (xs.contains n)) ∧ w = w' := by
  obtain ⟨A, c, rfl, hlm, hlc, _⟩ := id hv
  unfold maxLen at hlm
  go_enter Tryd.func22, Tryd.ntmps22
  go_wp2
  go_loop [5] (fun i => ∃ k : Nat, k ≤ xs.length ∧ i = .int .i64 k ∧ ∀ j, j < k → nth xs j ≠ n) (fun i => xs.length - (intOf i).toNat)
  case atStart => exact ⟨0, Nat.zero_le _, rfl, fun j hj => absurd hj (Nat.not_lt_zero _)⟩
  case round =>
    obtain ⟨k, hk, rfl, hno⟩ := hrel
    have HNO := Lib.hid hno
    clear hno
    by_cases hlt : k < xs.length
    · obtain ⟨b, o, rfl, ck⟩ := hv.at_ k hlt
      by_cases he : nth xs k = n
      · have HT : Hid (decide (n ∈ xs) = true) := decide_eq_true (by rw [← he]; exact nth_mem xs k hlt)
        have t1 : (nth xs k == n) = true := by simpa using he
        clear he
        go_wp2
        go_ret
        exact ⟨by rw [HT.out]; rfl, rfl⟩
      · have HE := Lib.hid he
        have t1 : (nth xs k == n) = false := by simpa using he
        clear he
        go_wp2
        go_round
        case rel => exact ⟨k + 1, by omega, by go_num, fun j hj => by rcases Nat.lt_succ_iff_lt_or_eq.1 hj with h | rfl; exact HNO.out j h; exact HE.out⟩
        case measure => simp [intOf]; omega
    · obtain rfl : k = xs.length := by omega
      have HT : Hid (decide (n ∈ xs) = false) := decide_eq_false (fun h => by
        obtain ⟨j, hj, e⟩ := mem_nth h
        exact HNO.out j hj e)
      go_wp2
      go_ret
      exact ⟨by rw [HT.out]; rfl, rfl⟩

set_option maxRecDepth 100000 in
set_option maxHeartbeats 400000 in
theorem RefOwned_any (o : List Int) (ho : o.length = 8) (n : Int) (w : World) :
    Calls Tryd.prog 9 #[.agg (ints o).toArray, .int .i64 n] w fun e w' => ∃ v, e = .returned v ∧ OwnI 3 w.heap.size w' v (ownedTo o n 8) ∧ Bel w.heap.size w w' := by
  have Ho := Lib.hid ho
  clear ho
  go_enter Tryd.func9, Tryd.ntmps9
  go_wp2
  have hA : (w.alloc (Obj.cells (ints o).toArray 23)).heap[w.heap.size]? = some (Obj.cells (ints o).toArray 23 (0, 0)) := heap_alloc_new w _
  have hs0 : (w.alloc (Obj.cells (ints o).toArray 23)).heap.size = w.heap.size + 1 := by simp
  have hb0 : Bel w.heap.size w (w.alloc (Obj.cells (ints o).toArray 23)) := (Bel.refl _ _).alloc (Nat.le_refl _) _
  generalize w.alloc (Obj.cells (ints o).toArray 23) = w0 at *
  have HA := Lib.hid hA
  have HS0 := Lib.hid hs0
  clear hA hs0
  go_loopw [5, 6] (fun v i wr => ∃ k : Nat, k ≤ 8 ∧ i = .int .i64 k ∧ OwnI 3 w0.heap.size wr v (ownedTo o n k) ∧ Bel w0.heap.size w0 wr) (fun _ i _ => 8 - (intOf i).toNat)
  case atStart => exact ⟨0, by omega, rfl, OwnI.nil _ _ _, Bel.refl _ _⟩
  case round =>
    obtain ⟨k, hk, rfl, hown, hb⟩ := hrel
    have hsz := hb.size
    have hl := ownedTo_le o n k
    by_cases hlt : k < 8
    · have cc := row_cell o (by rw [Ho.out]; exact hlt) (hb.block' HA.out)
      by_cases h1 : 0 < n
      · by_cases h2 : nth o k = n
        · have H2 := Lib.hid h2
          have H1 := Lib.hid h1
          go_wp2_with (at_builtin; refine wpList_append_int rfl _ _ _ rfl w0.heap.size _ uInts infoI wr _ _ rfl (by exact hown) k rfl (by omega) hsz ?_; intro v' w1 hown1 hg1 hb1 hne1)
          go_roundw
          case rel => exact ⟨k + 1, by omega, by go_num, by rw [ownedTo_hit o n k H1.out H2.out]; exact hown1, hb.trans hb1⟩
          case measure => simp [intOf]; omega
        · have H2 := Lib.hid h2
          go_wp2
          go_roundw
          case rel => exact ⟨k + 1, by omega, by go_num, by rw [ownedTo_miss o n k (fun h => H2.out h.2)]; exact hown, hb⟩
          case measure => simp [intOf]; omega
      · have H1 := Lib.hid h1
        go_wp2
        go_roundw
        case rel => exact ⟨k + 1, by omega, by go_num, by rw [ownedTo_miss o n k (fun h => H1.out h.1)]; exact hown, hb⟩
        case measure => simp [intOf]; omega
    · obtain rfl : k = 8 := by omega
      go_wp2
      go_ret
      exact ⟨_, rfl, ownsRow_mono hown (by rw [HS0.out]; omega), hb0.trans (hb.mono (by rw [HS0.out]; omega))⟩


set_option maxRecDepth 100000 in
set_option maxHeartbeats 800000 in
theorem RefWalk_any (o : List Int) (ho : o.length = 8) (p : Int) (hp : p ≤ 9223372036854775807) (hp0 : -9223372036854775808 ≤ p) (w : World) :
    Calls Tryd.prog 18 #[.agg (ints o).toArray, .int .i64 p] w fun e w' => ∃ v, e = .returned v ∧ OwnI 3 w.heap.size w' v (walkTo o p 8) ∧ Bel w.heap.size w w' := by
  have Ho := Lib.hid ho
  clear ho
  have hA : (w.alloc (Obj.cells (ints o).toArray 23)).heap[w.heap.size]? = some (Obj.cells (ints o).toArray 23 (0, 0)) := heap_alloc_new w _
  have hs0 : (w.alloc (Obj.cells (ints o).toArray 23)).heap.size = w.heap.size + 1 := by simp
  have hb0 : Bel w.heap.size w (w.alloc (Obj.cells (ints o).toArray 23)) := (Bel.refl _ _).alloc (Nat.le_refl _) _
  obtain ⟨q, hq, hq0, hq8⟩ : ∃ q : Int, q = max p 0 % 8 ∧ 0 ≤ q ∧ q < 8 := ⟨_, rfl, by omega, by omega⟩
  have HF : Hid (∀ k : Nat, nth o ((q + k) % 8).toNat = from_ o p k) := fun k => by
    unfold from_
    rw [hq]
    congr 2
    omega
  go_enter Tryd.func18, Tryd.ntmps18
  have hneg : p < 0 ∨ ¬ p < 0 := by omega
  rcases hneg with hneg | hneg
  · obtain rfl : q = 0 := by omega
    clear hq
    go_wp2
    have hsl : True := trivial
    generalize w.alloc (Obj.cells (ints o).toArray 23) = w0 at *
    have HA := Lib.hid hA
    have HS0 := Lib.hid hs0
    clear hA hs0 hsl
    go_loopw [5, 6] (fun v i wr => ∃ k : Nat, k ≤ 8 ∧ i = .int .i64 k ∧ OwnI 3 w0.heap.size wr v (walkTo o p k) ∧ Bel w0.heap.size w0 wr) (fun _ i _ => 8 - (intOf i).toNat)
    case atStart => exact ⟨0, by omega, rfl, OwnI.nil _ _ _, Bel.refl _ _⟩
    case round =>
      obtain ⟨k, hk, rfl, hown, hbl⟩ := hrel
      have hsz := hbl.size
      have hl := walkTo_le o p k
      by_cases hlt : k < 8
      · have ca : wr.cell? ⟨w.heap.size, k % 8, none⟩ = some (.int .i64 (from_ o p k)) := by
          rw [← HF.out k, show ((0 + (k : Int)) % 8).toNat = k % 8 by omega]
          exact row_cell o (by rw [Ho.out]; omega) (hbl.block' HA.out)
        have hc := RefIn_any u5 (walkTo o p k) (from_ o p k) wr hown.rd
        by_cases e1 : 0 < from_ o p k
        · by_cases e2 : (walkTo o p k).contains (from_ o p k) = true
          · have HW : Hid (walkTo o p (k + 1) = walkTo o p k) := by show walkTo o p (k + 1) = _; rw [walkTo, if_neg (fun h => h.2 e2)]
            rw [e2] at hc
            clear e2
            go_wp2_with (go_at_call 22; refine hc.mono ?_; rintro e w1 ⟨rfl, rfl⟩)
            go_roundw
            case rel => exact ⟨k + 1, by omega, by go_num, by rw [HW.out]; exact hown, hbl⟩
            case measure => simp [intOf]; omega
          · have HW : Hid (walkTo o p (k + 1) = walkTo o p k ++ [from_ o p k]) := by show walkTo o p (k + 1) = _; rw [walkTo, if_pos ⟨e1, e2⟩]
            rw [Bool.not_eq_true] at e2
            rw [e2] at hc
            clear e2
            go_wp2_with (first | (go_at_call 22; refine hc.mono ?_; rintro e w1 ⟨rfl, rfl⟩) | (at_builtin; refine wpList_append_int rfl _ _ _ rfl w0.heap.size _ uInts infoI wr _ _ rfl (by exact hown) (from_ o p k) rfl (by omega) hsz ?_; intro v' w1 hown1 hg1 hb1 hne1))
            go_roundw
            case rel => exact ⟨k + 1, by omega, by go_num, by rw [HW.out]; exact hown1, hbl.trans hb1⟩
            case measure => simp [intOf]; omega
        · have HW : Hid (walkTo o p (k + 1) = walkTo o p k) := by show walkTo o p (k + 1) = _; rw [walkTo, if_neg (by simp [e1])]
          go_wp2_with (go_at_call 22; refine hc.mono ?_; rintro e w1 ⟨rfl, rfl⟩)
          go_roundw
          case rel => exact ⟨k + 1, by omega, by go_num, by rw [HW.out]; exact hown, hbl⟩
          case measure => simp [intOf]; omega
      · obtain rfl : k = 8 := by omega
        go_wp2
        go_ret
        exact ⟨_, rfl, hown.mono (by rw [HS0.out]; omega), hb0.trans (hbl.mono (by rw [HS0.out]; omega))⟩
  · have e1 : p % 8 = q := by omega
    have H1 := Lib.hid e1
    clear e1 hq
    go_wp2
    rw [H1.out]
    have hsl : True := trivial
    generalize w.alloc (Obj.cells (ints o).toArray 23) = w0 at *
    have HA := Lib.hid hA
    have HS0 := Lib.hid hs0
    clear hA hs0 hsl
    go_loopw [5, 6] (fun v i wr => ∃ k : Nat, k ≤ 8 ∧ i = .int .i64 k ∧ OwnI 3 w0.heap.size wr v (walkTo o p k) ∧ Bel w0.heap.size w0 wr) (fun _ i _ => 8 - (intOf i).toNat)
    case atStart => exact ⟨0, by omega, rfl, OwnI.nil _ _ _, Bel.refl _ _⟩
    case round =>
      obtain ⟨k, hk, rfl, hown, hbl⟩ := hrel
      have hsz := hbl.size
      have hl := walkTo_le o p k
      by_cases hlt : k < 8
      · have ca : wr.cell? ⟨w.heap.size, ((q + (k : Int)) % 8).toNat, none⟩ = some (.int .i64 (from_ o p k)) := by
          rw [← HF.out k]
          exact row_cell o (by rw [Ho.out]; omega) (hbl.block' HA.out)
        have hc := RefIn_any u5 (walkTo o p k) (from_ o p k) wr hown.rd
        by_cases e1 : 0 < from_ o p k
        · by_cases e2 : (walkTo o p k).contains (from_ o p k) = true
          · have HW : Hid (walkTo o p (k + 1) = walkTo o p k) := by show walkTo o p (k + 1) = _; rw [walkTo, if_neg (fun h => h.2 e2)]
            rw [e2] at hc
            clear e2
            go_wp2_with (go_at_call 22; refine hc.mono ?_; rintro e w1 ⟨rfl, rfl⟩)
            go_roundw
            case rel => exact ⟨k + 1, by omega, by go_num, by rw [HW.out]; exact hown, hbl⟩
            case measure => simp [intOf]; omega
          · have HW : Hid (walkTo o p (k + 1) = walkTo o p k ++ [from_ o p k]) := by show walkTo o p (k + 1) = _; rw [walkTo, if_pos ⟨e1, e2⟩]
            rw [Bool.not_eq_true] at e2
            rw [e2] at hc
            clear e2
            go_wp2_with (first | (go_at_call 22; refine hc.mono ?_; rintro e w1 ⟨rfl, rfl⟩) | (at_builtin; refine wpList_append_int rfl _ _ _ rfl w0.heap.size _ uInts infoI wr _ _ rfl (by exact hown) (from_ o p k) rfl (by omega) hsz ?_; intro v' w1 hown1 hg1 hb1 hne1))
            go_roundw
            case rel => exact ⟨k + 1, by omega, by go_num, by rw [HW.out]; exact hown1, hbl.trans hb1⟩
            case measure => simp [intOf]; omega
        · have HW : Hid (walkTo o p (k + 1) = walkTo o p k) := by show walkTo o p (k + 1) = _; rw [walkTo, if_neg (by simp [e1])]
          go_wp2_with (go_at_call 22; refine hc.mono ?_; rintro e w1 ⟨rfl, rfl⟩)
          go_roundw
          case rel => exact ⟨k + 1, by omega, by go_num, by rw [HW.out]; exact hown, hbl⟩
          case measure => simp [intOf]; omega
      · obtain rfl : k = 8 := by omega
        go_wp2
        go_ret
        exact ⟨_, rfl, hown.mono (by rw [HS0.out]; omega), hb0.trans (hbl.mono (by rw [HS0.out]; omega))⟩

set_option maxRecDepth 100000 in
set_option maxHeartbeats 800000 in
theorem RefPrimaries_any (o : List Int) (ho : o.length = 8) (p n : Int) (hp : p ≤ 9223372036854775807) (hp0 : -9223372036854775808 ≤ p) (w : World) :
    Calls Tryd.prog 7 #[.agg (ints o).toArray, .int .i64 p, .int .i64 n] w fun e w' => ∃ v, e = .returned v ∧ OwnI 3 w.heap.size w' v (primL o p n) ∧ Bel w.heap.size w w' := by
  have Ho := Lib.hid ho
  clear ho
  go_enter Tryd.func7, Tryd.ntmps7
  go_wp2_with (refine wpList_load_arr rfl _ _ rfl _ rfl _ o 8 Ho.out (heap_alloc_new _ _) _ uOwners sOwners ?_)
  have hw0 : Bel w.heap.size w (w.alloc (Obj.cells (ints o).toArray 23)) := (Bel.refl _ _).alloc (Nat.le_refl _) _
  refine (RefWalk_any o Ho.out p hp hp0 _).mono ?_
  rintro e w1 ⟨v, rfl, hown, hb⟩
  have hl := walkTo_le o p 8
  have HPL : Hid (primL o p n = (walkTo o p 8).take (max n 0).toNat) := rfl
  have HBE := Lib.hid (hw0.then hw0.size hb)
  have hsz0 := hw0.size
  obtain ⟨A, c, rfl, hm, hc, _⟩ := hown.rd
  clear hw0
  generalize walkTo o p 8 = L at *
  by_cases h1 : n < 0
  · have hz : (max n 0).toNat = 0 := by omega
    have h2 := hown.cut 0 (by omega)
    have H2 := Lib.hid h2
    have HZ := Lib.hid hz
    clear hz h2 hown
    go_wp2
    go_ret
    exact ⟨_, rfl, by rw [HPL.out, HZ.out]; exact H2.out.mono hsz0, HBE.out⟩
  · obtain ⟨m, rfl⟩ := Int.eq_ofNat_of_zero_le (show 0 ≤ n by omega)
    have hz : (max (m : Int) 0).toNat = m := by omega
    have HZ := Lib.hid hz
    clear hz
    by_cases h3 : L.length < m
    · have HT : Hid (L.take m = L) := List.take_of_length_le (by omega)
      go_wp2
      go_ret
      exact ⟨_, rfl, by rw [HPL.out, HZ.out, HT.out]; exact hown.mono hsz0, HBE.out⟩
    · have h2 := hown.cut m (by omega)
      have H2 := Lib.hid h2
      have hmc : m ≤ c := by omega
      clear h2 hown
      go_wp2
      go_ret
      exact ⟨_, rfl, by rw [HPL.out, HZ.out]; exact H2.out.mono hsz0, HBE.out⟩
end Go.Proofs.YtalbdcpbdedfiaaDoor
