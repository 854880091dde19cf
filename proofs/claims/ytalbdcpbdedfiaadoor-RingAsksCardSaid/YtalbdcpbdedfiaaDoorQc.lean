/- Walks: two rows of numbers the same; the reference's Partition. -/
import Derived.Test.YtalbdcpbdedfiaaDoorQb
import Derived.Test.YtalbdcpbdedfiaaDoorSj
namespace Go.Proofs.YtalbdcpbdedfiaaDoor
open Go.RowKit
theorem below_drewN {B : Nat} {a w : World} (h : Below B a w) (n : Nat) : Below B a (w.drewN n) := ⟨h.os, h.tape, h.output, h.size, h.block⟩

set_option maxRecDepth 100000 in
theorem same_any (va vb : Value) (xs : List Int) (w : World) (ha : RdI w va xs) (hb : RdI w vb xs) :
    Calls Tryd.prog 5 #[va, vb] w fun e w' => e = .returned (.bool true) ∧ Below w.heap.size w w' := by
  obtain ⟨Aa, ca, rfl, hma, hca, _⟩ := id ha
  obtain ⟨Ab, cb, rfl, hmb, hcb, _⟩ := id hb
  unfold maxLen at hma hmb
  go_enter Tryd.func5, Tryd.ntmps5
  go_wp2_with fail
  go_loopw [5] (fun i wr => ∃ k : Nat, k ≤ xs.length ∧ i = .int .i64 k ∧ Below w.heap.size w wr) (fun i _ => xs.length - (intOf i).toNat)
  case atStart => exact ⟨0, Nat.zero_le _, rfl, Below.refl _ _⟩
  case round =>
    obtain ⟨k, hk, rfl, hbl⟩ := hrel
    by_cases hlt : k < xs.length
    · obtain ⟨b1, o1, rfl, c1⟩ := (ha.below hbl).at_ k hlt
      obtain ⟨b2, o2, rfl, c2⟩ := (hb.below hbl).at_ k hlt
      go_wp2
      go_quiet (fail)
      go_wp2
      go_roundw
      case rel => exact ⟨k + 1, by omega, by go_num, below_drewN hbl _⟩
      case measure => simp [intOf]; omega
    · obtain rfl : k = xs.length := by omega
      go_wp2
      go_ret
      exact ⟨rfl, hbl⟩

theorem store_named {P : Program} {ops : Array Oper} {rest : List Oper} {o : Oper} {a : Act} {w : World} {Q : Exit → Act → World → Prop} (hgd : o.guard = none) (ty : TypeId) (x y : Operand) (ho : o.op = .store ty x y)
    (g : Nat) (cells : Array Value) (hx : a.eval x = .pointer (some ⟨g, 0, none⟩)) (hy : a.eval y = .agg cells)
    (t : TypeId) (old : Array Value) (hg : w.heap[g]? = some (.cells old t (0, 0))) (hi : (P.info? ty).map (·.size) = some cells.size)
    (hold : old.size = cells.size) (h1 : cells.all (·.oneCell') = true)
    (h : ∀ w2 : World, w2.heap[g]? = some (.cells cells t (0, 0)) → Kept2 g g w w2 → wpList P ops Q rest (a.put o.dst undef) w2) : wpList P ops Q (o :: rest) a w :=
  wpList_store_row hgd ty x y ho g cells hx hy t old hg hi hold h1 (h _ (setRow_heap w g _ _ _ _ hg) ⟨rfl, rfl, rfl, by simp, fun k _ h1 _ => setRow_other w g k _ h1⟩)

set_option maxRecDepth 100000 in
theorem RefPartition_any (key : ByteArray) (w : World) (hk : key.size < 1152921504606846976) :
    Calls Tryd.prog 13 #[.string key] w fun e w' => e = .returned (.int .i64 (partOf key)) ∧ Below w.heap.size w w' := by
  obtain ⟨b, hb⟩ : ∃ b, (sumOf key).getD 1 0 = b := ⟨_, rfl⟩
  have HPV : Hid (partOf key = (b.toNat : Int) % 8) := by show partOf key = _; rw [partOf, hb]
  have hb256 := b.toNat_lt
  have HB0 := Lib.hid hb
  clear hb
  go_enter Tryd.func13, Tryd.ntmps13
  go_wp2_with fail
  refine (RefSum_any key hk w).mono ?_
  rintro e w1 ⟨rfl, hb1⟩
  have hg := u8s_get (sumOf key) 1 (by rw [sumOf_len]; decide)
  have HL := Lib.hid (sumOf_len key)
  have HC1 : Hid (∀ W : World, W.heap[w1.heap.size]? = some (Obj.cells (u8s (sumOf key)).toArray 47 (0, 0)) → W.cell? ⟨w1.heap.size, 1, none⟩ = some (.int .u8 (b.toNat : Int))) := fun W hS => by
    rw [cell_of_row _ _ _ _ _ _ hS, List.getElem?_toArray, hg, HB0.out]; rfl
  have hs1 := hb1.size
  clear hg
  go_wp2_with (refine store_named rfl _ _ _ rfl w1.heap.size (u8s (sumOf key)).toArray rfl rfl _ _ (heap_alloc_new w1 _) (by rw [sA32]; simp [u8s_len, HL.out]) (by simp [u8s_len, HL.out]) (by simp [u8s, u8v, Value.oneCell']) ?_; intro w2 hS hK; have hc1 := HC1.out w2 hS)
  go_ret
  exact ⟨by rw [HPV.out]; rfl, (hb1.alloc hs1 _).trans (hK.below (by simp; omega) hs1 hs1)⟩
end Go.Proofs.YtalbdcpbdedfiaaDoor
