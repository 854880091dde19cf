/- Walks: turning a word of 32 bits. -/
import Derived.Test.YtalbdcpbdedfiaaDoorMk
import Derived.Test.YtalbdcpbdedfiaaDoorSp
import Derived.Test.YtalbdcpbdedfiaaDoorProg
import Derived.StillTailTactics
import Derived.BigQuiet
import Derived.Deep.QuietTactic
import Derived.Deep.RegionLaw
import Derived.Deep.DeepCutAuto
import Derived.Deep.CutBlock
import Derived.Deep.WholeRow
import Derived.Laws.CopyOwn
namespace Go.Proofs.YtalbdcpbdedfiaaDoor
open Go.RowKit
open Sha (W rotr)

/-- a word as a value -/
abbrev uw (x : W) : Value := .int .u32 (x.toNat : Int)

/-! ### rows of words -/
def u32s (l : List W) : List Value := l.map uw
theorem u32s_len (l : List W) : (u32s l).length = l.length := by simp [u32s]
theorem u32s_get (l : List W) (i : Nat) (hi : i < l.length) : (u32s l)[i]? = some (uw (Sha.wnth l i)) := by
  simp [u32s, Sha.wnth, List.getElem?_eq_getElem hi, List.getD_eq_getElem?_getD]
theorem u32s_one (l : List W) : ∀ v ∈ u32s l, v.oneCell' = true := by
  intro v hv
  unfold u32s at hv
  rw [List.mem_map] at hv
  obtain ⟨x, _, rfl⟩ := hv
  rfl
section
variable {P : Program}
/-- an array loaded out of the cells behind an address -/
theorem wpList_load_list {ops : Array Oper} {rest : List Oper} {o : Oper} {a : Act} {w : World} {Q : Exit → Act → World → Prop} (hgd : o.guard = none) (ty : TypeId) (x : Operand) (ho : o.op = .load ty x)
    (g off : Nat) (hx : a.eval x = .pointer (some ⟨g, off, none⟩)) (l : List Value) (hl : ∀ j v, l[j]? = some v → w.cell? ⟨g, off + j, none⟩ = some v)
    (e : TypeId) (n : Nat) (hu : P.underlying ty = some (.array n e)) (hi : (P.info? ty).map (·.size) = some l.length)
    (h : wpList P ops Q rest (a.put o.dst (.agg l.toArray)) w) : wpList P ops Q (o :: rest) a w := by
  refine wpList_plain hgd fun K hK => ?_
  have hld : (loadCells ⟨g, off, none⟩ l.length).run P w = .ok l.toArray w :=
    run_loadCells_list (P := P) w ⟨g, off, none⟩ l (fun j v hv => by
      have hadd : (⟨g, off, none⟩ : Addr).add j = ⟨g, off + j, none⟩ := by unfold Addr.add; split <;> simp_all
      rw [hadd]; exact hl j v hv)
  have hrun : (loadVar ty ⟨g, off, none⟩).run P w = .ok (.agg l.toArray) w := by
    cases hq : P.info? ty with
    | none => simp [hq] at hi
    | some i =>
      have hs : i.size = l.length := by simpa [hq] using hi
      have hagg : (isAgg ty).run P w = .ok true w := by
        unfold isAgg
        rw [Sem.run_bind, run_underlying hu w]
        rfl
      simp [loadVar, Sem.run_bind, hagg, sizeOf, typeInfo, hq, hs, hld]
  unfold Oper.wp execOp
  simp only [ho, hx, Instr.loadAt, Instr.sureAddr, Sem.run_bind, Sem.run_pure, Result.andThen_ok, hrun]
  exact hK _ _ h
/-- a whole array of words stored into its block -/
theorem wpList_store_words {ops : Array Oper} {rest : List Oper} {o : Oper} {a : Act} {w : World} {Q : Exit → Act → World → Prop} (hgd : o.guard = none) (ty : TypeId) (x y : Operand) (ho : o.op = .store ty x y)
    (g : Nat) (xs : List W) (hx : a.eval x = .pointer (some ⟨g, 0, none⟩)) (hy : a.eval y = .agg (u32s xs).toArray)
    (t : TypeId) (ys : List W) (n : Nat) (hxs : xs.length = n) (hys : ys.length = n) (hg : w.heap[g]? = some (.cells (u32s ys).toArray t (0, 0))) (hi : (P.info? ty).map (·.size) = some n)
    (h : ∀ w', w'.heap[g]? = some (.cells (u32s xs).toArray t (0, 0)) → Kept2 g g w w' → wpList P ops Q rest (a.put o.dst undef) w') : wpList P ops Q (o :: rest) a w := by
  refine wpList_store_row hgd ty x y ho g (u32s xs).toArray hx hy t _ hg (by rw [hi]; simp [u32s_len, hxs]) (by simp [u32s_len, hxs, hys]) (by simp [u32s, Value.oneCell']) (h _ (setRow_heap w g _ _ t _ hg) ⟨rfl, rfl, rfl, by simp, fun k _ h1 _ => setRow_other w g k _ h1⟩)
theorem run_index_words (t e : TypeId) (n : Nat) (h : P.underlying t = some (.array n e)) (hs : P.underlying e = some (.int .u32)) (hi : (P.info? e).map (·.size) = some 1)
    (xs : List W) (hx : xs.length = n) (i : Int) (h0 : 0 ≤ i) (h1 : i < n) (w : World) :
    (Instr.index t (.agg (u32s xs).toArray) (.int .i64 i)).run P w = .ok (uw (Sha.wnth xs i.toNat)) w := by
  obtain ⟨i, rfl⟩ := Int.eq_ofNat_of_zero_le h0
  have hg := u32s_get xs i (by omega)
  have hsz : ∀ w, (sizeOf e).run P w = .ok 1 w := run_sizeOf hi
  have hag : ∀ w, (isAgg e).run P w = .ok false w := by
    intro w; unfold isAgg; rw [Sem.run_bind, run_underlying hs w]; rfl
  have h2 : i < n := by omega
  simp [Instr.index, run_underlying h, asIntOf, part, h2, hsz, hag, hg]
end
theorem uState : Tryd.prog.underlying 64 = some (.array 8 62) := by kernel_rfl
theorem sState : (Tryd.prog.info? 64).map (·.size) = some 8 := by kernel_rfl
theorem uW64 : Tryd.prog.underlying 70 = some (.array 64 62) := by kernel_rfl
theorem sW64 : (Tryd.prog.info? 70).map (·.size) = some 64 := by kernel_rfl
theorem uU32 : Tryd.prog.underlying 62 = some (.int .u32) := by kernel_rfl
theorem sU32 : (Tryd.prog.info? 62).map (·.size) = some 1 := by kernel_rfl
theorem uU32s : Tryd.prog.underlying 88 = some (.slice 62) := by kernel_rfl
theorem store_state8 (st : List W) (h : (u32s st).length = 8) (w : World) :
    (storeCells ⟨w.heap.size, 0, none⟩ (u32s st)).run Tryd.prog (w.alloc (Obj.cells #[.int .u32 0, .int .u32 0, .int .u32 0, .int .u32 0, .int .u32 0, .int .u32 0, .int .u32 0, .int .u32 0] 64)) = .ok () (w.alloc (Obj.cells (u32s st).toArray 64)) :=
  run_storeCells_new w 64 _ (u32s st).toArray (by rw [sState]; simp [h]) (by simp [h]) (by simp [u32s, Value.oneCell'])

/-! ### what the walk spells, in words -/
theorem wrap_u32 (n : Nat) : IntKind.u32.wrap (n : Int) = ((n % 4294967296 : Nat) : Int) := by
  simp only [IntKind.wrap, IntKind.bits, IntKind.signed]
  simp
theorem ofInt_toNat (x : W) : BitVec.ofInt 32 (x.toNat : Int) = x := by
  rw [BitVec.ofInt_natCast, BitVec.ofNat_toNat, BitVec.setWidth_eq]
theorem bits_or (x y : W) : bits .or .u32 (x.toNat : Int) (y.toNat : Int) = ((x ||| y).toNat : Int) := by
  show IntKind.u32.wrap ((BitVec.ofInt 32 (x.toNat : Int) ||| BitVec.ofInt 32 (y.toNat : Int)).toNat : Int) = _
  rw [ofInt_toNat, ofInt_toNat, wrap_u32, Nat.mod_eq_of_lt (BitVec.isLt _)]
theorem bits_xor (x y : W) : bits .xor .u32 (x.toNat : Int) (y.toNat : Int) = ((x ^^^ y).toNat : Int) := by
  show IntKind.u32.wrap ((BitVec.ofInt 32 (x.toNat : Int) ^^^ BitVec.ofInt 32 (y.toNat : Int)).toNat : Int) = _
  rw [ofInt_toNat, ofInt_toNat, wrap_u32, Nat.mod_eq_of_lt (BitVec.isLt _)]
theorem bits_and (x y : W) : bits .and .u32 (x.toNat : Int) (y.toNat : Int) = ((x &&& y).toNat : Int) := by
  show IntKind.u32.wrap ((BitVec.ofInt 32 (x.toNat : Int) &&& BitVec.ofInt 32 (y.toNat : Int)).toNat : Int) = _
  rw [ofInt_toNat, ofInt_toNat, wrap_u32, Nat.mod_eq_of_lt (BitVec.isLt _)]
theorem shr_u32 (x : W) (n : Nat) : (x.toNat : Int) / 2 ^ n = ((x >>> n).toNat : Int) := by
  rw [BitVec.toNat_ushiftRight, Nat.shiftRight_eq_div_pow]
  simp
theorem shl_u32 (x : W) (n : Nat) : (x.toNat : Int) * 2 ^ n % (4294967296 : Int) = ((x <<< n).toNat : Int) := by
  rw [BitVec.toNat_shiftLeft, Nat.shiftLeft_eq]
  simp
theorem add_u32 (x y : W) : ((x.toNat : Int) + (y.toNat : Int)) % (4294967296 : Int) = ((x + y).toNat : Int) := by
  rw [BitVec.toNat_add]
  simp
set_option maxRecDepth 100000 in
theorem RotL_any (x : W) (k : Int) (h : k = -2 ∨ k = -6 ∨ k = -7 ∨ k = -11 ∨ k = -13 ∨ k = -17 ∨ k = -18 ∨ k = -19 ∨ k = -22 ∨ k = -25) (w : World) :
    Calls Tryd.prog 54 #[uw x, .int .i64 k] w fun e w' => e = .returned (uw (rotr x (-k).toNat)) ∧ w = w' := by
  rcases h with rfl | rfl | rfl | rfl | rfl | rfl | rfl | rfl | rfl | rfl
  · have hk : bits BinOp.and IntKind.u64 (IntKind.u64.wrap (-2)) 31 = 30 := by decide +kernel
    go_enter Tryd.func54, Tryd.ntmps54
    go_wp2
    go_ret
    refine ⟨?_, rfl⟩
    show Ending.returned (.int .u32 (bits BinOp.or IntKind.u32 ((x.toNat : Int) * 1073741824 % 4294967296) ((x.toNat : Int) / 4))) = _
    have e1 := shl_u32 x 30
    have e2 := shr_u32 x 2
    simp only [Int.reducePow] at e1 e2
    rw [e1, e2, bits_or, BitVec.or_comm]
    rfl
  · have hk : bits BinOp.and IntKind.u64 (IntKind.u64.wrap (-6)) 31 = 26 := by decide +kernel
    go_enter Tryd.func54, Tryd.ntmps54
    go_wp2
    go_ret
    refine ⟨?_, rfl⟩
    show Ending.returned (.int .u32 (bits BinOp.or IntKind.u32 ((x.toNat : Int) * 67108864 % 4294967296) ((x.toNat : Int) / 64))) = _
    have e1 := shl_u32 x 26
    have e2 := shr_u32 x 6
    simp only [Int.reducePow] at e1 e2
    rw [e1, e2, bits_or, BitVec.or_comm]
    rfl
  · have hk : bits BinOp.and IntKind.u64 (IntKind.u64.wrap (-7)) 31 = 25 := by decide +kernel
    go_enter Tryd.func54, Tryd.ntmps54
    go_wp2
    go_ret
    refine ⟨?_, rfl⟩
    show Ending.returned (.int .u32 (bits BinOp.or IntKind.u32 ((x.toNat : Int) * 33554432 % 4294967296) ((x.toNat : Int) / 128))) = _
    have e1 := shl_u32 x 25
    have e2 := shr_u32 x 7
    simp only [Int.reducePow] at e1 e2
    rw [e1, e2, bits_or, BitVec.or_comm]
    rfl
  · have hk : bits BinOp.and IntKind.u64 (IntKind.u64.wrap (-11)) 31 = 21 := by decide +kernel
    go_enter Tryd.func54, Tryd.ntmps54
    go_wp2
    go_ret
    refine ⟨?_, rfl⟩
    show Ending.returned (.int .u32 (bits BinOp.or IntKind.u32 ((x.toNat : Int) * 2097152 % 4294967296) ((x.toNat : Int) / 2048))) = _
    have e1 := shl_u32 x 21
    have e2 := shr_u32 x 11
    simp only [Int.reducePow] at e1 e2
    rw [e1, e2, bits_or, BitVec.or_comm]
    rfl
  · have hk : bits BinOp.and IntKind.u64 (IntKind.u64.wrap (-13)) 31 = 19 := by decide +kernel
    go_enter Tryd.func54, Tryd.ntmps54
    go_wp2
    go_ret
    refine ⟨?_, rfl⟩
    show Ending.returned (.int .u32 (bits BinOp.or IntKind.u32 ((x.toNat : Int) * 524288 % 4294967296) ((x.toNat : Int) / 8192))) = _
    have e1 := shl_u32 x 19
    have e2 := shr_u32 x 13
    simp only [Int.reducePow] at e1 e2
    rw [e1, e2, bits_or, BitVec.or_comm]
    rfl
  · have hk : bits BinOp.and IntKind.u64 (IntKind.u64.wrap (-17)) 31 = 15 := by decide +kernel
    go_enter Tryd.func54, Tryd.ntmps54
    go_wp2
    go_ret
    refine ⟨?_, rfl⟩
    show Ending.returned (.int .u32 (bits BinOp.or IntKind.u32 ((x.toNat : Int) * 32768 % 4294967296) ((x.toNat : Int) / 131072))) = _
    have e1 := shl_u32 x 15
    have e2 := shr_u32 x 17
    simp only [Int.reducePow] at e1 e2
    rw [e1, e2, bits_or, BitVec.or_comm]
    rfl
  · have hk : bits BinOp.and IntKind.u64 (IntKind.u64.wrap (-18)) 31 = 14 := by decide +kernel
    go_enter Tryd.func54, Tryd.ntmps54
    go_wp2
    go_ret
    refine ⟨?_, rfl⟩
    show Ending.returned (.int .u32 (bits BinOp.or IntKind.u32 ((x.toNat : Int) * 16384 % 4294967296) ((x.toNat : Int) / 262144))) = _
    have e1 := shl_u32 x 14
    have e2 := shr_u32 x 18
    simp only [Int.reducePow] at e1 e2
    rw [e1, e2, bits_or, BitVec.or_comm]
    rfl
  · have hk : bits BinOp.and IntKind.u64 (IntKind.u64.wrap (-19)) 31 = 13 := by decide +kernel
    go_enter Tryd.func54, Tryd.ntmps54
    go_wp2
    go_ret
    refine ⟨?_, rfl⟩
    show Ending.returned (.int .u32 (bits BinOp.or IntKind.u32 ((x.toNat : Int) * 8192 % 4294967296) ((x.toNat : Int) / 524288))) = _
    have e1 := shl_u32 x 13
    have e2 := shr_u32 x 19
    simp only [Int.reducePow] at e1 e2
    rw [e1, e2, bits_or, BitVec.or_comm]
    rfl
  · have hk : bits BinOp.and IntKind.u64 (IntKind.u64.wrap (-22)) 31 = 10 := by decide +kernel
    go_enter Tryd.func54, Tryd.ntmps54
    go_wp2
    go_ret
    refine ⟨?_, rfl⟩
    show Ending.returned (.int .u32 (bits BinOp.or IntKind.u32 ((x.toNat : Int) * 1024 % 4294967296) ((x.toNat : Int) / 4194304))) = _
    have e1 := shl_u32 x 10
    have e2 := shr_u32 x 22
    simp only [Int.reducePow] at e1 e2
    rw [e1, e2, bits_or, BitVec.or_comm]
    rfl
  · have hk : bits BinOp.and IntKind.u64 (IntKind.u64.wrap (-25)) 31 = 7 := by decide +kernel
    go_enter Tryd.func54, Tryd.ntmps54
    go_wp2
    go_ret
    refine ⟨?_, rfl⟩
    show Ending.returned (.int .u32 (bits BinOp.or IntKind.u32 ((x.toNat : Int) * 128 % 4294967296) ((x.toNat : Int) / 33554432))) = _
    have e1 := shl_u32 x 7
    have e2 := shr_u32 x 25
    simp only [Int.reducePow] at e1 e2
    rw [e1, e2, bits_or, BitVec.or_comm]
    rfl
set_option maxRecDepth 100000 in
theorem Rot_any (x : W) (k : Int) (h0 : 0 < k) (h1 : k < 32) (w : World) :
    Calls Tryd.prog 39 #[uw x, .int .i64 k] w fun e w' => e = .returned (uw (rotr x k.toNat)) ∧ w = w' := by
  go_enter Tryd.func39, Tryd.ntmps39
  go_wp2
  go_ret
  refine ⟨?_, rfl⟩
  show Ending.returned (.int .u32 (bits BinOp.or IntKind.u32 ((x.toNat : Int) / 2 ^ k.toNat) ((x.toNat : Int) * 2 ^ (32 - k).toNat % 4294967296))) = _
  rw [shr_u32, shl_u32, bits_or, show (32 - k).toNat = 32 - k.toNat by omega]
  rfl
theorem RotL_n (x : W) (k : Int) (n : Nat) (h : (k = -2 ∧ n = 2) ∨ (k = -6 ∧ n = 6) ∨ (k = -7 ∧ n = 7) ∨ (k = -11 ∧ n = 11) ∨ (k = -13 ∧ n = 13) ∨ (k = -17 ∧ n = 17) ∨ (k = -18 ∧ n = 18) ∨ (k = -19 ∧ n = 19) ∨ (k = -22 ∧ n = 22) ∨ (k = -25 ∧ n = 25)) (w : World) :
    Calls Tryd.prog 54 #[uw x, .int .i64 k] w fun e w' => e = .returned (uw (rotr x n)) ∧ w' = w := by
  refine (RotL_any x k (by omega) w).mono ?_
  rintro e w' ⟨rfl, rfl⟩
  rw [show (-k).toNat = n by omega]
  exact ⟨rfl, rfl⟩
theorem Rot_n (x : W) (k : Int) (n : Nat) (hk : k = n) (h0 : 0 < n) (h1 : n < 32) (w : World) :
    Calls Tryd.prog 39 #[uw x, .int .i64 k] w fun e w' => e = .returned (uw (rotr x n)) ∧ w' = w := by
  refine (Rot_any x k (by omega) (by omega) w).mono ?_
  rintro e w' ⟨rfl, rfl⟩
  rw [show k.toNat = n by omega]
  exact ⟨rfl, rfl⟩
theorem shr3 (x : W) : (x.toNat : Int) / (8 : Int) = ((x >>> 3).toNat : Int) := by
  have := shr_u32 x 3
  simp only [Int.reducePow] at this
  exact this
theorem shr10 (x : W) : (x.toNat : Int) / (1024 : Int) = ((x >>> 10).toNat : Int) := by
  have := shr_u32 x 10
  simp only [Int.reducePow] at this
  exact this
end Go.Proofs.YtalbdcpbdedfiaaDoor
