/- General words: two arrays of eight numbers are compared. No program. -/
import Derived.Test.YtalbdcpbdedfiaaDoorMk
import Derived.Laws.StructEq
namespace Go.Proofs.YtalbdcpbdedfiaaDoor
open Go.RowKit
section
variable {P : Program}
theorem run_isAgg_int {e : TypeId} (hs : P.underlying e = some (.int .i64)) (w : World) : (isAgg e).run P w = .ok false w := by
  unfold isAgg; rw [Sem.run_bind, run_underlying hs w]; rfl
theorem run_part_int {e : TypeId} (hs : P.underlying e = some (.int .i64)) (cs : Array Value) (i : Nat) (v : Value) (h : cs[i]? = some v) (w : World) : (part e cs i).run P w = .ok v w := by
  simp [part, run_isAgg_int hs, h]
theorem run_equalIn_arr8 (d : Nat) {t e : TypeId} (ht : P.underlying t = some (.array 8 e)) (hs : P.underlying e = some (.int .i64)) (hi : (P.info? e).map (·.size) = some 1) (xs ys : List Int) (hx : xs.length = 8) (hy : ys.length = 8) (w : World) :
    (Op.equalIn (d + 2) t (.agg (ints xs).toArray) (.agg (ints ys).toArray)).run P w = .ok (xs == ys) w := by
  match xs, hx with
  | [x0, x1, x2, x3, x4, x5, x6, x7], _ =>
  match ys, hy with
  | [y0, y1, y2, y3, y4, y5, y6, y7], _ =>
  have hsz := run_sizeOf hi
  unfold Op.equalIn
  simp only [Sem.run_bind, run_underlying ht, Result.andThen_ok, hsz]
  simp [ints, Std.Legacy.Range.forIn_eq_forIn_range', List.range', run_part_int hs, run_equalIn_int _ d e .i64 .i64 _ _ hs]
  repeat' split
  all_goals simp_all
theorem run_eql_arr8 {t e : TypeId} (ht : P.underlying t = some (.array 8 e)) (hs : P.underlying e = some (.int .i64)) (hi : (P.info? e).map (·.size) = some 1) (xs ys : List Int) (hx : xs.length = 8) (hy : ys.length = 8) (w : World) :
    (binOp .eql t (.agg (ints xs).toArray) (.agg (ints ys).toArray)).run P w = .ok (.bool (xs == ys)) w := by
  simp only [binOp]
  simp [Op.equal, Op.maxDepth, run_equalIn_arr8 9998 ht hs hi xs ys hx hy w]
theorem run_neq_arr8 {t e : TypeId} (ht : P.underlying t = some (.array 8 e)) (hs : P.underlying e = some (.int .i64)) (hi : (P.info? e).map (·.size) = some 1) (xs ys : List Int) (hx : xs.length = 8) (hy : ys.length = 8) (w : World) :
    (binOp .neq t (.agg (ints xs).toArray) (.agg (ints ys).toArray)).run P w = .ok (.bool (xs != ys)) w := by
  simp only [binOp]
  simp [Op.equal, Op.maxDepth, run_equalIn_arr8 9998 ht hs hi xs ys hx hy w, bne]
end
end Go.Proofs.YtalbdcpbdedfiaaDoor
