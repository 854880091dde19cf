/- Iterators: slices.Values, slices.AppendSeq, slices.Collect, slices.SortedFunc at int. -/
import Derived.RangeFuncBox
import Derived.RangeFuncLeaves
import Derived.RangeFuncNested
import Derived.RangeFuncBound
import Derived.RangeFuncCalls
import Derived.Shelf.Abstract
import Derived.Shelf.RegionOpen
import Derived.WalkKit
import Derived.OwnWalkIn
import Derived.TacticsInMore
import Derived.LoopNIn
import Derived.LoopIn
import Derived.Test.YtalbdcpbdedfiaaDoorLb
namespace Go.Proofs.YtalbdcpbdedfiaaDoor
open Go.RowKit Go.Shelf
attribute [local go_sem] Oper.semAt_some

/-- what has come when k rounds are over: the first k numbers -/
def upto (xs : List Int) (k : Nat) : List Int := xs.take k
theorem upto_succ (xs : List Int) (k : Nat) (hk : k < xs.length) : upto xs (k + 1) = upto xs k ++ [nth xs k] := by
  simp only [upto, List.take_add_one, List.getElem?_eq_getElem hk, Option.toList_some, nth, List.getD_eq_getElem?_getD, Option.getD_some]
/-- a slice of numbers that can be read, in blocks below n₀ -/
def RdB (n₀ : Nat) (w : World) (v : Value) (xs : List Int) : Prop :=
  ∃ A c, v = .slice A xs.length c ∧ xs.length ≤ maxLen ∧ (0 < xs.length → ∃ b off, A = some ⟨b, off, none⟩ ∧ b < n₀ ∧ ∀ j, j < xs.length → w.cell? ⟨b, off + j, none⟩ = some (.int .i64 (nth xs j)))
theorem RdI.b {w : World} {v : Value} {xs : List Int} (h : RdI w v xs) : RdB w.heap.size w v xs := by
  obtain ⟨A, c, rfl, hm, hc, hr⟩ := h
  refine ⟨A, c, rfl, hm, fun h0 => ?_⟩
  obtain ⟨b, off, e, hcell⟩ := hr h0
  exact ⟨b, off, e, World.block_lt_of_cell? w _ (hcell 0 h0), hcell⟩
theorem RdB.below {n₀ : Nat} {w w' : World} {v : Value} {xs : List Int} (h : RdB n₀ w v xs) (hb : Below n₀ w w') : RdB n₀ w' v xs := by
  obtain ⟨A, c, rfl, hm, hr⟩ := h
  refine ⟨A, c, rfl, hm, fun h0 => ?_⟩
  obtain ⟨b, off, e, hlt, hcell⟩ := hr h0
  exact ⟨b, off, e, hlt, fun j hj => (hb.cell (p := ⟨b, off + j, none⟩) hlt).trans (hcell j hj)⟩

set_option maxRecDepth 100000 in
set_option maxHeartbeats 2000000 in
/-- slices.Values's closure. -/
theorem Values1_in (F : Fence) (n : Nat) (h7 : F.fn 46) (hro : F.round = none) (hn : 1 ≤ n) (l Bs n₀ : Nat) (sv : Value) (zs : List Int) (J Jx : List Int → World → Prop)
    (hY : ∀ pre x W, J pre W → pre.length < zs.length → YieldAt F (n - 1) Tryd.prog l #[.int .i64 x] W fun e W' =>
      (e = .returned (.bool true) ∧ J (pre ++ [x]) W' ∧ Below n₀ W W') ∨ (e = .returned (.bool false) ∧ Jx (pre ++ [x]) W'))
    (W : World) (hBs : W.cell? ⟨Bs, 0, none⟩ = some sv) (hc : RdB n₀ W sv zs) (h0 : J [] W) :
    CallsIn F n Tryd.prog 46 #[.func (.yield l) #[] #[], .pointer (some ⟨Bs, 0, none⟩)] W fun e W' => (∃ v, e = .returned v) ∧
      ((∃ ys, ys = zs ∧ J ys W') ∨ (∃ pre, (∃ k, k ≤ zs.length ∧ pre = upto zs k) ∧ Jx pre W')) := by
  obtain ⟨A, c, rfl, hm, hcell⟩ := hc
  have hm' : zs.length ≤ 9223372036854775807 := by simpa [maxLen] using hm
  clear hm
  refine callsIn_of_wp Tryd.func46 rfl h7 ?_ hro
  simp only [Tryd.ntmps46, List.size_toArray, List.length_cons, List.length_nil, Nat.reduceAdd, Nat.reduceSub, Array.replicate_succ, Array.replicate_zero, List.push_toArray, List.append_toArray, List.nil_append, List.cons_append]
  gi_wp2
  gi_loopw [7] (fun i wr => ∃ k : Nat, k ≤ zs.length ∧ i = .int .i64 k ∧ J (upto zs k) wr ∧ Below n₀ W wr)
    (fun i _ => zs.length - (intOf i).toNat)
  case atStart => exact ⟨0, Nat.zero_le _, rfl, h0, Below.refl _ _⟩
  case round =>
    obtain ⟨k, hk, rfl, hJs, hnx⟩ := hrel
    by_cases hlt : k < zs.length
    · obtain ⟨b, off, rfl, hb, hcs⟩ := hcell (by omega)
      have hcx' : wr.cell? ⟨b, off + k, none⟩ = some (.int .i64 (nth zs k)) := (hnx.cell (p := ⟨b, off + k, none⟩) hb).trans (hcs k hlt)
      clear hcs hcell
      obtain ⟨fn, tmps, assign, body, hy, hR⟩ := hY _ (nth zs k) wr hJs (by rw [upto, List.length_take]; omega)
      have HU := Lib.hid (upto_succ zs k hlt)
      gi_wp2
      refine hR.mono ?_
      rintro e W3 (⟨rfl, hJ3, hk3⟩ | ⟨rfl, hJx3⟩)
      · gi_wp2
        go_roundw
        case rel => exact ⟨k + 1, by omega, by simp, by rw [HU.out]; exact hJ3, hnx.trans hk3⟩
        case measure => simp [intOf]; omega
      · gi_wp2
        refine bodyPost_ret (results_none rfl _ _ _) rfl ?_
        exact ⟨⟨_, rfl⟩, .inr ⟨_, ⟨k + 1, by omega, HU.out.symm⟩, hJx3⟩⟩
    · obtain rfl : k = zs.length := by omega
      clear hcell
      gi_wp2
      go_end0
      exact ⟨⟨_, rfl⟩, .inl ⟨_, rfl, by rw [upto, List.take_of_length_le (Nat.le_refl _)] at hJs; exact hJs⟩⟩

theorem Values_stops (F : Fence) (n : Nat) (h7 : F.fn 46) (hro : F.round = none) (hn : 1 ≤ n) (Bs n₀ : Nat) (sv : Value) (zs : List Int) (w : World) (hBs : Bs < w.heap.size) (hn₀ : n₀ ≤ w.heap.size)
    (hc : w.cell? ⟨Bs, 0, none⟩ = some sv) (hI : RdB n₀ w sv zs) :
    SeqStopsK F n Tryd.prog 46 #[.pointer (some ⟨Bs, 0, none⟩)] (fun x : Int => #[Value.int .i64 x]) (Below n₀) (fun ys => ys = zs) (fun pre => pre <+: zs) zs.length w := fun l J Jx W hW _ _ hY h0 => by
  refine (Values1_in F n h7 hro hn l Bs n₀ sv zs J Jx hY W ((hW.cell (p := ⟨Bs, 0, none⟩) hBs).trans hc) (hI.below (hW.mono hn₀)) h0).mono ?_
  rintro e W' ⟨he, ⟨ys, rfl, hj⟩ | ⟨pre, ⟨k, hk, rfl⟩, hj⟩⟩
  · exact ⟨he, .inl ⟨_, rfl, hj⟩⟩
  · exact ⟨he, .inr ⟨_, List.take_prefix _ _, hj⟩⟩

theorem Values_any (A : Option Addr) (k c : Nat) (w : World) : Calls Tryd.prog 27 #[.slice A k c] w fun e w' => e = .returned (.func (.func 46) #[] #[.pointer (some ⟨w.heap.size, 0, none⟩)]) ∧ w.alloc (.cells #[.slice A k c] 24) = w' := by
  go_enter Tryd.func27, Tryd.ntmps27
  go_wp2
  go_ret
  exact ⟨rfl, rfl⟩

theorem uIntsI : Tryd.prog.underlying 24 = some (.slice 3) := by kernel_rfl
theorem infoI' : (Tryd.prog.info? 3).map (fun i => (i.zero, i.size, i.bytes)) = some (some (.int .i64 0), 1, 8) := by kernel_rfl

set_option maxRecDepth 100000 in
set_option maxHeartbeats 2000000 in
theorem AppendSeq_in (F : Fence) (n : Nat) (h3 : F.fn 52) (h5 : F.fn 46) (hro : F.round = none) (hn : 3 ≤ n) (Bs : Nat) (sv : Value) (xs : List Int) (hbytes : xs.length * 8 ≤ 140737488355328) (w : World) (hBs : Bs < w.heap.size) (hc : w.cell? ⟨Bs, 0, none⟩ = some sv) (hI : RdB w.heap.size w sv xs) :
    CallsIn F n Tryd.prog 52 #[.slice none 0 0, .func (.func 46) #[] #[.pointer (some ⟨Bs, 0, none⟩)]] w fun e W' => ∃ v, e = .returned v ∧ W'.ownsRow w.heap.size 3 1 v xs.length (ints xs) ∧ (v = .slice none 0 0 ↔ xs = []) ∧ Below w.heap.size w W' := by
  have h1 : 1 ≤ n := by omega
  have hlen : xs.length ≤ maxLen := by simp only [maxLen]; omega
  obtain ⟨i0, hi, hz0, hz1, hz2⟩ := info_parts infoI'
  refine callsIn_of_wp_marks Tryd.func52 rfl h3 ?_ hro
  simp only [Tryd.ntmps52, List.size_toArray, List.length_cons, List.length_nil, Nat.reduceAdd, Nat.reduceSub, Array.replicate_succ, Array.replicate_zero, List.push_toArray, List.append_toArray, List.nil_append, List.cons_append]
  gi_wp2
  have bO := Boxed.new w 24 (.slice none 0 0)
  have hB0 : Below w.heap.size w (w.alloc (.cells #[.slice none 0 0] 24)) := (Below.refl _ w).alloc (Nat.le_refl _) _
  refine wpIn_rangeFunc_ownG hro h1 (gf := 46) (lb := #[.pointer (some ⟨Bs, 0, none⟩)]) rfl h5 (enters_of Tryd.func46 (by kernel_rfl) rfl)
    (Values_stops F (n - 1) h5 hro (by omega) Bs w.heap.size sv xs _ (by simp; omega) (by simp) ((hB0.cell (p := ⟨Bs, 0, none⟩) hBs).trans hc) (hI.below hB0)) belowK_t (belowK_b (by simp)) (Below.refl _ _) (fun _ => rfl)
    (fun pre W => (∃ v, Boxed W w.heap.size 24 v ∧ W.ownsRow w.heap.size 3 1 v pre.length (ints pre) ∧ (v = .slice none 0 0 ↔ pre = [])) ∧ Below w.heap.size w W)
    (fun _ _ _ => False)
    (OwnFrom.and (Own.from (holdsRow_own w.heap.size w.heap.size 24 3 1 (fun pre => pre.length) (fun pre => ints pre) (fun pre v => v = .slice none 0 0 ↔ pre = [])) _) (ownFrom_below (Nat.le_refl _) (by simp)))
    (fun _ _ _ _ _ hs _ _ => hs)
    ⟨⟨_, bO, World.ownsRow_nil _ _ _ _, by simp⟩, hB0⟩
    (fun x => { tmps := #[.slice none 0 0, .func (.func 46) #[] #[.pointer (some ⟨Bs, 0, none⟩)], .pointer (some ⟨w.heap.size, 0, none⟩), undef, .slice none 0 0, .int .i64 x, .func (.func 46) #[] #[.pointer (some ⟨Bs, 0, none⟩)], .int .i64 x, undef, undef, undef, undef, undef], defers := [] }) ?assign ?body ?done ?stop
  case assign =>
    intro l x W K hK
    gi_wp2
    exact hK
  case body =>
    rintro l pre x W ⟨⟨v, hv, hrow, hnil⟩, hB⟩ hlt
    have hc := hv.cell
    gi_wp2_with (gi_at_builtin; refine wpListIn_append_own _ rfl _ _ 24 rfl w.heap.size 3 i0 (.int .i64 0) 1 8 uIntsI hi hz0 hz1 hz2 rfl (by decide) _ _ _ rfl (hrow.alloc _) ⟨W.heap.size, 0, none⟩ 1 1 [.int .i64 x] rfl rfl (cell_one_new _ _ _) (by simp [Value.oneCell']) (by omega) (by omega) (by have := hB.size; simp; omega) ?_; intro v' w1 hown' hgrow _; obtain ⟨g', cap', rfl⟩ := ownsRow_succ hown'; obtain ⟨hv1, hv2, hr2, hk2, hb2⟩ := hv.appended (by decide) hrow hB.size (Nat.le_refl _) hown' hgrow; have hc1 := hv1.cell; have hf1 := hv1.frozen)
    exact ⟨hk2.from _, hb2, ⟨_, hv2, by rw [ints_append, ints_one]; simpa using hr2, by simp⟩, hB.trans hb2⟩
  case done =>
    rintro D ys W hD rfl ⟨⟨v, hv, hrow, hnil⟩, hB⟩ hK
    have hc := hv.cell
    gi_wp2
    refine ⟨by simp, .inl ⟨_, _, rfl, run_takeDeferred hK, ?_⟩⟩
    exact ⟨_, results_tmp rfl _ _ _, v, rfl, ownsRow_putObj hrow _ hK rfl, hnil, hB.trans (belowK_b (w := w) (Nat.le_refl _) W D _ _ (by simp at hD; omega) hK rfl rfl)⟩
  case stop =>
    rintro D c pre W _ _ h _
    exact h.elim

theorem AppendSeq_any (Bs : Nat) (sv : Value) (xs : List Int) (hbytes : xs.length * 8 ≤ 140737488355328) (w : World) (hBs : Bs < w.heap.size) (hc : w.cell? ⟨Bs, 0, none⟩ = some sv) (hI : RdI w sv xs) :
    Calls Tryd.prog 52 #[.slice none 0 0, .func (.func 46) #[] #[.pointer (some ⟨Bs, 0, none⟩)]] w fun e W' => ∃ v, e = .returned v ∧ OwnI 3 w.heap.size W' v xs ∧ (v = .slice none 0 0 ↔ xs = []) ∧ Below w.heap.size w W' :=
  (callsIn_wide (n := 4)).1 (AppendSeq_in Fence.wide 4 trivial trivial rfl (by omega) Bs sv xs hbytes w hBs hc hI.b)

theorem Collect_any (Bs : Nat) (sv : Value) (xs : List Int) (hbytes : xs.length * 8 ≤ 140737488355328) (w : World) (hBs : Bs < w.heap.size) (hc : w.cell? ⟨Bs, 0, none⟩ = some sv) (hI : RdI w sv xs) :
    Calls Tryd.prog 44 #[.func (.func 46) #[] #[.pointer (some ⟨Bs, 0, none⟩)]] w fun e W' => ∃ v, e = .returned v ∧ OwnI 3 w.heap.size W' v xs ∧ (v = .slice none 0 0 ↔ xs = []) ∧ Below w.heap.size w W' := by
  have H := AppendSeq_any Bs sv xs hbytes w hBs hc hI
  clear hc hI
  go_enter Tryd.func44, Tryd.ntmps44
  go_wp2_with fail
  refine H.mono ?_
  rintro e w1 ⟨v, rfl, ho, hn, hb⟩
  have HN := Lib.hid hn
  clear hn
  go_wp2
  go_ret
  exact ⟨v, rfl, ho, HN.out, hb⟩

theorem SortedFunc_any (Bs : Nat) (sv : Value) (xs : List Int) (hne : xs ≠ []) (hbytes : xs.length * 8 ≤ 140737488355328) (w : World) (hBs : Bs < w.heap.size) (hc : w.cell? ⟨Bs, 0, none⟩ = some sv) (hI : RdI w sv xs)
    (cf : Int → Int → Int) (hO : Go.Sort.SWO (Go.Proofs.ltOf cf)) (g : Nat) (cb : Array Value)
    (eg : ∀ args w, (callFunc g args).run Tryd.prog w = .ok (.enter g args) w)
    (hp : ∀ W x y, Below w.heap.size w W → Calls Tryd.prog g (#[.int .i64 x, .int .i64 y] ++ cb) W fun e w' => e = .returned (.int .i64 (cf x y)) ∧ Bel W.heap.size W w') :
    Calls Tryd.prog 26 #[.func (.func 46) #[] #[.pointer (some ⟨Bs, 0, none⟩)], .func (.func g) #[] cb] w fun e W' => ∃ v ys, e = .returned v ∧ ys.Perm xs ∧ ys.Pairwise (fun a b => Go.Proofs.ltOf cf b a = false) ∧ OwnI 3 w.heap.size W' v ys ∧ Below w.heap.size w W' := by
  have H := Collect_any Bs sv xs hbytes w hBs hc hI
  clear hc hI
  go_enter Tryd.func26, Tryd.ntmps26
  go_wp2_with fail
  refine H.mono ?_
  rintro e w1 ⟨v, rfl, ho, hn, hb⟩
  have hv : v ≠ .slice none 0 0 := fun e => hne (hn.1 e)
  have H2 := SortFunc_any w.heap.size v xs w1 ho hv (by omega) cf hO g cb eg (fun W x y hg => hp W x y (hb.grown hg hb.size (fun k hk => (World.ownsRow.lt ho k hk).1)))
  clear hn hv hO hp eg
  go_wp2_with fail
  refine H2.mono ?_
  rintro e w2 ⟨rfl, ys, hP, hS, ho2, hb2⟩
  clear H H2
  go_wp2
  go_ret
  exact ⟨v, ys, rfl, hP, hS, ho2, hb.trans hb2⟩
end Go.Proofs.YtalbdcpbdedfiaaDoor
