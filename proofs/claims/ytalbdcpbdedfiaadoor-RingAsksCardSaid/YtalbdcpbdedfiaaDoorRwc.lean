/- Walks: ring.those, ring.Sloppy. -/
import Derived.Test.YtalbdcpbdedfiaaDoorRwb
namespace Go.Proofs.YtalbdcpbdedfiaaDoor
open Go.RowKit

/-- members, rising, each once -/
def thoseL (xs : List Int) : List Int := Lib.compact (sorted (xs.filter fun n => !decide (n ≤ 0)))

theorem those1_gives (x : Int) (W : World) : FnGives Tryd.prog 41 #[] #[.int .i64 x] (.bool (decide (x ≤ 0))) W := by
  show Calls Tryd.prog 41 #[.int .i64 x] W _
  go_enter Tryd.func41, Tryd.ntmps41
  go_wp2
  go_ret
  exact ⟨rfl, 0, rfl⟩

set_option maxRecDepth 100000 in
set_option maxHeartbeats 400000 in
theorem those_any (v : Value) (xs : List Int) (w : World) (h : RdI w v xs) (hn : xs.length * 8 ≤ 140737488351232) :
    Calls Tryd.prog 25 #[v] w fun e w' => ∃ v', e = .returned v' ∧ OwnAt 3 w.heap.size w' v' (thoseL xs) ∧ Below w.heap.size w w' := by
  have eg : ∀ args w, (callFunc 41 args).run Tryd.prog w = .ok (.enter 41 args) w := enters_of Tryd.func41 (by kernel_rfl) rfl
  have hlf := List.length_filter_le (fun n : Int => !decide (n ≤ 0)) xs
  go_enter Tryd.func25, Tryd.ntmps25
  go_wp2_with fail
  refine (Clone_any v xs w h (by omega)).mono ?_
  rintro e w1 ⟨v1, rfl, ho1, hb1⟩
  go_wp2_with fail
  refine (DeleteFunc_at w.heap.size v1 xs w1 ho1.at_ (fun x => decide (x ≤ 0)) 41 #[] eg (fun W x _ => those1_gives x W)).mono ?_
  rintro e w2 ⟨v2, rfl, ho2, hb2, _⟩
  go_wp2_with fail
  refine (Sort_any w.heap.size v2 _ w2 ho2 (by omega)).mono ?_
  rintro e w3 ⟨rfl, ho3, hb3⟩
  go_wp2_with fail
  refine (Compact_any w.heap.size v2 _ w3 ho3).mono ?_
  rintro e w4 ⟨v4, rfl, ho4, hb4⟩
  go_wp2
  go_ret
  exact ⟨v4, rfl, ho4, ((hb1.trans hb2).trans hb3).trans hb4⟩

/-! ### Sloppy -/
theorem uTargets : Tryd.prog.underlying 31 = some (.slice 35) := by kernel_rfl
theorem infoTg : (Tryd.prog.info? 35).map (fun i => (i.zero, i.size, i.bytes)) = some (some (.agg #[.int .i64 0, .int .i64 0]), 2, 16) := by kernel_rfl
/-- targets: node, for -/
def tgts (l : List (Int × Int)) : List Value := l.flatMap fun t => [.int .i64 t.1, .int .i64 t.2]
theorem tgts_one (a b : Int) : tgts [(a, b)] = [.int .i64 a, .int .i64 b] := rfl
theorem tgts_append (l m : List (Int × Int)) : tgts (l ++ m) = tgts l ++ tgts m := by simp [tgts]
/-- behind k primaries: the targets, and who may still stand in -/
def slopTo (first rest ups : List Int) : Nat → List (Int × Int) × List Int
  | 0 => ([], rest)
  | k + 1 => if ups.contains (nth first k) then ((slopTo first rest ups k).1 ++ [(nth first k, nth first k)], (slopTo first rest ups k).2) else
    match (slopTo first rest ups k).2 with
    | [] => ((slopTo first rest ups k).1, [])
    | y :: t => ((slopTo first rest ups k).1 ++ [(y, nth first k)], t)
def restL (o : List Int) (p n : Int) (ups : List Int) : List Int := ((walkTo o p 8).drop (primL o p n).length).filter fun x => !(!ups.contains x)
def slopL (o : List Int) (p n : Int) (ups : List Int) : List (Int × Int) := (slopTo (primL o p n) (restL o p n ups) ups (primL o p n).length).1
theorem slopTo_up (first rest ups : List Int) (k : Nat) (h : ups.contains (nth first k) = true) : slopTo first rest ups (k + 1) = ((slopTo first rest ups k).1 ++ [(nth first k, nth first k)], (slopTo first rest ups k).2) := by
  show (if _ then _ else _) = _
  rw [if_pos h]
theorem slopTo_none (first rest ups : List Int) (k : Nat) (h : ups.contains (nth first k) = false) (hr : (slopTo first rest ups k).2 = []) : slopTo first rest ups (k + 1) = ((slopTo first rest ups k).1, []) := by
  show (if _ then _ else _) = _
  rw [if_neg (by rw [h]; decide), hr]
theorem slopTo_some (first rest ups : List Int) (k : Nat) (h : ups.contains (nth first k) = false) (y : Int) (t : List Int) (hr : (slopTo first rest ups k).2 = y :: t) : slopTo first rest ups (k + 1) = ((slopTo first rest ups k).1 ++ [(y, nth first k)], t) := by
  show (if _ then _ else _) = _
  rw [if_neg (by rw [h]; decide), hr]
theorem slopTo_le (first rest ups : List Int) (k : Nat) : (slopTo first rest ups k).1.length ≤ k := by
  induction k with
  | zero => simp [slopTo]
  | succ k ih =>
    unfold slopTo
    split
    · simp; omega
    · split
      · simp; omega
      · simp; omega

theorem Sloppy1_gives (x : Int) (B : Nat) (v : Value) (ups : List Int) (W : World) (hc : W.cell? ⟨B, 0, none⟩ = some v) (hr : RdI W v ups) :
    FnGives Tryd.prog 20 #[.pointer (some ⟨B, 0, none⟩)] #[.int .i64 x] (.bool (!ups.contains x)) W := by
  show Calls Tryd.prog 20 #[.int .i64 x, .pointer (some ⟨B, 0, none⟩)] W _
  go_enter Tryd.func20, Tryd.ntmps20
  go_wp2_with fail
  refine (Contains_any v ups x W hr).mono ?_
  rintro e w1 ⟨rfl, rfl⟩
  go_wp2
  go_ret
  exact ⟨by simp, 0, rfl⟩

set_option maxRecDepth 100000 in
set_option maxHeartbeats 400000 in
theorem Sloppy_any (o : List Int) (ho : o.length = 8) (p n : Int) (hp : p ≤ 9223372036854775807) (hn : n ≤ 9223372036854775807) (v : Value) (ups : List Int) (w : World) (hv : RdI w v ups) :
    Calls Tryd.prog 10 #[.agg (ints o).toArray, .int .i64 p, .int .i64 n, v] w fun e w' => ∃ v', e = .returned v' ∧ w'.ownsRow w.heap.size 35 2 v' (slopL o p n ups).length (tgts (slopL o p n ups)) ∧ Below w.heap.size w w' := by
  have Ho := Lib.hid ho
  clear ho
  have eg : ∀ args w, (callFunc 20 args).run Tryd.prog w = .ok (.enter 20 args) w := enters_of Tryd.func20 (by kernel_rfl) rfl
  have hA : ((w.alloc (Obj.cells (ints o).toArray 23)).alloc (Obj.cells #[v] 24)).heap[w.heap.size]? = some (Obj.cells (ints o).toArray 23 (0, 0)) := heap_alloc2_old w _ _
  have hU : ((w.alloc (Obj.cells (ints o).toArray 23)).alloc (Obj.cells #[v] 24)).heap[w.heap.size + 1]? = some (Obj.cells #[v] 24 (0, 0)) := heap_alloc2_new w _ _
  have hs0 : ((w.alloc (Obj.cells (ints o).toArray 23)).alloc (Obj.cells #[v] 24)).heap.size = w.heap.size + 2 := by simp
  have hb0 : Bel w.heap.size w ((w.alloc (Obj.cells (ints o).toArray 23)).alloc (Obj.cells #[v] 24)) := ((Bel.refl _ _).alloc (Nat.le_refl _) _).alloc (by simp) _
  obtain ⟨A0, c0, rfl, hvm, hvc, hvr⟩ := id hv
  go_enter Tryd.func10, Tryd.ntmps10
  go_wp2_with (refine wpList_load_arr rfl _ _ rfl _ rfl _ o 8 Ho.out hA _ uOwners sOwners ?_)
  generalize (w.alloc (Obj.cells (ints o).toArray 23)).alloc (Obj.cells #[Value.slice A0 ups.length c0] 24) = w0 at *
  have HA := Lib.hid hA
  have HU := Lib.hid hU
  have HS0 := Lib.hid hs0
  have hv0 : RdI w0 (.slice A0 ups.length c0) ups := hv.below (hb0.bel)
  have HVR := Lib.hid hvr
  clear hA hU hs0 hvr
  refine (Primaries_any o Ho.out p n hp hn w0).mono ?_
  rintro e w1 ⟨vf, rfl, hof, hbf⟩
  have hlf : (primL o p n).length ≤ (walkTo o p 8).length := by unfold primL; rw [List.length_take]; omega
  have hl8 := walkTo_le o p 8
  obtain ⟨Af, cf, rfl, hfm, hfc, hfr⟩ := id hof.rd
  have HFR := Lib.hid hfr
  clear hfr
  go_wp2_with (refine wpList_load_arr rfl _ _ rfl _ rfl _ o 8 Ho.out (hbf.block' HA.out) _ uOwners sOwners ?_)
  refine (walk_any o Ho.out p hp w1).mono ?_
  rintro e w2 ⟨vr, rfl, hor, hbr⟩
  obtain ⟨Ar, cr, V, rfl, hsl, hoV, _⟩ := slice_from_at uInts sInt hor.at_ (primL o p n).length hlf
  go_wp2_with fail
  clear hsl
  have hbU : w2.heap[w.heap.size + 1]? = some (Obj.cells #[.slice A0 ups.length c0] 24 (0, 0)) := hbr.block' (hbf.block' HU.out)
  have hv2 : RdI w2 (.slice A0 ups.length c0) ups := (hv0.below hbf.bel).below hbr.bel
  have hszU : w.heap.size + 1 < w1.heap.size := by have := hbf.size; rw [HS0.out] at this; omega
  refine (DeleteFunc_at w1.heap.size V _ w2 hoV (fun x => !ups.contains x) 20 #[.pointer (some ⟨w.heap.size + 1, 0, none⟩)] eg (fun W x hg => Sloppy1_gives x (w.heap.size + 1) (.slice A0 ups.length c0) ups W ?_ ?_)).mono ?_
  · have hB : W.heap[w.heap.size + 1]? = some (Obj.cells #[.slice A0 ups.length c0] 24 (0, 0)) := by
      rw [hg.block _ (Array.getElem?_eq_some_iff.1 hbU).1 (fun e => by have := (hoV.lt _ e.symm).1; omega)]; exact hbU
    rw [cell_of_row _ _ _ _ _ _ hB]; rfl
  · have h1 : Below w.heap.size w w2 := (hb0.bel.trans (hbf.bel.mono hb0.size)).trans (hbr.bel.mono (by omega))
    exact hv.below (h1.grown hg h1.size (fun k hk => by have := (hoV.lt k hk).1; omega))
  · rintro e w3 ⟨V3, rfl, ho3, hb3, _⟩
    have hB3 : w3.heap[w.heap.size + 1]? = some (Obj.cells #[.slice A0 ups.length c0] 24 (0, 0)) := (hb3.block _ hszU).trans hbU
    have hv3 : RdI w3 (.slice A0 ups.length c0) ups := hv.below (((hb0.bel.trans (hbf.bel.mono hb0.size)).trans (hbr.bel.mono (by omega))).trans (hb3.mono (by omega)))
    have hf3 : RdI w3 (.slice Af (primL o p n).length cf) (primL o p n) := hof.rd.below (hbr.bel.trans hb3)
    have hr3 : RdI w3 V3 (restL o p n ups) := ho3.rd
    have HB3 := Lib.hid hB3
    clear hB3
    go_wp2
    go_loopw [10, 11, 28] (fun r v i wr => ∃ k : Nat, k ≤ (primL o p n).length ∧ i = .int .i64 k ∧ wr.ownsRow w3.heap.size 35 2 v (slopTo (primL o p n) (restL o p n ups) ups k).1.length (tgts (slopTo (primL o p n) (restL o p n ups) ups k).1) ∧ RdI w3 r (slopTo (primL o p n) (restL o p n ups) ups k).2 ∧ Below w3.heap.size w3 wr) (fun _ _ i _ => (primL o p n).length - (intOf i).toNat)
    case atStart => exact ⟨0, Nat.zero_le _, rfl, World.ownsRow_nil _ _ _ _, hr3, Below.refl _ _⟩
    case round =>
      obtain ⟨k, hk, rfl, hown, hrr, hbl⟩ := hrel
      have hsz := hbl.size
      have hl := slopTo_le (primL o p n) (restL o p n ups) ups k
      have cu : wr.cell? ⟨w.heap.size + 1, 0, none⟩ = some (.slice A0 ups.length c0) := by
        rw [cell_of_row _ _ _ _ _ _ ((hbl.block _ (Array.getElem?_eq_some_iff.1 HB3.out).1).trans HB3.out)]; rfl
      have hc := Contains_any (.slice A0 ups.length c0) ups (nth (primL o p n) k) wr (hv3.below hbl)
      by_cases hlt : k < (primL o p n).length
      · obtain ⟨bf, offf, rfl, cf1⟩ := (hf3.below hbl).at_ k hlt
        by_cases e2 : ups.contains (nth (primL o p n) k) = true
        · have HW := Lib.hid (slopTo_up (primL o p n) (restL o p n ups) ups k e2)
          rw [e2] at hc
          clear e2
          go_wp2_with (first | (go_at_call 21; refine hc.mono ?_; rintro e w4 ⟨rfl, rfl⟩) | (at_builtin; refine wpList_append1 rfl _ _ _ rfl w3.heap.size _ (.agg #[.int .i64 0, .int .i64 0]) 2 16 uTargets infoTg rfl (by decide) wr u11 _ _ rfl (by exact hown) #[.int .i64 (nth (primL o p n) k), .int .i64 (nth (primL o p n) k)] rfl rfl (by simp [Value.oneCell']) (by omega) (by simp only [maxLen]; omega) hsz ?_; intro v' w4 hown1 hg1 hb1 hne1))
          go_roundw
          case rel => exact ⟨k + 1, by omega, by go_num, by rw [HW.out, tgts_append, tgts_one]; simpa using hown1, by rw [HW.out]; exact hrr, hbl.trans hb1.bel⟩
          case measure => simp [intOf]; omega
        · rw [Bool.not_eq_true] at e2
          obtain ⟨R, hR⟩ : ∃ R, (slopTo (primL o p n) (restL o p n ups) ups k).2 = R := ⟨_, rfl⟩
          rw [hR] at hrr
          cases R with
          | nil =>
            have HW := Lib.hid (slopTo_none (primL o p n) (restL o p n ups) ups k e2 hR)
            rw [e2] at hc
            clear e2 hR
            obtain ⟨A2, c2, rfl, hr2⟩ := id hrr
            go_wp2_with (first | (go_at_call 21; refine hc.mono ?_; rintro e w4 ⟨rfl, rfl⟩))
            go_roundw
            case rel => exact ⟨k + 1, by omega, by go_num, by rw [HW.out]; exact hown, by rw [HW.out]; exact hrr, hbl⟩
            case measure => simp [intOf]; omega
          | cons y t =>
            have HW := Lib.hid (slopTo_some (primL o p n) (restL o p n ups) ups k e2 y t hR)
            rw [e2] at hc
            clear e2 hR
            obtain ⟨A2, c2, V2, rfl, hsl', hV2⟩ := slice_from_rd uInts sInt hrr 1 (by simp)
            obtain ⟨b2, o2, rfl, cy'⟩ := (hrr.below hbl).at_ 0 (by simp)
            have hsl : ∀ W, (Instr.slice 24 (.slice (some ⟨b2, o2, none⟩) (t.length + 1) c2) (some (.int .i64 1)) none none).run Tryd.prog W = .ok V2 W := hsl'
            have cy : wr.cell? ⟨b2, o2, none⟩ = some (.int .i64 y) := cy'
            clear hsl' cy'
            go_wp2_with (first | (go_at_call 21; refine hc.mono ?_; rintro e w4 ⟨rfl, rfl⟩) | (at_builtin; refine wpList_append1 rfl _ _ _ rfl w3.heap.size _ (.agg #[.int .i64 0, .int .i64 0]) 2 16 uTargets infoTg rfl (by decide) wr u11 _ _ rfl (by exact hown) #[.int .i64 y, .int .i64 (nth (primL o p n) k)] rfl rfl (by simp [Value.oneCell']) (by omega) (by simp only [maxLen]; omega) hsz ?_; intro v' w4 hown1 hg1 hb1 hne1))
            go_roundw
            case rel => exact ⟨k + 1, by omega, by go_num, by rw [HW.out, tgts_append, tgts_one]; simpa using hown1, by rw [HW.out]; exact hV2, hbl.trans hb1.bel⟩
            case measure => simp [intOf]; omega
      · obtain rfl : k = (primL o p n).length := by omega
        go_wp2
        go_ret
        have z0 := hb0.size
        have z1 := hbf.size
        have z2 := hbr.size
        have z3 := hb3.size
        exact ⟨_, rfl, ownsRow_mono hown (by omega), (((hb0.bel.trans (hbf.bel.mono z0)).trans (hbr.bel.mono (by omega))).trans (hb3.mono (by omega))).trans (hbl.mono (by omega))⟩
end Go.Proofs.YtalbdcpbdedfiaaDoor
