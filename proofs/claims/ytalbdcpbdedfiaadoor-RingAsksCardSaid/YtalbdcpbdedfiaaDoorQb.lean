/- Walks: the reference's Sloppy. -/
import Derived.Test.YtalbdcpbdedfiaaDoorQa
namespace Go.Proofs.YtalbdcpbdedfiaaDoor
open Go.RowKit

theorem own_ne {w : World} {B1 B2 e1 e2 s1 s2 n1 n2 : Nat} {v1 v2 : Value} {x1 x2 : List Value} (h1 : w.ownsRow B1 e1 s1 v1 n1 x1) (h2 : w.ownsRow B2 e2 s2 v2 n2 x2) (hne : e1 ≠ e2) : v1.ownBlock = none ∨ v1.ownBlock ≠ v2.ownBlock := by
  rcases h1.2 with ⟨rfl, _⟩ | ⟨g1, c1, cur1, rfl, _, hh1, _⟩
  · exact .inl rfl
  · right
    rcases h2.2 with ⟨rfl, _⟩ | ⟨g2, c2, cur2, rfl, _, hh2, _⟩
    · simp [Value.ownBlock]
    · simp only [Value.ownBlock]
      intro e
      injection e with e
      have e' : g1 = g2 := e
      subst e'
      rw [hh1] at hh2
      injection hh2 with hh2
      injection hh2 with _ hh2
      exact hne hh2
theorem _root_.Go.RowKit.Below.drew' {B : Nat} {a w : World} (h : Below B a w) : Below B a w.drew := h.drew
def readyB (ups used : List Int) (y : Int) : Bool := ups.contains y && !used.contains y
set_option maxRecDepth 100000 in
set_option maxHeartbeats 4000000 in
theorem RefSloppy_any (o : List Int) (ho : o.length = 8) (p n : Int) (hp : p ≤ 9223372036854775807) (hp0 : -9223372036854775808 ≤ p) (v : Value) (ups : List Int) (w : World) (hv : RdI w v ups) :
    Calls Tryd.prog 11 #[.agg (ints o).toArray, .int .i64 p, .int .i64 n, v] w fun e w' => ∃ v', e = .returned v' ∧ w'.ownsRow w.heap.size 35 2 v' (slopL o p n ups).length (tgts (slopL o p n ups)) ∧ Below w.heap.size w w' := by
  have Ho := Lib.hid ho
  clear ho
  have hA : (w.alloc (Obj.cells (ints o).toArray 23)).heap[w.heap.size]? = some (Obj.cells (ints o).toArray 23 (0, 0)) := heap_alloc_new w _
  have hs0 : (w.alloc (Obj.cells (ints o).toArray 23)).heap.size = w.heap.size + 1 := by simp
  have hb0 : Bel w.heap.size w (w.alloc (Obj.cells (ints o).toArray 23)) := (Bel.refl _ _).alloc (Nat.le_refl _) _
  obtain ⟨A0, c0, rfl, hvm, hvc, hvr⟩ := id hv
  go_enter Tryd.func11, Tryd.ntmps11
  go_wp2_with (refine wpList_load_arr rfl _ _ rfl _ rfl _ o 8 Ho.out hA _ uOwners sOwners ?_)
  generalize w.alloc (Obj.cells (ints o).toArray 23) = w0 at *
  have HA := Lib.hid hA
  have HS0 := Lib.hid hs0
  have hv0 : RdI w0 (.slice A0 ups.length c0) ups := hv.below (hb0.bel)
  clear hA hs0 hvr
  refine (RefPrimaries_any o Ho.out p n hp hp0 w0).mono ?_
  rintro e w1 ⟨vf, rfl, hof, hbf⟩
  have hlf : (primL o p n).length ≤ (walkTo o p 8).length := by unfold primL; rw [List.length_take]; omega
  have hl8 := walkTo_le o p 8
  obtain ⟨Af, cf, rfl, hfm, hfc, hfr⟩ := id hof.rd
  clear hfr
  go_wp2_with (refine wpList_load_arr rfl _ _ rfl _ rfl _ o 8 Ho.out (hbf.block' HA.out) _ uOwners sOwners ?_)
  refine (RefWalk_any o Ho.out p hp hp0 w1).mono ?_
  rintro e w2 ⟨vr, rfl, hor, hbr⟩
  obtain ⟨Ar, cr, V, rfl, hsl, hoV, _⟩ := slice_from_at uInts sInt hor.at_ (primL o p n).length hlf
  have hf2 := hof.rd.below hbr.bel
  have hr2 := hoV.rd
  have hv2 : RdI w2 (.slice A0 ups.length c0) ups := (hv0.below hbf.bel).below hbr.bel
  have HBW : Hid (Below w.heap.size w w2) := (hb0.bel.trans (hbf.bel.mono hb0.size)).trans (hbr.bel.mono (Nat.le_trans hb0.size hbf.size))
  have HSD : Hid (slopL o p n ups = (slopR (primL o p n) ((walkTo o p 8).drop (primL o p n).length) ups (primL o p n).length).1) := (slopD_eq o p n ups).symm
  have hl8f : (primL o p n).length ≤ 8 := by omega
  have hl8r : ((walkTo o p 8).drop (primL o p n).length).length ≤ 8 := by rw [List.length_drop]; omega
  obtain ⟨Av, cv, rfl, _⟩ := id hr2
  clear hof hor hoV
  generalize (walkTo o p 8).drop (primL o p n).length = rest at *
  generalize primL o p n = first at *
  go_wp2_with fail
  clear hsl
  go_loopw [11, 12, 13] (fun a u i wr => ∃ k : Nat, k ≤ first.length ∧ i = .int .i64 k ∧ wr.ownsRow w2.heap.size 35 2 a (slopR first rest ups k).1.length (tgts (slopR first rest ups k).1) ∧ OwnI 3 w2.heap.size wr u (slopR first rest ups k).2 ∧ Below w2.heap.size w2 wr) (fun _ _ i _ => first.length - (intOf i).toNat)
  case atStart => exact ⟨0, Nat.zero_le _, rfl, World.ownsRow_nil _ _ _ _, OwnI.nil _ _ _, Below.refl _ _⟩
  case round =>
    obtain ⟨k, hk, rfl, hown, hus, hbl⟩ := hrel
    have hsz := hbl.size
    have hl := slopR_le first rest ups k
    by_cases hlt : k < first.length
    · obtain ⟨bf, offf, rfl, cf1⟩ := (hf2.below hbl).at_ k hlt
      have hc := RefIn_any (.slice A0 ups.length c0) ups (nth first k) wr (hv2.below hbl)
      have hvr := hv2.below hbl
      have hl1 := hl.1
      have hl2 := hl.2
      clear hl
      by_cases e2 : ups.contains (nth first k) = true
      · have HW := Lib.hid (slopR_up first rest ups k e2)
        rw [e2] at hc
        clear e2
        have HNE := Lib.hid (own_ne hus hown (by decide))
        go_wp2_with (go_at_call 22; refine hc.mono ?_; rintro e w4 ⟨rfl, rfl⟩)
        go_region_law (refine step_append1 rfl _ _ _ rfl w2.heap.size _ (.agg #[.int .i64 0, .int .i64 0]) 2 16 uTargets infoTg rfl (by decide) wr.drew u11 _ _ rfl (by exact hown) #[.int .i64 (nth first k), .int .i64 (nth first k)] _ rfl rfl rfl (by simp [Value.oneCell']) (by omega) (by simp only [maxLen]; omega) hsz ?_; intro v' w4 hown1 hg1 hb1 hne1)
        all_goals
          have hus1 : OwnI 3 w2.heap.size w4 u12 (slopR first rest ups k).2 := OwnI.kept (w := wr.drew) hus hg1 HNE.out
          clear hg1
          go_wp2
          go_roundw
          case rel => exact ⟨k + 1, by omega, by go_num, by rw [HW.out, tgts_append, tgts_one]; simpa using hown1, by rw [HW.out]; exact hus1, hbl.drew.trans hb1.bel⟩
          case measure => simp [intOf]; omega
      · rw [Bool.not_eq_true] at e2
        have HE2 := Lib.hid e2
        rw [e2] at hc
        clear e2
        go_wp2_with (go_at_call 22; refine hc.mono ?_; rintro e w4 ⟨rfl, rfl⟩)
        obtain ⟨w3, hw3⟩ : ∃ V, V = wr := ⟨wr, rfl⟩
        subst hw3
        clear hc
        have hr3 := hr2.below hbl
        obtain ⟨Au, cu, rfl, _⟩ := id hus.rd
        go_loop [11, 12, 15, 16, 17] (fun x y i a b => x = u11 ∧ y = .slice Au (slopR first rest ups k).2.length cu ∧ ∃ m : Nat, m ≤ rest.length ∧ i = .int .i64 m ∧ ∀ j, j < m → readyB ups (slopR first rest ups k).2 (nth rest j) = false) (fun _ _ i _ _ => rest.length - (intOf i).toNat)
        case atStart => exact ⟨rfl, rfl, 0, Nat.zero_le _, rfl, fun j hj => absurd hj (Nat.not_lt_zero _)⟩
        case round =>
          obtain ⟨rfl, rfl, m, hm, rfl, hno⟩ := hrel
          have HNO := Lib.hid hno
          clear hno
          by_cases hltm : m < rest.length
          · obtain ⟨br, offr, rfl, cr1⟩ := hr3.at_ m hltm
            have hc1 := RefIn_any (.slice A0 ups.length c0) ups (nth rest m) w3 hvr
            have hc2 := RefIn_any _ (slopR first rest ups k).2 (nth rest m) w3 hus.rd
            by_cases e1 : ups.contains (nth rest m) = true
            · by_cases e2 : (slopR first rest ups k).2.contains (nth rest m) = true
              · have HR := Lib.hid (show readyB ups (slopR first rest ups k).2 (nth rest m) = false by unfold readyB; rw [e1, e2]; rfl)
                rw [e1] at hc1; rw [e2] at hc2
                clear e1 e2
                go_wp2_with (first | (go_at_call_of 22 (Value.slice A0 ups.length c0); refine hc1.mono ?_; rintro e w4 ⟨rfl, rfl⟩) | (go_at_call_of 22 (Value.slice Au (slopR first rest ups k).2.length cu); refine hc2.mono ?_; rintro e w4 ⟨rfl, rfl⟩))
                go_round
                case rel => exact ⟨rfl, rfl, m + 1, by omega, by go_num, fun j hj => by rcases Nat.lt_succ_iff_lt_or_eq.1 hj with h | rfl; exact HNO.out j h; exact HR.out⟩
                case measure => simp [intOf]; omega
              · rw [Bool.not_eq_true] at e2
                have HW := Lib.hid (slopR_some first rest ups k HE2.out (nth rest m) (find_first rest (readyB ups (slopR first rest ups k).2) m hltm HNO.out (by unfold readyB; rw [e1, e2]; rfl)))
                rw [e1] at hc1; rw [e2] at hc2
                clear e1 e2
                have HNE := Lib.hid (own_ne hown hus (by decide))
                have HC2 : Hid (∀ V, Below w2.heap.size w3 V → V.cell? ⟨br, offr + m, none⟩ = some (.int .i64 (nth rest m)) ∧ V.cell? ⟨bf, offf + k, none⟩ = some (.int .i64 (nth first k))) := fun V hV => by
                  obtain ⟨b1, o1, q1, g1⟩ := (hr2.below (hbl.trans hV)).at_ m hltm
                  obtain ⟨b3, o3, q3, g3⟩ := (hf2.below (hbl.trans hV)).at_ k hlt
                  injection q1 with q1; injection q1 with q1 q2; subst q1 q2
                  injection q3 with q3; injection q3 with q3 q4; subst q3 q4
                  exact ⟨g1, g3⟩
                go_wp2_with (first | (go_at_call_of 22 (Value.slice A0 ups.length c0); refine hc1.mono ?_; rintro e w4 ⟨rfl, rfl⟩) | (go_at_call_of 22 (Value.slice Au (slopR first rest ups k).2.length cu); refine hc2.mono ?_; rintro e w4 ⟨rfl, rfl⟩) | (at_builtin; refine wpList_append_int rfl _ _ _ rfl w2.heap.size _ uInts infoI w3 _ _ rfl (by exact hus) (nth rest m) rfl (by omega) hsz ?_; intro u' w4 hus1 hg1 hb1 hne1; have cr2 := (HC2.out w4 hb1.bel).1; have cf2 := (HC2.out w4 hb1.bel).2))
                have hown4 : w4.ownsRow w2.heap.size 35 2 u11 (slopR first rest ups k).1.length (tgts (slopR first rest ups k).1) := World.ownsRow.kept hown hg1 HNE.out
                have HNE2 := Lib.hid (own_ne hus1 hown4 (by decide))
                have hsz4 : w2.heap.size ≤ w4.heap.size := Nat.le_trans hsz hb1.size
                clear hg1
                go_region_law (refine step_append1 rfl _ _ _ rfl w2.heap.size _ (.agg #[.int .i64 0, .int .i64 0]) 2 16 uTargets infoTg rfl (by decide) w4.drew u11 _ _ rfl (by exact hown4) #[.int .i64 (nth rest m), .int .i64 (nth first k)] _ rfl rfl rfl (by simp [Value.oneCell']) (by omega) (by simp only [maxLen]; omega) hsz4 ?_; intro v' w5 hown5 hg5 hb5 hne5)
                all_goals
                  have hus5 : OwnI 3 w2.heap.size w5 u' ((slopR first rest ups k).2 ++ [nth rest m]) := OwnI.kept (w := w4.drew) hus1 hg5 HNE2.out
                  clear hg5
                  go_wp2
                  go_roundw
                  case rel => exact ⟨k + 1, by omega, by go_num, by rw [HW.out, tgts_append, tgts_one]; simpa using hown5, by rw [HW.out]; exact hus5, (hbl.trans hb1.bel).drew.trans hb5.bel⟩
                  case measure => simp [intOf]; omega
            · rw [Bool.not_eq_true] at e1
              obtain ⟨b2, hb2⟩ : ∃ b, (slopR first rest ups k).2.contains (nth rest m) = b := ⟨_, rfl⟩
              have HR := Lib.hid (show readyB ups (slopR first rest ups k).2 (nth rest m) = false by unfold readyB; rw [e1]; rfl)
              rw [e1] at hc1; rw [hb2] at hc2
              clear e1 hb2
              go_wp2_with (first | (go_at_call_of 22 (Value.slice A0 ups.length c0); refine hc1.mono ?_; rintro e w4 ⟨rfl, rfl⟩) | (go_at_call_of 22 (Value.slice Au (slopR first rest ups k).2.length cu); refine hc2.mono ?_; rintro e w4 ⟨rfl, rfl⟩))
              go_round
              case rel => exact ⟨rfl, rfl, m + 1, by omega, by go_num, fun j hj => by rcases Nat.lt_succ_iff_lt_or_eq.1 hj with h | rfl; exact HNO.out j h; exact HR.out⟩
              case measure => simp [intOf]; omega
          · obtain rfl : m = rest.length := by omega
            have HW := Lib.hid (slopR_none first rest ups k HE2.out (find_never rest (readyB ups (slopR first rest ups k).2) HNO.out))
            go_wp2
            go_roundw
            case rel => exact ⟨k + 1, by omega, by go_num, by rw [HW.out]; exact hown, by rw [HW.out]; exact hus, hbl⟩
            case measure => simp [intOf]; omega
    · obtain rfl : k = first.length := by omega
      go_wp2
      go_ret
      exact ⟨_, rfl, by rw [HSD.out]; exact ownsRow_mono hown HBW.out.size, HBW.out.trans (hbl.mono HBW.out.size)⟩
end Go.Proofs.YtalbdcpbdedfiaaDoor
