/- Walks: the reference's quotas. -/
import Derived.Test.YtalbdcpbdedfiaaCb
namespace Go.Proofs.Ytalbdcpbdedfiaa
open Go.RowKit

/-! ### quotas -/
theorem RefOwned8 (o : List Int) (ho : o.length = 8) (n : Int) (w : World) :
    Calls Try.prog 26 #[.agg #[.int .i64 (nth o 0), .int .i64 (nth o 1), .int .i64 (nth o 2), .int .i64 (nth o 3), .int .i64 (nth o 4), .int .i64 (nth o 5), .int .i64 (nth o 6), .int .i64 (nth o 7)], .int .i64 n] w fun e w' => ∃ A c, e = .returned (.slice A (ownedTo o n 8).length c) ∧ Bel w.heap.size w w' := by
  have h := RefOwned_any o ho n w
  rw [ints8 o ho] at h
  refine h.mono ?_
  rintro e w' ⟨v, rfl, hv, hb⟩
  obtain ⟨A, c, rfl⟩ := row_slice hv
  exact ⟨A, c, rfl, hb⟩
theorem map_take_snoc (f : Int → Int) (l : List Int) (k : Nat) (h : k < l.length) : (l.map f).take (k + 1) = (l.map f).take k ++ [f (nth l k)] := by
  rw [← List.map_take, take_snocI l k h, List.map_append, List.map_take]; rfl
def SlotBel (s : Value) (n : Nat) (w w' : World) : Prop := s = .int .i64 (n : Int) ∧ Bel w.heap.size w w'

set_option maxRecDepth 100000 in
set_option maxHeartbeats 4000000 in
theorem RefQuotas_any (o : List Int) (ho : o.length = 8) (v : Value) (l : List Int) (w : World) (hv : RdI w v l) (hn : l.length * 8 ≤ 140737488351232) :
    Calls Try.prog 24 #[.agg (ints o).toArray, v] w fun e w' => ∃ v, e = .returned v ∧ OwnI 3 w.heap.size w' v (l.map (fR o l)) ∧ Bel w.heap.size w w' := by
  obtain ⟨A, c, rfl, hlm, hlc, _⟩ := id hv
  unfold maxLen at hlm
  have HO := Lib.hid ho
  clear ho
  go_enter Try.func24, Try.ntmps24
  go_wp2
  have hA : (w.alloc (Obj.cells (ints o).toArray 23)).heap[w.heap.size]? = some (Obj.cells (ints o).toArray 23 (0, 0)) := heap_alloc_new w _
  have hs0 : (w.alloc (Obj.cells (ints o).toArray 23)).heap.size = w.heap.size + 1 := by simp
  have hb0 : Bel w.heap.size w (w.alloc (Obj.cells (ints o).toArray 23)) := (Bel.refl _ _).alloc (Nat.le_refl _) _
  have hv0 := hv.alloc (Obj.cells (ints o).toArray 23)
  generalize w.alloc (Obj.cells (ints o).toArray 23) = w0 at *
  have HA := Lib.hid hA
  have HS0 := Lib.hid hs0
  clear hA hs0
  go_loopw [5, 6] (fun v i wr => ∃ k : Nat, k ≤ l.length ∧ i = .int .i64 k ∧ OwnI 3 w0.heap.size wr v ((l.map (fR o l)).take k) ∧ Bel w0.heap.size w0 wr) (fun _ i _ => l.length - (intOf i).toNat)
  case atStart => exact ⟨0, Nat.zero_le _, rfl, OwnI.nil _ _ _, Bel.refl _ _⟩
  case round =>
    obtain ⟨k, hk, rfl, hown, hb⟩ := hrel
    by_cases hlt : k < l.length
    · have hol : ((l.map (fR o l)).take k).length ≤ k := by rw [List.length_take]; omega
      have HST := Lib.hid (map_take_snoc (fR o l) l k hlt)
      rw [fR_in o l k hlt] at HST
      generalize (l.map (fR o l)).take k = os at *
      obtain ⟨Ao, co, rfl⟩ := row_slice hown
      obtain ⟨w1, hw1⟩ : ∃ V, V = wr := ⟨wr, rfl⟩
      subst hw1
      have hs1 := hb.size
      have hd := div_bd l.length (by omega)
      go_wp2
      go_loopw [7, 8] (fun a j w2 => ∃ m : Nat, m ≤ l.length ∧ j = .int .i64 m ∧ a = .int .i64 (aheadTo o l (nth l k) m : Nat) ∧ Bel w1.heap.size w1 w2) (fun _ j _ => l.length - (intOf j).toNat)
      case atStart => exact ⟨0, Nat.zero_le _, rfl, rfl, Bel.refl _ _⟩
      case round =>
        obtain ⟨m, hm, rfl, rfl, hb2⟩ := hrel
        have hal := aheadTo_le o l (nth l k) m
        by_cases hltm : m < l.length
        · obtain ⟨w2, hw2⟩ : ∃ V, V = wr := ⟨wr, rfl⟩
          subst hw2
          have HA2 := Lib.hid (hb2.block' (hb.block' HA.out))
          have hv2 := (hv0.below hb.bel).below hb2.bel
          obtain ⟨x0, x1, x2, x3, x4, x5, x6, x7⟩ := cells8 o HO.out HA2.out
          obtain ⟨bl, ol, rfl, cm⟩ := hv2.at_ m hltm
          go_upto_region 9 with fail
          go_cut [9] (fun s wx => SlotBel s (ownedTo o (nth l m) 8).length w2 wx)
          case first =>
            go_region_with (first | (go_at_call 26; refine (RefOwned8 o HO.out _ _).mono ?_; rintro e w3 ⟨A3, c3, rfl, hb3⟩))
            all_goals (go_wp2_with fail; go_meet; exact ⟨rfl, by repeat (first | exact ((Bel.refl _ _).drewN _).trans hb3 | exact hb3 | apply Bel.drew | apply Bel.drewN)⟩)
          case rest =>
            obtain ⟨rfl, hb3⟩ := hcut
            obtain ⟨w3, hw3⟩ : ∃ V, V = wc := ⟨wc, rfl⟩
            subst hw3
            have HA3 := Lib.hid (hb3.block' HA2.out)
            have hv3 := hv2.below hb3.bel
            clear x0 x1 x2 x3 x4 x5 x6 x7
            obtain ⟨x0, x1, x2, x3, x4, x5, x6, x7⟩ := cells8 o HO.out HA3.out
            obtain ⟨b', o', e, ck⟩ := hv3.at_ k hlt
            injection e with e
            injection e with e1 e2
            subst e1 e2
            go_upto_region 10 with fail
            go_cut [10] (fun s wx => SlotBel s (ownedTo o (nth l k) 8).length w3 wx)
            case first =>
              go_region_with (first | (go_at_call 26; refine (RefOwned8 o HO.out _ _).mono ?_; rintro e w4 ⟨A4, c4, rfl, hb4⟩))
              all_goals (go_wp2_with fail; go_meet; exact ⟨rfl, by repeat (first | exact ((Bel.refl _ _).drewN _).trans hb4 | exact hb4 | apply Bel.drew | apply Bel.drewN)⟩)
            case rest =>
              obtain ⟨rfl, hb4⟩ := hcut
              obtain ⟨w4, hw4⟩ : ∃ V, V = wc := ⟨wc, rfl⟩
              subst hw4
              have cm4 := hb4.cell' (hb3.cell' cm)
              have ck4 := hb4.cell' ck
              have HX : Hid (cnt o (nth l m) = ((ownedTo o (nth l m) 8).length : Int)) := rfl
              have HY : Hid (cnt o (nth l k) = ((ownedTo o (nth l k) 8).length : Int)) := rfl
              have hx8 := ownedTo_le o (nth l m) 8
              have hy8 := ownedTo_le o (nth l k) 8
              clear x0 x1 x2 x3 x4 x5 x6 x7
              generalize (ownedTo o (nth l m) 8).length = a at *
              generalize (ownedTo o (nth l k) 8).length = b at *
              by_cases h1 : b < a
              · have t1 : decide (b < a) = true := by simpa using h1
                have HM : Hid (cnt o (nth l k) < cnt o (nth l m) ∨ (cnt o (nth l m) = cnt o (nth l k) ∧ nth l m < nth l k)) := .inl (by rw [HX.out, HY.out]; omega)
                go_wp2
                go_quiet (fail)
                go_wp2
                go_roundw
                case rel => exact ⟨m + 1, by omega, by go_num, by rw [aheadTo_hit o l _ m HM.out]; go_num, by repeat (first | exact hb2.trans ((hb3.trans (hb4.mono hb3.size)).mono hb2.size) | apply Bel.drew | apply Bel.drewN)⟩
                case measure => simp [intOf]; omega
              · have t1 : decide (b < a) = false := by simpa using h1
                by_cases h2 : a = b
                · have HE : Hid (a = b) := h2
                  subst h2
                  by_cases h3 : nth l m < nth l k
                  · have t3 : decide (nth l m < nth l k) = true := by simpa using h3
                    have HM : Hid (cnt o (nth l k) < cnt o (nth l m) ∨ (cnt o (nth l m) = cnt o (nth l k) ∧ nth l m < nth l k)) := .inr ⟨by rw [HX.out, HY.out], h3⟩
                    clear h1 h3
                    go_wp2
                    go_quiet (fail)
                    go_wp2
                    go_roundw
                    case rel => exact ⟨m + 1, by omega, by go_num, by rw [aheadTo_hit o l _ m HM.out]; go_num, by repeat (first | exact hb2.trans ((hb3.trans (hb4.mono hb3.size)).mono hb2.size) | apply Bel.drew | apply Bel.drewN)⟩
                    case measure => simp [intOf]; omega
                  · have t3 : decide (nth l m < nth l k) = false := by simpa using h3
                    have HM : Hid (¬ (cnt o (nth l k) < cnt o (nth l m) ∨ (cnt o (nth l m) = cnt o (nth l k) ∧ nth l m < nth l k))) := by show ¬ _; rw [HX.out, HY.out]; omega
                    clear h1 h3
                    go_wp2
                    go_quiet (fail)
                    go_wp2
                    go_roundw
                    case rel => exact ⟨m + 1, by omega, by go_num, by rw [aheadTo_miss o l _ m HM.out], by repeat (first | exact hb2.trans ((hb3.trans (hb4.mono hb3.size)).mono hb2.size) | apply Bel.drew | apply Bel.drewN)⟩
                    case measure => simp [intOf]; omega
                · have t2 : ((a : Int) == (b : Int)) = false := by rw [beq_eq_false_iff_ne]; omega
                  have HM : Hid (¬ (cnt o (nth l k) < cnt o (nth l m) ∨ (cnt o (nth l m) = cnt o (nth l k) ∧ nth l m < nth l k))) := by show ¬ _; rw [HX.out, HY.out]; omega
                  clear h1 h2
                  go_wp2
                  go_quiet (fail)
                  go_wp2
                  go_roundw
                  case rel => exact ⟨m + 1, by omega, by go_num, by rw [aheadTo_miss o l _ m HM.out], by repeat (first | exact hb2.trans ((hb3.trans (hb4.mono hb3.size)).mono hb2.size) | apply Bel.drew | apply Bel.drewN)⟩
                  case measure => simp [intOf]; omega
        · obtain rfl : m = l.length := by omega
          have hsz2 := Nat.le_trans hb.size hb2.size
          have hown2 := hown.below hb2.bel
          by_cases hq : ((aheadTo o l (nth l k) l.length : Nat) : Int) < 8 % (l.length : Int)
          · have HQ : Hid (quota l.length (aheadTo o l (nth l k) l.length) = 8 / (l.length : Int) + 1) := if_pos hq
            go_wp2_with (at_builtin; refine wpList_append_int rfl _ _ _ rfl w0.heap.size _ uInts infoI wr _ _ rfl (by exact hown2) (8 / (l.length : Int) + 1) rfl (by omega) hsz2 ?_; intro v' w5 hown1 hg1 hb1 hne1)
            go_roundw
            case rel => exact ⟨k + 1, by omega, by go_num, by rw [HST.out, HQ.out]; exact hown1, (hb.trans (hb2.mono hs1)).trans hb1⟩
            case measure => simp [intOf]; omega
          · have HQ : Hid (quota l.length (aheadTo o l (nth l k) l.length) = 8 / (l.length : Int)) := if_neg hq
            go_wp2_with (at_builtin; refine wpList_append_int rfl _ _ _ rfl w0.heap.size _ uInts infoI wr _ _ rfl (by exact hown2) (8 / (l.length : Int)) rfl (by omega) hsz2 ?_; intro v' w5 hown1 hg1 hb1 hne1)
            go_roundw
            case rel => exact ⟨k + 1, by omega, by go_num, by rw [HST.out, HQ.out]; exact hown1, (hb.trans (hb2.mono hs1)).trans hb1⟩
            case measure => simp [intOf]; omega
    · obtain rfl : k = l.length := by omega
      go_wp2
      go_ret
      exact ⟨_, rfl, by rw [List.take_of_length_le (by simp)] at hown; exact hown.mono (by rw [HS0.out]; omega), hb0.trans (hb.mono (by rw [HS0.out]; omega))⟩
end Go.Proofs.Ytalbdcpbdedfiaa
