/- Walks: the reference's Claim. -/
import Derived.Test.YtalbdcpbdedfiaaCc
namespace Go.Proofs.Ytalbdcpbdedfiaa
open Go.RowKit

theorem own_form {E B : Nat} {w : World} {v : Value} {n : Nat} {xs : List Value} (h : w.ownsRow B E 1 v n xs) (hn : 0 < n) : ∃ g c, v = .slice (some ⟨g, 0, none⟩) n c ∧ B ≤ g ∧ g < w.heap.size := by
  rcases h.2 with ⟨_, h0⟩ | ⟨g, cap, cur, rfl, hb, hh, _⟩
  · omega
  · exact ⟨g, cap, rfl, hb, (Array.getElem?_eq_some_iff.1 hh).1⟩
/-- the state of the reference's division in a world: the quotas left, in the slice at g, and the array at BO -/
def RSt (B g c BO : Nat) (l : List Int) (base : World) (s : (Int → Int) × List Int) (w : World) : Prop :=
  w.ownsRow B 3 1 (.slice (some ⟨g, 0, none⟩) l.length c) l.length (ints (l.map s.1)) ∧ w.heap[BO]? = some (.cells (ints s.2).toArray 23 (0, 0)) ∧ Kept2 g BO base w ∧ s.2.length = 8 ∧ ∀ z, s.1 z ≤ 9
theorem RSt.drewN {B g c BO : Nat} {l : List Int} {base w : World} {s : (Int → Int) × List Int} (h : RSt B g c BO l base s w) (n : Nat) : RSt B g c BO l base s (w.drewN n) :=
  ⟨h.1, h.2.1, ⟨h.2.2.1.os, h.2.2.1.tape, h.2.2.1.output, h.2.2.1.size, h.2.2.1.block⟩, h.2.2.2⟩
theorem RSt.q {B g c BO : Nat} {l : List Int} {base w : World} {s : (Int → Int) × List Int} (h : RSt B g c BO l base s w) (j : Nat) (hj : j < l.length) : w.cell? ⟨g, j, none⟩ = some (.int .i64 (s.1 (nth l j))) ∧ w.frozen? ⟨g, j, none⟩ = false := by
  refine ⟨?_, World.ownsRow.frozenAt h.1 j⟩
  rw [World.ownsRow.cellAt h.1 j (by omega), ints_get _ _ (by simpa using hj)]
  congr 2
  simp [nth, List.getD_eq_getElem?_getD, hj]
theorem RSt.o {B g c BO : Nat} {l : List Int} {base w : World} {s : (Int → Int) × List Int} (h : RSt B g c BO l base s w) (j : Nat) (hj : j < 8) : w.cell? ⟨BO, j, none⟩ = some (.int .i64 (nth s.2 j)) ∧ w.frozen? ⟨BO, j, none⟩ = false :=
  ⟨row_cell s.2 (by rw [h.2.2.2.1]; exact hj) h.2.1, by simp [World.frozen?, h.2.1]⟩
theorem map_upd (f : Int → Int) (l : List Int) (j : Nat) (y : Int) (hl : l.Nodup) (hj : j < l.length) : l.map (upd f (nth l j) y) = (l.map f).set j y := by
  apply List.ext_getElem
  · simp
  · intro i h1 h2
    rw [List.getElem_map, List.getElem_set]
    simp only [List.length_map] at h1
    rw [← nth_get l i h1]
    by_cases e : j = i
    · subst e; rw [if_pos rfl, upd_same]
    · rw [if_neg e, upd_other _ _ _ _ (nodup_nth hl h1 hj (fun h => e h.symm)), List.getElem_map, ← nth_get l i h1]
theorem RSt.take {B g c BO : Nat} {l : List Int} {base w : World} {s : (Int → Int) × List Int} (h : RSt B g c BO l base s w) (hne : BO ≠ g) (hl : l.Nodup) (p j : Nat) (hj : j < l.length) (h0 : 0 < s.1 (nth l j)) :
    RSt B g c BO l base (takeS s p (nth l j)) ((w.setCell ⟨BO, p, none⟩ (.int .i64 (nth l j))).setCell ⟨g, j, none⟩ (.int .i64 (s.1 (nth l j) - 1))) := by
  obtain ⟨h1, h2, h3, h4, h5⟩ := h
  rw [takeS_yes _ _ _ h0]
  have g1 : w.grownBy (w.setCell ⟨BO, p, none⟩ (.int .i64 (nth l j))) (some BO) := ⟨rfl, rfl, rfl, by simp, fun k _ hk => heap_setCell_other w ⟨BO, p, none⟩ k _ (fun e => hk (by simp [e]))⟩
  have k1 := World.ownsRow.kept h1 g1 (.inr (by simpa [Value.ownBlock] using fun e : g = BO => hne e.symm))
  have k2 := (World.ownsRow.stored k1 j (.int .i64 (s.1 (nth l j) - 1))).1
  refine ⟨?_, ?_, ?_, ?_, fun z => ?_⟩
  · show World.ownsRow _ _ _ _ _ _ (ints (l.map (upd s.1 (nth l j) (s.1 (nth l j) - 1))))
    rw [map_upd _ _ _ _ hl hj]
    have e : ints ((l.map s.1).set j (s.1 (nth l j) - 1)) = (ints (l.map s.1)).set j (.int .i64 (s.1 (nth l j) - 1)) := by simp [ints, List.map_set]
    rw [e]; exact k2
  · show _ = some (Obj.cells (ints (s.2.set p (nth l j))).toArray 23 (0, 0))
    rw [heap_setCell_other _ ⟨g, j, none⟩ _ _ hne, heap_setCell_same _ _ _ _ _ _ h2, ints_set]
  · refine ⟨h3.os, h3.tape, h3.output, by simpa using h3.size, fun k hk ha hb => ?_⟩
    rw [heap_setCell_other _ ⟨g, j, none⟩ _ _ ha, heap_setCell_other _ ⟨BO, p, none⟩ _ _ hb]
    exact h3.block k hk ha hb
  · simpa using h4
  · show upd _ _ _ z ≤ 9
    unfold upd
    split
    · have := h5 (nth l j); omega
    · exact h5 z

set_option maxRecDepth 100000 in
set_option maxHeartbeats 400000 in
theorem RefClaim_none (o : List Int) (v : Value) (xs : List Int) (w : World) (hv : RdI w v xs) (hn : xs.length * 8 ≤ 140737488351232) (h0 : thoseL xs = []) :
    Calls Try.prog 10 #[.agg (ints o).toArray, v] w fun e w' => e = .returned (.agg (ints zeros8).toArray) ∧ Below w.heap.size w w' := by
  go_enter Try.func10, Try.ntmps10
  go_wp2_with fail
  have hs0 : ((w.alloc (Obj.cells (ints o).toArray 23)).alloc (Obj.cells (ints zeros8).toArray 23)).heap.size = w.heap.size + 2 := by simp
  have hR : ((w.alloc (Obj.cells (ints o).toArray 23)).alloc (Obj.cells (ints zeros8).toArray 23)).heap[w.heap.size + 1]? = some (Obj.cells (ints zeros8).toArray 23 (0, 0)) := heap_alloc2_new w _ _
  have hb0 : Bel w.heap.size w ((w.alloc (Obj.cells (ints o).toArray 23)).alloc (Obj.cells (ints zeros8).toArray 23)) := ((Bel.refl _ _).alloc (Nat.le_refl _) _).alloc (by simp) _
  change Calls _ _ _ ((w.alloc (Obj.cells (ints o).toArray 23)).alloc (Obj.cells (ints zeros8).toArray 23)) _
  generalize (w.alloc (Obj.cells (ints o).toArray 23)).alloc (Obj.cells (ints zeros8).toArray 23) = w0 at *
  refine (RefThose_any v xs w0 (hv.below hb0.bel) hn).mono ?_
  rintro e w1 ⟨vl, rfl, hol, hbl⟩
  rw [h0] at hol
  obtain ⟨Al, cl, rfl, _⟩ := hol.rd
  have HR := Lib.hid (hbl.block' hR)
  have HS0 := Lib.hid hs0
  have HH0 := Lib.hid h0
  clear hR hs0 h0
  have h01 := hbl.size
  have hlt : w.heap.size + 1 < w1.heap.size := by rw [HS0.out] at h01; omega
  go_wp2_with (refine wpList_store_arr rfl _ _ _ rfl (w.heap.size + 1) zeros8 rfl rfl _ zeros8 8 rfl rfl ((Below.heap_alloc w1 _ _ hlt).trans HR.out) sOwners ?_; intro w2 hg2 hk2)
  refine bodyPost_ret (results_cell_arr rfl _ _ (w.heap.size + 1) _ zeros8 8 rfl rfl hg2 _ uOwners sOwners) rfl ⟨rfl, ?_⟩
  exact ((hb0.bel.trans (hbl.bel.mono hb0.size)).alloc (by omega) _).trans (hk2.below (by simp; omega) (by omega) (by omega))

set_option maxRecDepth 100000 in
set_option maxHeartbeats 4000000 in
theorem RefClaim_some (o : List Int) (ho : o.length = 8) (v : Value) (xs : List Int) (w : World) (hv : RdI w v xs) (hn : xs.length * 8 ≤ 140737488351232) (h0 : thoseL xs ≠ []) :
    Calls Try.prog 10 #[.agg (ints o).toArray, v] w fun e w' => e = .returned (.agg (ints (claimR o (thoseL xs))).toArray) ∧ Below w.heap.size w w' := by
  have hnd : (thoseL xs).Nodup := those_nodup xs
  have hle := those_le xs
  go_enter Try.func10, Try.ntmps10
  go_wp2_with fail
  have hs0 : ((w.alloc (Obj.cells (ints o).toArray 23)).alloc (Obj.cells (ints zeros8).toArray 23)).heap.size = w.heap.size + 2 := by simp
  have hA : ((w.alloc (Obj.cells (ints o).toArray 23)).alloc (Obj.cells (ints zeros8).toArray 23)).heap[w.heap.size]? = some (Obj.cells (ints o).toArray 23 (0, 0)) := heap_alloc2_old w _ _
  have hR : ((w.alloc (Obj.cells (ints o).toArray 23)).alloc (Obj.cells (ints zeros8).toArray 23)).heap[w.heap.size + 1]? = some (Obj.cells (ints zeros8).toArray 23 (0, 0)) := heap_alloc2_new w _ _
  have hb0 : Bel w.heap.size w ((w.alloc (Obj.cells (ints o).toArray 23)).alloc (Obj.cells (ints zeros8).toArray 23)) := ((Bel.refl _ _).alloc (Nat.le_refl _) _).alloc (by simp) _
  change Calls _ _ _ ((w.alloc (Obj.cells (ints o).toArray 23)).alloc (Obj.cells (ints zeros8).toArray 23)) _
  generalize (w.alloc (Obj.cells (ints o).toArray 23)).alloc (Obj.cells (ints zeros8).toArray 23) = w0 at *
  refine (RefThose_any v xs w0 (hv.below hb0.bel) hn).mono ?_
  rintro e w1 ⟨vl, rfl, hol, hbl⟩
  have hrl := hol.rd
  generalize hl : thoseL xs = l at *
  obtain ⟨Al, cl, rfl, hlm, hlc, _⟩ := id hrl
  have h01 := hbl.size
  have hpos : 0 < l.length := List.length_pos_iff.2 h0
  have hA1 := hbl.block' hA
  have hR1 := hbl.block' hR
  have hw1 : w.heap.size + 1 < w1.heap.size := by rw [hs0] at h01; omega
  have HA1 := Lib.hid hA1
  have HR1 := Lib.hid hR1
  have HL := Lib.hid hl
  have HO := Lib.hid ho
  have HND := Lib.hid hnd
  clear hA hR hA1 hR1 hl hs0 ho h0 hnd
  have hz : ((l.length : Int) == 0) = false := by rw [beq_eq_false_iff_ne]; omega
  go_wp2_with (refine wpList_load_arr rfl _ _ rfl _ rfl _ o 8 HO.out ((Below.heap_alloc w1 _ _ (by omega)).trans HA1.out) _ uOwners sOwners ?_)
  change Calls _ _ _ (w1.alloc (Obj.cells (ints zeros8).toArray 23)) _
  have hs2 : (w1.alloc (Obj.cells (ints zeros8).toArray 23)).heap.size = w1.heap.size + 1 := by simp
  have hO2 : (w1.alloc (Obj.cells (ints zeros8).toArray 23)).heap[w1.heap.size]? = some (Obj.cells (ints zeros8).toArray 23 (0, 0)) := heap_alloc_new w1 _
  have hb2 : Bel w1.heap.size w1 (w1.alloc (Obj.cells (ints zeros8).toArray 23)) := (Bel.refl _ _).alloc (Nat.le_refl _) _
  generalize w1.alloc (Obj.cells (ints zeros8).toArray 23) = w2 at *
  refine (RefQuotas_any o HO.out _ l w2 (hrl.below hb2.bel) (by omega)).mono ?_
  rintro e w3 ⟨vq, rfl, hoq, hb3⟩
  have hoq' : w3.ownsRow w2.heap.size 3 1 vq l.length (ints (l.map (fR o l))) := by
    have := hoq
    unfold OwnI at this
    rwa [List.length_map] at this
  obtain ⟨g, cq, rfl, hg2, hg3⟩ := own_form hoq' hpos
  have hs3 := hb3.size
  have hgO : w1.heap.size ≠ g := by omega
  have HOq := Lib.hid hoq'
  have HO3 := Lib.hid (hb3.block' hO2)
  have HA3 := Lib.hid (hb3.block' (hb2.block' HA1.out))
  have HR3 := Lib.hid (hb3.block' (hb2.block' HR1.out))
  have HLB3 : Hid (RdB w1.heap.size w3 (.slice Al l.length cl) l) := hrl.b.below (hb2.bel.trans (hb3.bel.mono hb2.size))
  have HB3 : Hid (Below w.heap.size w w3) := ((hb0.bel.trans (hbl.bel.mono hb0.size)).trans (hb2.bel.mono (by omega))).trans (hb3.bel.mono (by omega))
  have hs2a : w1.heap.size + 1 ≤ w2.heap.size := by omega
  have hs2b : w2.heap.size ≤ w1.heap.size + 1 := by omega
  have hw3 : w1.heap.size + 1 < w3.heap.size := by omega
  have hlm' : l.length ≤ 9223372036854775807 := by simpa [maxLen] using hlm
  have HST0 := Lib.hid (show RSt w2.heap.size g cq w1.heap.size l w3 (keepR o l (fR o l) 0) w3 from ⟨HOq.out, HO3.out, Kept2.refl _ _ _, rfl, fun z => (fR_bd o l z).2⟩)
  clear hO2 hoq hoq' hs2
  go_wp2
  go_loopw [8] (fun i wr => ∃ k : Nat, k ≤ 8 ∧ i = .int .i64 k ∧ RSt w2.heap.size g cq w1.heap.size l w3 (keepR o l (fR o l) k) wr) (fun i _ => 8 - (intOf i).toNat)
  case atStart => exact ⟨0, by omega, rfl, HST0.out⟩
  case round =>
    obtain ⟨k, hk, rfl, hst⟩ := hrel
    have HST := Lib.hid hst
    clear hst
    by_cases hlt8 : k < 8
    · have HNX : Hid (keepR o l (fR o l) (k + 1) = keepK o l (keepR o l (fR o l) k) k l.length) := rfl
      generalize keepR o l (fR o l) k = S at *
      go_wp2
      go_loopw [9] (fun j wi => ∃ m : Nat, m ≤ l.length ∧ j = .int .i64 m ∧ RSt w2.heap.size g cq w1.heap.size l w3 (keepK o l S k m) wi) (fun j _ => l.length - (intOf j).toNat)
      case atStart => exact ⟨0, by omega, rfl, by rw [keepK_zero]; exact HST.out⟩
      case round =>
        obtain ⟨m, hm, rfl, hst⟩ := hrel
        have HSM := Lib.hid hst
        clear hst
        by_cases hltm : m < l.length
        · obtain ⟨bl, ol, rfl, _, cl1⟩ := (HLB3.out.below (HSM.out.2.2.1.below (by omega) (by omega) (Nat.le_refl _))).at_ m hltm
          have ca := row_cell o (by rw [HO.out]; exact hlt8) (HSM.out.2.2.1.block' HA3.out (by omega) (by omega))
          have cq1 := (HSM.out.q m hltm).1
          have cq2 := (HSM.out.q m hltm).2
          have co1 := (HSM.out.o k hlt8).1
          have co2 := (HSM.out.o k hlt8).2
          by_cases he : nth o k = nth l m
          · obtain ⟨e1, e2⟩ := keepK_here o l S k m HND.out hltm he
            have t1 : (nth o k == nth l m) = true := by simpa using he
            rw [e1] at HSM cq1 co1
            have E2 := Lib.hid e2
            clear e1 e2 he
            by_cases hp : 0 < S.1 (nth l m)
            · have t2 : decide (0 < S.1 (nth l m)) = true := by simpa using hp
              have h9 := HSM.out.2.2.2.2 (nth l m)
              have HT := Lib.hid (fun q => (HSM.out.drewN q).take hgO HND.out k m hltm hp)
              go_wp2
              go_quiet (fail)
              go_wp2
              go_roundw
              case rel => exact ⟨m + 1, by omega, by go_num, by rw [E2.out]; exact HT.out _⟩
              case measure => simp [intOf]; omega
            · have t2 : decide (0 < S.1 (nth l m)) = false := by simpa using hp
              have E3 := Lib.hid (takeS_no S k (nth l m) hp)
              clear hp
              go_wp2
              go_quiet (fail)
              go_wp2
              go_roundw
              case rel => exact ⟨m + 1, by omega, by go_num, by rw [E2.out, E3.out]; exact HSM.out.drewN _⟩
              case measure => simp [intOf]; omega
          · have t1 : (nth o k == nth l m) = false := by simpa using he
            have E2 := Lib.hid (keepK_other o l S k m hltm he)
            clear he
            go_wp2
            go_quiet (fail)
            go_wp2
            go_roundw
            case rel => exact ⟨m + 1, by omega, by go_num, by rw [E2.out]; exact HSM.out.drewN _⟩
            case measure => simp [intOf]; omega
        · obtain rfl : m = l.length := by omega
          go_wp2
          go_roundw
          case rel => exact ⟨k + 1, by omega, by go_num, by rw [HNX.out]; exact HSM.out⟩
          case measure => simp [intOf]; omega
    · obtain rfl : k = 8 := by omega
      have HFIN : Hid (claimR o l = (fillR l (keepR o l (fR o l) 8) 8).2) := rfl
      generalize keepR o l (fR o l) 8 = S8 at *
      go_wp2
      go_loopw [10] (fun i wi => ∃ k : Nat, k ≤ 8 ∧ i = .int .i64 k ∧ RSt w2.heap.size g cq w1.heap.size l w3 (fillR l S8 k) wi) (fun i _ => 8 - (intOf i).toNat)
      case atStart => exact ⟨0, by omega, rfl, HST.out⟩
      case round =>
        obtain ⟨k, hk, rfl, hst⟩ := hrel
        have HST := Lib.hid hst
        clear hst
        by_cases hlt8 : k < 8
        · have HNX : Hid (fillR l S8 (k + 1) = fillK l (fillR l S8 k) k l.length) := rfl
          generalize fillR l S8 k = S at *
          go_wp2
          go_loopw [11] (fun j wi => ∃ m : Nat, m ≤ l.length ∧ j = .int .i64 m ∧ RSt w2.heap.size g cq w1.heap.size l w3 (fillK l S k m) wi) (fun j _ => l.length - (intOf j).toNat)
          case atStart => exact ⟨0, by omega, rfl, HST.out⟩
          case round =>
            obtain ⟨m, hm, rfl, hst⟩ := hrel
            have HSM := Lib.hid hst
            clear hst
            by_cases hltm : m < l.length
            · obtain ⟨bl, ol, rfl, _, cl1⟩ := (HLB3.out.below (HSM.out.2.2.1.below (by omega) (by omega) (Nat.le_refl _))).at_ m hltm
              have cq1 := (HSM.out.q m hltm).1
              have cq2 := (HSM.out.q m hltm).2
              have co1 := (HSM.out.o k hlt8).1
              have co2 := (HSM.out.o k hlt8).2
              have HFS := Lib.hid (fillK_stays l S k m)
              have E2 : Hid (fillK l S k (m + 1) = if nth (fillK l S k m).2 k = 0 then takeS (fillK l S k m) k (nth l m) else fillK l S k m) := rfl
              generalize fillK l S k m = F at *
              by_cases hz0 : nth F.2 k = 0
              · have E3 := Lib.hid (E2.out.trans (if_pos hz0))
                have t1 : (nth F.2 k == 0) = true := by simpa using hz0
                clear hz0
                by_cases hp : 0 < F.1 (nth l m)
                · have h9 := HSM.out.2.2.2.2 (nth l m)
                  have HT := Lib.hid (HSM.out.take hgO HND.out k m hltm hp)
                  go_wp2
                  go_roundw
                  case rel => exact ⟨m + 1, by omega, by go_num, by rw [E3.out]; exact HT.out⟩
                  case measure => simp [intOf]; omega
                · have E4 := Lib.hid (takeS_no F k (nth l m) hp)
                  go_wp2
                  go_roundw
                  case rel => exact ⟨m + 1, by omega, by go_num, by rw [E3.out, E4.out]; exact HSM.out⟩
                  case measure => simp [intOf]; omega
              · have t1 : (nth F.2 k == 0) = false := by simpa using hz0
                have E5 : Hid (fillK l S k l.length = F) := by
                  have := HFS.out hz0 (l.length - m)
                  rw [show m + (l.length - m) = l.length by omega] at this
                  exact this
                clear hz0
                go_wp2
                go_roundw
                case rel => exact ⟨k + 1, by omega, by go_num, by rw [HNX.out, E5.out]; exact HSM.out⟩
                case measure => simp [intOf]; omega
            · obtain rfl : m = l.length := by omega
              go_wp2
              go_roundw
              case rel => exact ⟨k + 1, by omega, by go_num, by rw [HNX.out]; exact HSM.out⟩
              case measure => simp [intOf]; omega
        · obtain rfl : k = 8 := by omega
          have HR7 := Lib.hid (HST.out.2.2.1.block' HR3.out (by omega) (by omega))
          go_wp2_with (first | (refine wpList_load_arr rfl _ _ rfl _ rfl _ _ 8 HST.out.2.2.2.1 HST.out.2.1 _ uOwners sOwners ?_) | (refine wpList_store_arr rfl _ _ _ rfl (w.heap.size + 1) (fillR l S8 8).2 rfl rfl _ zeros8 8 HST.out.2.2.2.1 rfl HR7.out sOwners ?_; intro w8 hg8 hk8))
          refine bodyPost_ret (results_cell_arr rfl _ _ (w.heap.size + 1) _ (fillR l S8 8).2 8 HST.out.2.2.2.1 rfl hg8 _ uOwners sOwners) rfl ⟨?_, ?_⟩
          · rw [HL.out, HFIN.out]
          · exact (HB3.out.trans (HST.out.2.2.1.below (by omega) (by omega) (by omega))).trans (hk8.below (by have := HST.out.2.2.1.size; omega) (by omega) (by omega))
end Go.Proofs.Ytalbdcpbdedfiaa
