/- Walks: the reference's those and quotas. -/
import Derived.Test.YtalbdcpbdedfiaaPd
import Derived.Test.YtalbdcpbdedfiaaCa
import Derived.Deep.DeepCutAuto
import Derived.Deep.CutBlock
namespace Go.Proofs.Ytalbdcpbdedfiaa
open Go.RowKit

section
variable {P : Program}
theorem RdI.cut {w : World} {A : Option Addr} {c : Nat} {xs : List Int} (h : RdI w (.slice A xs.length c) xs) (k : Nat) (hk : k ≤ xs.length) : RdI w (.slice A k c) (xs.take k) := by
  obtain ⟨A', c', e, hm, hc, hr⟩ := h
  injection e with e1 _ e3
  subst e1 e3
  have hl : (xs.take k).length = k := by rw [List.length_take]; omega
  refine ⟨A, c, by rw [hl], by omega, by omega, fun h0 => ?_⟩
  obtain ⟨b, off, e, hcell⟩ := hr (by omega)
  refine ⟨b, off, e, fun j hj => ?_⟩
  rw [hcell j (by omega)]
  congr 2
  simp [nth, List.getD_eq_getElem?_getD, show j < k by omega]
theorem run_slice_to {t e size : Nat} (ht : P.underlying t = some (.slice e)) (hs : (P.info? e).map (·.size) = some size) (A : Option Addr) (n c k : Nat) (hk : k ≤ c) (w : World) :
    (Instr.slice t (.slice A n c) none (some (.int .i64 k)) none).run P w = .ok (.slice A k c) w := by
  have ht' : P.underlying t = some (.slice (P.elem t)) := by rw [ht]; simp [Program.elem, ht]
  have he : P.elem t = e := by simp [Program.elem, ht]
  rw [run_slice_h w t A n c ht' .i64 k (by omega) (by omega), he, run_sizeOf hs]
  cases A <;> simp [Result.andThen, sliced, Addr.add_zero']
theorem run_append_none (base : Nat) (t ty e : TypeId) (i : TypeInfo) (size : Nat) (w : World) (ht : P.underlying t = some (.slice e)) (hi : P.info? e = some i)
    (v : Value) (n c : Nat) (xs : List Value) (hown : w.ownsRow base e size v n xs) :
    (Builtin.append_ #[t, t] ty #[v, .slice none 0 c]).run P w = .ok v w := by
  rcases hown.2 with ⟨rfl, rfl⟩ | ⟨g, cap, cur, rfl, _, _, hnc, _⟩
  · simp [Builtin.append_, run_underlying ht, sizeOf, typeInfo, hi, Builtin.lenOf, Builtin.firstCells]
  · simp [Builtin.append_, run_underlying ht, sizeOf, typeInfo, hi, Builtin.lenOf, Builtin.firstCells, hnc, storeCells]
/-- 'append(l, xs...)', xs may be empty -/
theorem wpList_append_intsZ {ops : Array Oper} {rest : List Oper} {o : Oper} {a : Act} {Q : Exit → Act → World → Prop} (hgd : o.guard = none) (s x : Operand) (t : TypeId)
    (ho : o.op = .call { callee := .builtin .append, args := #[s, x], argTypes := #[t, t] })
    (base : Nat) (e : TypeId) (ht : P.underlying t = some (.slice e)) (hE : (P.info? e).map (fun i => (i.zero, i.size, i.bytes)) = some (some (.int .i64 0), 1, 8))
    (w : World) (v : Value) (xs : List Int) (hs : a.eval s = v) (hown : OwnI e base w v xs)
    (y : Value) (ys : List Int) (hx : a.eval x = y) (hr : RdI w y ys)
    (hn : xs.length + ys.length < 17592186044416) (hbase : base ≤ w.heap.size)
    (h : ∀ v' w', OwnI e base w' v' (xs ++ ys) → w.grownBy w' v.ownBlock → Bel base w w' → wpList P ops Q rest (a.put o.dst v') w') : wpList P ops Q (o :: rest) a w := by
  obtain ⟨i, hi, hz, hsize, hby⟩ := info_parts hE
  have fin : ∀ v' w', (Builtin.append_ #[t, t] o.type #[v, y]).run P w = .ok v' w' → OwnI e base w' v' (xs ++ ys) → w.grownBy w' v.ownBlock → wpList P ops Q (o :: rest) a w := by
    intro v' w' hrun h2 h3
    refine wpList_plain hgd fun K hK => ?_
    have hd := run_drawn P _ _ _ _ hrun
    unfold Oper.wp execOp
    simp only [ho, resolve, invoke, builtin, Sem.run_bind, Sem.run_pure, Result.andThen_ok, List.map_toArray, List.map_cons, List.map_nil, hs, hx, hrun]
    exact hK _ _ (h v' w' h2 h3 ((Bel.refl base w).grown h3 hd hbase (fun k hk => (World.ownsRow.lt hown k hk).1)))
  obtain ⟨A, c, rfl, hlm, hlc, hc⟩ := hr
  cases A with
  | none =>
    have hy0 : ys = [] := by
      refine List.eq_nil_of_length_eq_zero (Classical.byContradiction fun hne => ?_)
      obtain ⟨b, off, e, _⟩ := hc (by omega)
      cases e
    subst hy0
    refine fin v w (run_append_none (P := P) base t o.type e i 1 w ht hi v xs.length c (ints xs) hown) (by rw [List.append_nil]; exact hown) ⟨rfl, rfl, rfl, Nat.le_refl _, fun _ _ _ => rfl⟩
  | some ad =>
    have hnews : ∀ j u, (ints ys)[j]? = some u → w.cell? (ad.add j) = some u := by
      intro j u hu
      have hj : j < ys.length := by
        have := (List.getElem?_eq_some_iff.1 hu).1
        simpa [ints] using this
      obtain ⟨b, off, e, hcell⟩ := hc (by omega)
      injection e with e
      subst e
      have ha : (⟨b, off, none⟩ : Addr).add j = ⟨b, off + j, none⟩ := by unfold Addr.add; split <;> simp_all
      rw [ha, hcell j hj]
      rw [ints_get ys j hj] at hu
      exact hu
    obtain ⟨v', w', hrun, h2, h3, h4⟩ := run_append_own (P := P) w base t o.type e i (.int .i64 0) 1 8 ht hi hz hsize hby rfl (by decide) v xs.length (ints xs) hown ad ys.length c (ints ys) (by simp [ints]) hnews (by intro u hu; unfold ints at hu; rw [List.mem_map] at hu; obtain ⟨z, _, rfl⟩ := hu; rfl) (by simp only [maxLen]; omega) (by omega) hbase
    exact fin v' w' hrun (by unfold OwnI; rw [ints_append, List.length_append]; exact h2) h3
end

/-! ### those -/
set_option maxRecDepth 100000 in
set_option maxHeartbeats 2000000 in
theorem RefThose_any (v : Value) (xs : List Int) (w : World) (hv : RdI w v xs) (hn : xs.length * 8 ≤ 140737488351232) :
    Calls Try.prog 23 #[v] w fun e w' => ∃ v, e = .returned v ∧ OwnI 3 w.heap.size w' v (thoseL xs) ∧ Bel w.heap.size w w' := by
  obtain ⟨A, c, rfl, hlm, hlc, _⟩ := id hv
  unfold maxLen at hlm
  go_enter Try.func23, Try.ntmps23
  go_wp2
  go_loopw [3, 4] (fun v i wr => ∃ k : Nat, k ≤ xs.length ∧ i = .int .i64 k ∧ OwnI 3 w.heap.size wr v (insTo xs k) ∧ Bel w.heap.size w wr) (fun _ i _ => xs.length - (intOf i).toNat)
  case atStart => exact ⟨0, Nat.zero_le _, rfl, OwnI.nil _ _ _, Bel.refl _ _⟩
  case round =>
    obtain ⟨k, hk, rfl, hown, hb⟩ := hrel
    by_cases hlt : k < xs.length
    · obtain ⟨bl, ol, rfl, cx⟩ := (hv.below hb.bel).at_ k hlt
      have hol := insTo_len xs k
      have HST : Hid (insTo xs (k + 1) = if 0 < nth xs k then ins (nth xs k) (insTo xs k) else insTo xs k) := rfl
      generalize insTo xs k = os at *
      generalize nth xs k = x at *
      obtain ⟨Ao, co, rfl⟩ := row_slice hown
      have hro := hown.rd
      obtain ⟨w1, hw1⟩ : ∃ V, V = wr := ⟨wr, rfl⟩
      subst hw1
      have hs1 := hb.size
      go_wp2
      go_loopw [5] (fun a w2 => ∃ j : Nat, j ≤ os.length ∧ a = .int .i64 j ∧ (∀ i, i < j → nth os i < x) ∧ Bel w1.heap.size w1 w2) (fun a _ => os.length - (intOf a).toNat)
      case atStart => exact ⟨0, Nat.zero_le _, rfl, fun i hi => absurd hi (Nat.not_lt_zero _), Bel.refl _ _⟩
      case round =>
        obtain ⟨j, hj, rfl, hlo, hb2⟩ := hrel
        obtain ⟨w2, hw2⟩ : ∃ V, V = wr := ⟨wr, rfl⟩
        subst hw2
        have HLO := Lib.hid hlo
        clear hlo
        have cx2 := hb2.cell' cx
        have hr2 := hro.below hb2.bel
        by_cases hlj : j < os.length
        · obtain ⟨bo, oo, rfl, cj⟩ := hr2.at_ j hlj
          by_cases h1 : nth os j < x
          · have H1 := Lib.hid h1
            go_wp2
            go_quiet (fail)
            go_wp2
            go_roundw
            case rel => exact ⟨j + 1, by omega, by go_num, fun i hi => by rcases Nat.lt_succ_iff_lt_or_eq.1 hi with h | rfl; exact HLO.out i h; exact H1.out, by repeat (first | exact hb2 | apply Bel.drew | apply Bel.drewN)⟩
            case measure => simp [intOf]; omega
          · have t1 : decide (nth os j < x) = false := by simpa using h1
            by_cases h0 : x ≤ 0
            · have t0 : decide (x ≤ 0) = true := by simpa using h0
              have HM : Hid (insTo xs (k + 1) = os) := by show _ = _; rw [HST.out, if_neg (by omega)]
              clear h0
              go_wp2
              go_quiet (fail)
              go_wp2
              go_quiet (fail)
              go_wp2
              go_roundw
              case rel => exact ⟨k + 1, by omega, by go_num, by rw [HM.out]; exact (hown.below hb2.bel).drewN _, by repeat (first | exact hb.trans (hb2.mono hs1) | apply Bel.drew | apply Bel.drewN)⟩
              case measure => simp [intOf]; omega
            · have t0 : decide (x ≤ 0) = false := by simpa using h0
              by_cases h2 : nth os j = x
              · have t2 : (nth os j == x) = true := by simpa using h2
                have HM : Hid (insTo xs (k + 1) = os) := by show _ = _; rw [HST.out, if_pos (by omega), ins_there x os j HLO.out hlj h2]
                clear h0 h1 h2
                go_wp2
                go_quiet (fail)
                go_wp2
                go_quiet (fail)
                go_wp2
                go_roundw
                case rel => exact ⟨k + 1, by omega, by go_num, by rw [HM.out]; exact (hown.below hb2.bel).drewN _, by repeat (first | exact hb.trans (hb2.mono hs1) | apply Bel.drew | apply Bel.drewN)⟩
                case measure => simp [intOf]; omega
              · have t2 : (nth os j == x) = false := by simpa using h2
                have HM : Hid (insTo xs (k + 1) = [] ++ os.take j ++ [x] ++ os.drop j) := by show _ = _; rw [HST.out, if_pos (by omega), ins_put x os j HLO.out hj (fun _ => by omega), List.nil_append]
                clear h0 h1 h2
                go_wp2
                go_quiet (fail)
                go_wp2
                go_quiet (fail)
                obtain ⟨Ac, cc, V, eV, hsl, hV⟩ := slice_from_rd uInts sInt hr2 j hj
                injection eV with eV1 _ eV3
                subst eV1 eV3
                have hslh := run_slice_to (P := Try.prog) uInts sInt (some ⟨bo, oo, none⟩) os.length co j (by obtain ⟨_, _, e, _, hc, _⟩ := id hr2; injection e with _ _ e3; omega)
                have hcut := hr2.cut j hj
                have hlc1 : (os.take j).length ≤ k := by rw [List.length_take]; omega
                have hlc2 : (os.drop j).length ≤ k := by rw [List.length_drop]; omega
                go_wp2_with (first | (at_builtin; refine wpList_append_intsZ rfl _ _ _ rfl w2.heap.size _ uInts infoI _ (.slice none 0 0) [] rfl (by exact OwnI.nil _ _ _) (.slice (some ⟨bo, oo, none⟩) j co) (os.take j) rfl (by exact hcut) (by rw [List.length_nil]; omega) (by simp) ?_; intro m1 w3 hm1 hg3 hbq; have hb3 : Bel w2.heap.size w2 w3 := ((Bel.refl _ _).drewN _).trans hbq; have cx3 := Bel.cell' hb3 cx2; have hs3 : w2.heap.size ≤ w3.heap.size := hb3.size) | (at_builtin; refine wpList_append_int rfl _ _ _ rfl w2.heap.size _ uInts infoI w3 m1 _ rfl (by exact hm1) x rfl (by rw [List.nil_append]; omega) hs3 ?_; intro m2 w4 hm2 hg4 hb4 hne4; have hs4 : w2.heap.size ≤ w4.heap.size := Nat.le_trans hs3 hb4.size) | (at_builtin; refine wpList_append_intsZ rfl _ _ _ rfl w2.heap.size _ uInts infoI w4 m2 _ rfl (by exact hm2) V (os.drop j) rfl (by exact RdI.below hV (hb3.trans hb4).bel) (by rw [List.length_append, List.nil_append, List.length_singleton, List.length_take, List.length_drop]; omega) hs4 ?_; intro m3 w5 hm3 hg5 hb5))
                go_roundw
                case rel => exact ⟨k + 1, by omega, by go_num, by rw [HM.out]; exact OwnI.mono hm3 (by have := hb2.size; omega), (hb.trans (hb2.mono hs1)).trans (((hb3.trans hb4).trans hb5).mono (by have := hb2.size; omega))⟩
                case measure => simp [intOf]; omega
        · obtain rfl : j = os.length := by omega
          have t3 : decide (os.length < os.length) = false := by simp
          by_cases h0 : x ≤ 0
          · have t0 : decide (x ≤ 0) = true := by simpa using h0
            have HM : Hid (insTo xs (k + 1) = os) := by show _ = _; rw [HST.out, if_neg (by omega)]
            clear h0
            go_wp2
            go_quiet (fail)
            go_wp2
            go_quiet (fail)
            go_wp2
            go_roundw
            case rel => exact ⟨k + 1, by omega, by go_num, by rw [HM.out]; exact (hown.below hb2.bel).drewN _, by repeat (first | exact hb.trans (hb2.mono hs1) | apply Bel.drew | apply Bel.drewN)⟩
            case measure => simp [intOf]; omega
          · have t0 : decide (x ≤ 0) = false := by simpa using h0
            have HM : Hid (insTo xs (k + 1) = [] ++ os.take os.length ++ [x] ++ os.drop os.length) := by show _ = _; rw [HST.out, if_pos (by omega), ins_put x os os.length HLO.out (Nat.le_refl _) (fun h => absurd h (Nat.lt_irrefl _)), List.nil_append]
            clear h0
            go_wp2
            go_quiet (fail)
            go_wp2
            go_quiet (fail)
            obtain ⟨Ac, cc, V, eV, hsl, hV⟩ := slice_from_rd uInts sInt hr2 os.length (Nat.le_refl _)
            injection eV with eV1 _ eV3
            subst eV1 eV3
            have hslh := run_slice_to (P := Try.prog) uInts sInt Ao os.length co os.length (by obtain ⟨_, _, e, _, hc, _⟩ := id hr2; injection e with _ _ e3; omega)
            have hcut := hr2.cut os.length (Nat.le_refl _)
            have hlc1 : (os.take os.length).length ≤ k := by rw [List.length_take]; omega
            have hlc2 : (os.drop os.length).length ≤ k := by rw [List.length_drop]; omega
            go_wp2_with (first | (at_builtin; refine wpList_append_intsZ rfl _ _ _ rfl w2.heap.size _ uInts infoI _ (.slice none 0 0) [] rfl (by exact OwnI.nil _ _ _) (.slice Ao os.length co) (os.take os.length) rfl (by exact hcut) (by rw [List.length_nil]; omega) (by simp) ?_; intro m1 w3 hm1 hg3 hbq; have hb3 : Bel w2.heap.size w2 w3 := ((Bel.refl _ _).drewN _).trans hbq; have cx3 := Bel.cell' hb3 cx2; have hs3 : w2.heap.size ≤ w3.heap.size := hb3.size) | (at_builtin; refine wpList_append_int rfl _ _ _ rfl w2.heap.size _ uInts infoI w3 m1 _ rfl (by exact hm1) x rfl (by rw [List.nil_append]; omega) hs3 ?_; intro m2 w4 hm2 hg4 hb4 hne4; have hs4 : w2.heap.size ≤ w4.heap.size := Nat.le_trans hs3 hb4.size) | (at_builtin; refine wpList_append_intsZ rfl _ _ _ rfl w2.heap.size _ uInts infoI w4 m2 _ rfl (by exact hm2) V (os.drop os.length) rfl (by exact RdI.below hV (hb3.trans hb4).bel) (by rw [List.length_append, List.nil_append, List.length_singleton, List.length_take, List.length_drop]; omega) hs4 ?_; intro m3 w5 hm3 hg5 hb5))
            go_roundw
            case rel => exact ⟨k + 1, by omega, by go_num, by rw [HM.out]; exact OwnI.mono hm3 (by have := hb2.size; omega), (hb.trans (hb2.mono hs1)).trans (((hb3.trans hb4).trans hb5).mono (by have := hb2.size; omega))⟩
            case measure => simp [intOf]; omega
    · obtain rfl : k = xs.length := by omega
      go_wp2
      go_ret
      exact ⟨_, rfl, by rw [← insTo_those]; exact hown, hb⟩
end Go.Proofs.Ytalbdcpbdedfiaa
