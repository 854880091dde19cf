/- Walks: the law RingMoves. -/
import Derived.Test.YtalbdcpbdedfiaaPm
import Derived.Test.YtalbdcpbdedfiaaRwh
import Derived.Deep.WholeRow
namespace Go.Proofs.Ytalbdcpbdedfiaa
open Go.RowKit

section
variable {P : Program}
/-- 'append(s, y...)': a row of numbers that can be read -/
theorem wpList_append_ints {ops : Array Oper} {rest : List Oper} {o : Oper} {a : Act} {Q : Exit → Act → World → Prop} (hgd : o.guard = none) (s x : Operand) (t : TypeId)
    (ho : o.op = .call { callee := .builtin .append, args := #[s, x], argTypes := #[t, t] })
    (base : Nat) (e : TypeId) (ht : P.underlying t = some (.slice e)) (hE : (P.info? e).map (fun i => (i.zero, i.size, i.bytes)) = some (some (.int .i64 0), 1, 8))
    (w : World) (v : Value) (xs : List Int) (hs : a.eval s = v) (hown : OwnI e base w v xs)
    (y : Value) (ys : List Int) (hx : a.eval x = y) (hr : RdI w y ys) (hy : 0 < ys.length)
    (hn : xs.length + ys.length < 17592186044416) (hbase : base ≤ w.heap.size)
    (h : ∀ v' w', OwnI e base w' v' (xs ++ ys) → w.grownBy w' v.ownBlock → Bel base w w' → wpList P ops Q rest (a.put o.dst v') w') : wpList P ops Q (o :: rest) a w := by
  obtain ⟨A, c, rfl, hlm, hlc, hc⟩ := hr
  obtain ⟨b, off, rfl, hcell⟩ := hc hy
  obtain ⟨i, hi, hz, hsize, hby⟩ := info_parts hE
  refine wpList_plain hgd fun K hK => ?_
  have hnews : ∀ j u, (ints ys)[j]? = some u → w.cell? ((⟨b, off, none⟩ : Addr).add j) = some u := by
    intro j u hu
    have hj : j < ys.length := by
      have := (List.getElem?_eq_some_iff.1 hu).1
      simpa [ints] using this
    have ha : (⟨b, off, none⟩ : Addr).add j = ⟨b, off + j, none⟩ := by unfold Addr.add; split <;> simp_all
    rw [ha, hcell j hj]
    rw [ints_get ys j hj] at hu
    exact hu
  obtain ⟨v', w', hr, h2, h3, h4⟩ := run_append_own (P := P) w base t o.type e i (.int .i64 0) 1 8 ht hi hz hsize hby rfl (by decide) v xs.length (ints xs) hown ⟨b, off, none⟩ ys.length c (ints ys) (by simp [ints]) hnews (by intro u hu; unfold ints at hu; rw [List.mem_map] at hu; obtain ⟨z, _, rfl⟩ := hu; rfl) (by simp only [maxLen]; omega) (by omega) hbase
  have hd := run_drawn P _ _ _ _ hr
  unfold Oper.wp execOp
  simp only [ho, resolve, invoke, builtin, Sem.run_bind, Sem.run_pure, Result.andThen_ok, List.map_toArray, List.map_cons, List.map_nil, hs, hx, hr]
  exact hK _ _ (h v' w' (by unfold OwnI; rw [ints_append, List.length_append]; exact h2) h3 ((Bel.refl base w).grown h3 hd hbase (fun k hk => (World.ownsRow.lt hown k hk).1)))
end
theorem store_arr8 (o : List Int) (ho : (ints o).length = 8) (w : World) :
    (storeCells ⟨w.heap.size, 0, none⟩ (ints o)).run Try.prog (w.alloc (Obj.cells #[.int .i64 0, .int .i64 0, .int .i64 0, .int .i64 0, .int .i64 0, .int .i64 0, .int .i64 0, .int .i64 0] 23)) = .ok () (w.alloc (Obj.cells (ints o).toArray 23)) :=
  run_storeCells_new w 23 _ (ints o).toArray (by rw [sOwners]; simp [ho]) (by simp [ho]) (by simp [ints, Value.oneCell'])
theorem blk {w w' : World} {k : Nat} {o : Obj} (hb : Below w.heap.size w w') (hk : w.heap[k]? = some o) : w'.heap[k]? = some o :=
  (hb.block k (Array.getElem?_eq_some_iff.1 hk).1).trans hk
theorem blk_alloc {w : World} {k : Nat} {o : Obj} (u : Obj) (hk : w.heap[k]? = some o) : (w.alloc u).heap[k]? = some o :=
  (Below.heap_alloc w u k (Array.getElem?_eq_some_iff.1 hk).1).trans hk
theorem row_slice {e size n B : Nat} {w : World} {v : Value} {xs : List Value} (h : w.ownsRow B e size v n xs) : ∃ A c, v = .slice A n c := by
  rcases h.2 with ⟨rfl, h0⟩ | ⟨g, cap, _, rfl, _⟩
  · exact ⟨none, 0, by rw [h0]⟩
  · exact ⟨_, cap, rfl⟩
theorem row_at {e size n B c : Nat} {w : World} {A : Option Addr} {xs : List Value} (h : w.ownsRow B e size (.slice A n c) n xs) (hn : 0 < n) : ∃ g, A = some ⟨g, 0, none⟩ ∧ ∀ j, j < n * size → w.cell? ⟨g, j, none⟩ = xs[j]? := by
  rcases id h.2 with ⟨_, h0⟩ | ⟨g, cap, _, e, _⟩
  · omega
  · injection e with e1 e2 e3
    subst e1
    exact ⟨g, rfl, fun j hj => World.ownsRow.cellAt h j hj⟩
theorem movs_to {more : Int} : ∀ {l : List (Int × Int × Int)}, (∀ t ∈ l, t.2.2 = more) → ∀ i, i < l.length → (movs l)[i * 3 + 2]? = some (.int .i64 more)
  | [], _, i, hi => absurd hi (Nat.not_lt_zero _)
  | t :: l, h, 0, _ => by
    have := h t (List.mem_cons_self ..)
    simp [movs, this]
  | t :: l, h, i + 1, hi => by
    have ih := movs_to (more := more) (l := l) (fun u hu => h u (List.mem_cons_of_mem _ hu)) i (by simpa using hi)
    have e : (movs (t :: l)) = [.int .i64 t.1, .int .i64 t.2.1, .int .i64 t.2.2] ++ movs l := rfl
    rw [e, List.getElem?_append_right (by simp; omega), ← ih]
    congr 1
    simp only [List.length_cons, List.length_nil]
    omega
theorem movs_from {more : Int} : ∀ {l : List (Int × Int × Int)}, (∀ t ∈ l, t.2.1 = more) → ∀ i, i < l.length → (movs l)[i * 3 + 1]? = some (.int .i64 more)
  | [], _, i, hi => absurd hi (Nat.not_lt_zero _)
  | t :: l, h, 0, _ => by
    have := h t (List.mem_cons_self ..)
    simp [movs, this]
  | t :: l, h, i + 1, hi => by
    have ih := movs_from (more := more) (l := l) (fun u hu => h u (List.mem_cons_of_mem _ hu)) i (by simpa using hi)
    have e : (movs (t :: l)) = [.int .i64 t.1, .int .i64 t.2.1, .int .i64 t.2.2] ++ movs l := rfl
    rw [e, List.getElem?_append_right (by simp; omega), ← ih]
    congr 1
    simp only [List.length_cons, List.length_nil]
    omega
theorem ints8 (o : List Int) (ho : o.length = 8) : (ints o).toArray = #[.int .i64 (nth o 0), .int .i64 (nth o 1), .int .i64 (nth o 2), .int .i64 (nth o 3), .int .i64 (nth o 4), .int .i64 (nth o 5), .int .i64 (nth o 6), .int .i64 (nth o 7)] := by
  match o, ho with
  | [_, _, _, _, _, _, _, _], _ => rfl
theorem cells8 {w : World} {k : Nat} {T : TypeId} (o : List Int) (ho : o.length = 8) (h : w.heap[k]? = some (Obj.cells (ints o).toArray T (0, 0))) :
    w.cell? ⟨k, 0, none⟩ = some (.int .i64 (nth o 0)) ∧ w.cell? ⟨k, 1, none⟩ = some (.int .i64 (nth o 1)) ∧ w.cell? ⟨k, 2, none⟩ = some (.int .i64 (nth o 2)) ∧ w.cell? ⟨k, 3, none⟩ = some (.int .i64 (nth o 3)) ∧
    w.cell? ⟨k, 4, none⟩ = some (.int .i64 (nth o 4)) ∧ w.cell? ⟨k, 5, none⟩ = some (.int .i64 (nth o 5)) ∧ w.cell? ⟨k, 6, none⟩ = some (.int .i64 (nth o 6)) ∧ w.cell? ⟨k, 7, none⟩ = some (.int .i64 (nth o 7)) := by
  rw [ints8 o ho] at h
  exact ⟨cell_of_row _ _ _ _ _ _ h, cell_of_row _ _ _ _ _ _ h, cell_of_row _ _ _ _ _ _ h, cell_of_row _ _ _ _ _ _ h, cell_of_row _ _ _ _ _ _ h, cell_of_row _ _ _ _ _ _ h, cell_of_row _ _ _ _ _ _ h, cell_of_row _ _ _ _ _ _ h⟩
theorem Balanced8 (o : List Int) (ho : o.length = 8) (v : Value) (xs : List Int) (w : World) (hv : RdI w v xs) (hn : xs.length * 8 ≤ 140737488351232) (hbal : balL o (thoseL xs) = true) :
    Calls Try.prog 11 #[.agg #[.int .i64 (nth o 0), .int .i64 (nth o 1), .int .i64 (nth o 2), .int .i64 (nth o 3), .int .i64 (nth o 4), .int .i64 (nth o 5), .int .i64 (nth o 6), .int .i64 (nth o 7)], v] w fun e w' => e = .returned (.bool true) ∧ Below w.heap.size w w' := by
  have h := Balanced_any o ho v xs w hv hn
  rw [hbal, ints8 o ho] at h
  exact h
theorem nth_ne_len {xs : List Int} {k : Nat} (h : k < xs.length) : xs ≠ [] := by intro e; subst e; exact absurd h (Nat.not_lt_zero _)
theorem RingMoves_any (v : Value) (xs : List Int) (more : Int) (w : World) (hv : RdI w v xs) (hxW : ∀ x ∈ xs, WF x) (hmW : WF more) :
    Calls Try.prog 5 #[v, .int .i64 more] w fun e w' => e = .returned (.bool true) ∧ Below w.heap.size w w' := by
  obtain ⟨A, c, rfl, hlm, hlc, _⟩ := id hv
  unfold maxLen at hlm
  go_enter Try.func5, Try.ntmps5
  go_wp2_with fail
  refine (awake_any w).mono ?_
  rintro e w1 ⟨rfl, hb1⟩
  have hv1 := hv.below hb1
  by_cases hm : more ≤ 0
  · go_wp2
    go_ret
    exact ⟨rfl, hb1⟩
  by_cases h6 : 6 < xs.length
  · go_wp2
    go_ret
    exact ⟨rfl, hb1⟩
  go_wp2
  go_loopw [6] (fun i wr => ∃ k : Nat, k ≤ xs.length ∧ i = .int .i64 k ∧ (∀ j, j < k → 0 < nth xs j ∧ nth xs j ≠ more) ∧ Below w1.heap.size w1 wr) (fun i _ => xs.length - (intOf i).toNat)
  case atStart => exact ⟨0, Nat.zero_le _, rfl, fun j hj => absurd hj (Nat.not_lt_zero _), Below.refl _ _⟩
  case round =>
    obtain ⟨k, hk, rfl, hgood, hb⟩ := hrel
    have hsz := hb.size
    have hG := Lib.hid hgood
    clear hgood
    by_cases hlt : k < xs.length
    · obtain ⟨bl, ol, rfl, cl1⟩ := (hv1.below hb).at_ k hlt
      by_cases e1 : nth xs k ≤ 0
      · go_wp2
        go_ret
        exact ⟨rfl, hb1.trans (hb.mono hb1.size)⟩
      by_cases e2 : nth xs k = more
      · go_wp2
        go_ret
        exact ⟨rfl, hb1.trans (hb.mono hb1.size)⟩
      go_wp2
      go_roundw
      case rel => exact ⟨k + 1, by omega, by go_num, fun j hj => by
        rcases Nat.lt_succ_iff_lt_or_eq.1 hj with h | rfl
        · exact hG.out j h
        · exact ⟨by omega, e2⟩, hb⟩
      case measure => simp [intOf]; omega
    · obtain rfl : k = xs.length := by omega
      by_cases h0 : xs.length = 0
      · go_wp2
        go_ret
        exact ⟨rfl, hb1.trans (hb.mono hb1.size)⟩
      have hne : xs ≠ [] := fun e => h0 (by rw [e]; rfl)
      have hpos : ∀ x ∈ xs, 0 < x ∧ x ≠ more := fun x hx => by
        obtain ⟨j, hj, rfl⟩ := mem_nth hx
        exact hG.out j hj
      have hbr : Below w.heap.size w wr := hb1.trans (hb.mono hb1.size)
      have hvr := hv1.below hb
      have hl0 := those_ne hne (fun x hx => (hpos x hx).1)
      have hp' := those_more (xs := xs) (more := more) (by omega) (fun x hx => (hpos x hx).2)
      have hl0' : thoseL (xs ++ [more]) ≠ [] := fun e => by rw [e] at hp'; simpa using hp'.length_eq
      have hxT : ∀ x ∈ thoseL xs, WF x := fun x hx => hxW x ((those_mem _ _).1 hx).1
      have hxT' : ∀ x ∈ thoseL (xs ++ [more]), WF x := fun x hx => by
        have h := ((those_mem _ _).1 hx).1
        rw [List.mem_append, List.mem_singleton] at h
        rcases h with h | rfl
        · exact hxW x h
        · exact hmW
      clear hb hb1 hv1 hk hlt hsz
      have HNE := Lib.hid hne
      have HPOS := Lib.hid hpos
      have HL0 := Lib.hid hl0
      have HL0' := Lib.hid hl0'
      have HX := Lib.hid hxT
      have HX' := Lib.hid hxT'
      clear hne hpos hl0 hl0' hxT hxT' hp'
      go_wp2_with fail
      refine (Claim_some zeros8 rfl (fun j hj => by rw [nth_zeros]; unfold WF; omega) _ xs wr hvr (by omega) HX.out HL0.out (those_le xs)).mono ?_
      rintro e w2 ⟨⟨ysA, hA, rfl⟩, hb2⟩
      have hb02 := hbr.trans (hb2.mono hbr.size)
      have hvr2 := hvr.below hb2
      have HA := Lib.hid hA
      generalize ea : claimW zeros8 (thoseL xs) ysA = a at *
      have fa := claim_facts zeros8 (thoseL xs) ysA rfl (those_zero _) (those_nodup _) HL0.out HA.out.1
      rw [ea] at fa
      have EA := Lib.hid ea.symm
      have FA := Lib.hid fa
      have haW : Hid (∀ j, j < 8 → WF (nth a j)) := fun j hj => HX.out _ (fa.mem j hj)
      have hL : (ints a).length = 8 := by unfold ints; rw [List.length_map]; exact fa.len
      have hst := store_arr8 a hL
      clear hb2 hvr hA ea fa hbr
      obtain ⟨bl, ol, rfl, -⟩ := hvr2.at_ 0 (by omega)
      have hl1 : 0 < xs.length := by omega
      have hWA : (w2.alloc (Obj.cells (ints a).toArray 23)).heap[w2.heap.size]? = some (Obj.cells (ints a).toArray 23 (0, 0)) := heap_alloc_new w2 _
      have HWA := Lib.hid hWA
      clear hWA
      go_wp2_with (first | (at_builtin; refine wpList_append_ints rfl _ _ _ rfl (w2.alloc (Obj.cells (ints a).toArray 23)).heap.size 3 uInts infoI _ (.slice none 0 0) [] rfl (by exact OwnI.nil _ _ _) (.slice (some ⟨bl, ol, none⟩) xs.length c) xs rfl (by exact hvr2.alloc _) hl1 (by show 0 + xs.length < 17592186044416; omega) (Nat.le_refl _) ?_; intro v1 w3 ho1 hg1 hb3; have hs3 := hb3.size) | (at_builtin; refine wpList_append_int rfl _ _ _ rfl (w2.alloc (Obj.cells (ints a).toArray 23)).heap.size _ uInts infoI w3 v1 xs rfl (by exact ho1) more rfl (by omega) hs3 ?_; intro v2 w4 ho2 hg2 hb4 hne2; have HA4 := Lib.hid ((hb3.trans hb4).block' HWA.out)) | (refine wpList_load_arr rfl _ _ rfl _ rfl _ a 8 FA.out.len HA4.out _ uOwners sOwners ?_))
      have hr2 := ho2.rd
      have hbW : Below w.heap.size w w4 := ((hb02.alloc hb02.size (Obj.cells (ints a).toArray 23)).trans (hb3.bel.mono (by have := hb02.size; simp; omega))).trans (hb4.bel.mono (by have := hb02.size; simp; omega))
      have hvr4 : RdI w4 (.slice (some ⟨bl, ol, none⟩) xs.length c) xs := (hvr2.alloc _).below (hb3.trans hb4).bel
      clear ho1 hg1 hg2 hne2
      refine (Claim_some a FA.out.len haW.out v2 (xs ++ [more]) w4 hr2 (by rw [List.length_append, List.length_singleton]; omega) HX'.out HL0'.out (those_le _)).mono ?_
      rintro e w5 ⟨⟨ysB, hB, rfl⟩, hb5⟩
      have hbW5 := hbW.trans (hb5.mono hbW.size)
      have hvr5 := hvr4.below hb5
      have ho5 := ho2.below hb5
      have HA5 := Lib.hid (blk hb5 HA4.out)
      have HB := Lib.hid hB
      generalize eb : claimW a (thoseL (xs ++ [more])) ysB = b at *
      have fb := claim_facts a (thoseL (xs ++ [more])) ysB FA.out.len (those_zero _) (those_nodup _) HL0'.out HB.out.1
      rw [eb] at fb
      have EB := Lib.hid eb.symm
      have FB := Lib.hid fb
      have hbWF : Hid (∀ j, j < 8 → WF (nth b j)) := fun j hj => HX'.out _ (fb.mem j hj)
      have hLb : (ints b).length = 8 := by unfold ints; rw [List.length_map]; exact fb.len
      have hstb := store_arr8 b hLb
      have HA6 := Lib.hid (blk_alloc (Obj.cells (ints b).toArray 23) HA5.out)
      have HB6 : Hid ((w5.alloc (Obj.cells (ints b).toArray 23)).heap[w5.heap.size]? = some (Obj.cells (ints b).toArray 23 (0, 0))) := heap_alloc_new w5 _
      clear hb5 hvr4 hB eb fb hbW hr2 hb3 hs3 hb4 hst ho2
      go_wp2_with (first | (refine wpList_load_arr rfl _ _ rfl _ rfl _ a 8 FA.out.len HA6.out _ uOwners sOwners ?_) | (refine wpList_load_arr rfl _ _ rfl _ rfl _ b 8 FB.out.len HB6.out _ uOwners sOwners ?_))
      refine (Transfers_any a b FA.out.len FB.out.len _).mono ?_
      rintro e w6 ⟨vt, rfl, hot, hb6⟩
      have hm0 : 0 < more := by omega
      have hmt := moves_to hm0 (by omega) HNE.out HPOS.out HA.out FA.out HB.out FB.out
      have HBAL := Lib.hid hmt.2
      have htm := movs_to hmt.1
      have hlt8 := movesTo_le a b 8
      generalize hml : movesTo a b 8 = ml at *
      have HML := Lib.hid hml
      clear hml hmt
      obtain ⟨At, ct, rfl⟩ := row_slice hot
      have hbW6 : Below w.heap.size w w6 := (hbW5.alloc hbW5.size _).trans (hb6.bel.mono (by have := hbW5.size; simp; omega))
      have hvr6 := (hvr5.alloc (Obj.cells (ints b).toArray 23)).below hb6.bel
      have ho6 := (OwnI.alloc ho5 (Obj.cells (ints b).toArray 23)).below hb6.bel
      have HB7 := Lib.hid (blk hb6.bel HB6.out)
      clear hbW5 hvr5 ho5 HA6 HA5 HB6 hb6 HA4 HWA
      go_wp2
      go_loopw [11] (fun i wr => ∃ k : Nat, k ≤ ml.length ∧ i = .int .i64 k ∧ Below w6.heap.size w6 wr) (fun i _ => ml.length - (intOf i).toNat)
      case atStart => exact ⟨0, Nat.zero_le _, rfl, Below.refl _ _⟩
      case round =>
        obtain ⟨k, hk, rfl, hb7⟩ := hrel
        have hsz := hb7.size
        by_cases hlt : k < ml.length
        · obtain ⟨gt, rfl, hcell⟩ := row_at (World.ownsRow.kept hot (grownBy_of_below hb7 none) (by cases (Value.slice At ml.length ct).ownBlock <;> simp)) (by omega)
          have cto := (hcell (k * 3 + 2) (by omega)).trans (htm k hlt)
          clear hcell
          go_wp2
          go_roundw
          case rel => exact ⟨k + 1, by omega, by go_num, hb7⟩
          case measure => simp [intOf]; omega
        · obtain rfl : k = ml.length := by omega
          have HB8 := Lib.hid (blk hb7 HB7.out)
          have hbW7 := hbW6.trans (hb7.mono hbW6.size)
          have hvr7 := hvr6.below hb7
          have ho7 := ho6.below hb7
          clear hot hbW6 hvr6 ho6 hb7 hsz hk hlt
          go_wp2_with (refine wpList_load_arr rfl _ _ rfl _ rfl _ b 8 FB.out.len HB8.out _ uOwners sOwners ?_)
          refine (Claim_some b FB.out.len hbWF.out _ xs _ hvr7 (by omega) HX.out HL0.out (those_le xs)).mono ?_
          rintro e w8 ⟨⟨ysC, hC, rfl⟩, hb8⟩
          have hbW8 := hbW7.trans (hb8.mono hbW7.size)
          have hvr8 := hvr7.below hb8
          have ho8 := ho7.below hb8
          have HB9 := Lib.hid (blk hb8 HB8.out)
          have HC := Lib.hid hC
          generalize ec : claimW b (thoseL xs) ysC = d at *
          have fc := claim_facts b (thoseL xs) ysC FB.out.len (those_zero _) (those_nodup _) HL0.out HC.out.1
          rw [ec] at fc
          have FC := Lib.hid fc
          have hLc : (ints d).length = 8 := by unfold ints; rw [List.length_map]; exact fc.len
          have hstc := store_arr8 d hLc
          have HB10 := Lib.hid (blk_alloc (Obj.cells (ints d).toArray 23) HB9.out)
          have HC10 : Hid ((w8.alloc (Obj.cells (ints d).toArray 23)).heap[w8.heap.size]? = some (Obj.cells (ints d).toArray 23 (0, 0))) := heap_alloc_new w8 _
          have hmt := moves_back hm0 (by omega) HNE.out HPOS.out HB.out FB.out HC.out FC.out
          have HBAL2 := Lib.hid hmt.2
          have htm2 := movs_from hmt.1
          have hlt9 := movesTo_le b d 8
          clear hb8 hvr7 ho7 hbW7 hC ec fc HB8 HB9 hstb
          go_wp2_with (first | (refine wpList_load_arr rfl _ _ rfl _ rfl _ b 8 FB.out.len HB10.out _ uOwners sOwners ?_) | (refine wpList_load_arr rfl _ _ rfl _ rfl _ d 8 FC.out.len HC10.out _ uOwners sOwners ?_))
          refine (Transfers_any b d FB.out.len FC.out.len _).mono ?_
          rintro e w9 ⟨vu, rfl, hou, hb9⟩
          generalize hmu : movesTo b d 8 = mu at *
          have HMU := Lib.hid hmu
          clear hmu hmt
          obtain ⟨Au, cu, rfl⟩ := row_slice hou
          have hbW9 : Below w.heap.size w w9 := (hbW8.alloc hbW8.size _).trans (hb9.bel.mono (by have := hbW8.size; simp; omega))
          have hvr9 := (hvr8.alloc (Obj.cells (ints d).toArray 23)).below hb9.bel
          have ho9 := (OwnI.alloc ho8 (Obj.cells (ints d).toArray 23)).below hb9.bel
          have HB11 := Lib.hid (blk hb9.bel HB10.out)
          have HC11 := Lib.hid (blk hb9.bel HC10.out)
          clear hbW8 hvr8 ho8 hb9 HB10 HC10 hstc
          go_wp2
          go_loopw [14] (fun i wr => ∃ k : Nat, k ≤ mu.length ∧ i = .int .i64 k ∧ Below w9.heap.size w9 wr) (fun i _ => mu.length - (intOf i).toNat)
          case atStart => exact ⟨0, Nat.zero_le _, rfl, Below.refl _ _⟩
          case round =>
            obtain ⟨k, hk, rfl, hb10⟩ := hrel
            have hsz := hb10.size
            by_cases hlt : k < mu.length
            · obtain ⟨gu, rfl, hcell⟩ := row_at (World.ownsRow.kept hou (grownBy_of_below hb10 none) (by cases (Value.slice Au mu.length cu).ownBlock <;> simp)) (by omega)
              have cfrom := (hcell (k * 3 + 1) (by omega)).trans (htm2 k hlt)
              clear hcell
              go_wp2
              go_roundw
              case rel => exact ⟨k + 1, by omega, by go_num, hb10⟩
              case measure => simp [intOf]; omega
            · obtain rfl : k = mu.length := by omega
              have HB12 := Lib.hid (blk hb10 HB11.out)
              have HC12 := Lib.hid (blk hb10 HC11.out)
              have hbW10 := hbW9.trans (hb10.mono hbW9.size)
              have hvr10 := hvr9.below hb10
              have hr10 := (ho9.below hb10).rd
              clear hou hbW9 hvr9 ho9 hb10 hsz hk hlt HB11 HC11
              obtain ⟨b0, b1, b2, b3, b4, b5, b6, b7⟩ := cells8 b FB.out.len HB12.out
              go_wp2_with fail
              refine (Balanced8 b FB.out.len v2 (xs ++ [more]) wr hr10 (by rw [List.length_append, List.length_singleton]; omega) HBAL.out).mono ?_
              rintro e w11 ⟨rfl, hb11⟩
              obtain ⟨d0, d1, d2, d3, d4, d5, d6, d7⟩ := cells8 d FC.out.len (blk hb11 HC12.out)
              have hvr11 := hvr10.below hb11
              have hbW11 := hbW10.trans (hb11.mono hbW10.size)
              clear b0 b1 b2 b3 b4 b5 b6 b7 hr10 hvr10
              go_wp2_with fail
              refine (Balanced8 d FC.out.len _ xs _ hvr11 (by omega) HBAL2.out).mono ?_
              rintro e w12 ⟨rfl, hb12⟩
              go_wp2
              go_ret
              exact ⟨rfl, hbW11.trans (hb12.mono hbW11.size)⟩
end Go.Proofs.Ytalbdcpbdedfiaa
