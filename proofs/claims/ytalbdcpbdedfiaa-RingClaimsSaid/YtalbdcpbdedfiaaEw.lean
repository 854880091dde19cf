/- Walks: the law RingEven. -/
import Derived.Test.YtalbdcpbdedfiaaPe
import Derived.Test.YtalbdcpbdedfiaaMv
namespace Go.Proofs.Ytalbdcpbdedfiaa
open Go.RowKit

/-! ### a claim, told once -/
def Res (o l c : List Int) : Prop := c.length = 8 ∧ (∀ j, j < 8 → WF (nth c j)) ∧ ((l = [] ∧ c = zeros8) ∨ (l ≠ [] ∧ ∃ ys, Sorted o ys l ∧ Facts o l (leftTo ys ys.length) c))
theorem Claim_any (o : List Int) (ho : o.length = 8) (hoW : ∀ j, j < 8 → WF (nth o j)) (v : Value) (xs : List Int) (w : World) (hv : RdI w v xs) (hn : xs.length * 8 ≤ 140737488351232) (hxW : ∀ x ∈ xs, WF x) :
    Calls Try.prog 9 #[.agg (ints o).toArray, v] w fun e w' => (∃ c, Res o (thoseL xs) c ∧ e = .returned (.agg (ints c).toArray)) ∧ Below w.heap.size w w' := by
  by_cases h0 : thoseL xs = []
  · refine (Claim_none o v xs w hv hn h0).mono ?_
    rintro e w' ⟨rfl, hb⟩
    exact ⟨⟨zeros8, ⟨rfl, fun j _ => by rw [nth_zeros]; unfold WF; omega, .inl ⟨h0, rfl⟩⟩, rfl⟩, hb⟩
  · refine (Claim_some o ho hoW v xs w hv hn (fun x hx => hxW x ((those_mem _ _).1 hx).1) h0 (those_le _)).mono ?_
    rintro e w' ⟨⟨ys, hS, rfl⟩, hb⟩
    have f := claim_facts o (thoseL xs) ys ho (those_zero _) (those_nodup _) h0 hS.1
    exact ⟨⟨_, ⟨f.len, fun j hj => hxW _ ((those_mem _ _).1 (f.mem j hj)).1, .inr ⟨h0, ys, hS, f⟩⟩, rfl⟩, hb⟩
theorem Res.bal {o xs c : List Int} (h : Res o (thoseL xs) c) : balL c (thoseL xs) = true := by
  rcases h.2.2 with ⟨e, rfl⟩ | ⟨_, ys, hS, f⟩
  · rw [e]; decide +kernel
  · exact claim_balanced (those_nodup _) (fun n hn => ((those_mem _ _).1 hn).2) hS.1 f
theorem Res.again {o xs c c' : List Int} (h : Res o (thoseL xs) c) (h' : Res c (thoseL xs) c') : c' = c := by
  rcases h.2.2 with ⟨e, rfl⟩ | ⟨e, ys, hS, f⟩ <;> rcases h'.2.2 with ⟨e', e2⟩ | ⟨e', ys', hS', f'⟩
  · exact e2
  · exact absurd e e'
  · exact absurd e' e
  · exact claim_again (those_nodup _) (fun n hn => ((those_mem _ _).1 hn).2) hS.1 f hS' f'
/-- claimed again: the same, cell by cell -/
theorem Claim8_same {o : List Int} (c : List Int) (v : Value) (xs : List Int) (w : World) (hr : Res o (thoseL xs) c) (hv : RdI w v xs) (hn : xs.length * 8 ≤ 140737488351232) (hxW : ∀ x ∈ xs, WF x) :
    Calls Try.prog 9 #[.agg #[.int .i64 (nth c 0), .int .i64 (nth c 1), .int .i64 (nth c 2), .int .i64 (nth c 3), .int .i64 (nth c 4), .int .i64 (nth c 5), .int .i64 (nth c 6), .int .i64 (nth c 7)], v] w fun e w' =>
      e = .returned (.agg #[.int .i64 (nth c 0), .int .i64 (nth c 1), .int .i64 (nth c 2), .int .i64 (nth c 3), .int .i64 (nth c 4), .int .i64 (nth c 5), .int .i64 (nth c 6), .int .i64 (nth c 7)]) ∧ Below w.heap.size w w' := by
  have h := Claim_any c hr.1 hr.2.1 v xs w hv hn hxW
  rw [ints8 c hr.1] at h
  refine h.mono ?_
  rintro e w' ⟨⟨c', hc', rfl⟩, hb⟩
  rw [hr.again hc', ints8 c hr.1]
  exact ⟨rfl, hb⟩

theorem cell_drew {w w' : World} {p : Addr} {v : Value} (hb : Below w.drew.heap.size w.drew w') (hc : w.cell? p = some v) : w'.cell? p = some v :=
  (hb.cell (World.block_lt_of_cell? w p hc)).trans hc
theorem cell_below {w w' : World} {p : Addr} {v : Value} (hb : Below w.heap.size w w') (hc : w.cell? p = some v) : w'.cell? p = some v :=
  (hb.cell (World.block_lt_of_cell? w p hc)).trans hc
/-- what stands behind a region that has several orders, shown once -/
theorem share (R : World → Prop) {P : Prop} (G : World → Prop) (h1 : (∀ W, R W → G W) → P) (h2 : ∀ W, R W → G W) : P := h1 h2
/-- the members that are positive, in their order -/
def posTo (xs : List Int) : Nat → List Int
  | 0 => []
  | k + 1 => if 0 < nth xs k then posTo xs k ++ [nth xs k] else posTo xs k
theorem posTo_len (xs : List Int) : ∀ k, (posTo xs k).length ≤ k
  | 0 => Nat.le_refl _
  | k + 1 => by
    have := posTo_len xs k
    unfold posTo
    split
    · simp; omega
    · omega
theorem posTo_mem (xs : List Int) : ∀ k, k ≤ xs.length → ∀ x ∈ posTo xs k, x ∈ thoseL xs
  | 0, _, x, hx => by simp [posTo] at hx
  | k + 1, hk, x, hx => by
    have ih := posTo_mem xs k (by omega)
    unfold posTo at hx
    split at hx
    · rename_i h
      rw [List.mem_append, List.mem_singleton] at hx
      rcases hx with hx | rfl
      · exact ih x hx
      · exact (those_mem _ _).2 ⟨nth_mem xs k (by omega), h⟩
    · exact ih x hx
theorem posTo_none (xs : List Int) : ∀ k, k ≤ xs.length → posTo xs k = [] → ∀ j, j < k → nth xs j ≤ 0
  | 0, _, _, j, hj => absurd hj (Nat.not_lt_zero _)
  | k + 1, hk, h, j, hj => by
    unfold posTo at h
    split at h
    · simp at h
    · rename_i h0
      rcases Nat.lt_succ_iff_lt_or_eq.1 hj with h1 | rfl
      · exact posTo_none xs k (by omega) h j h1
      · omega
theorem Balanced8v (o : List Int) (ho : o.length = 8) (v : Value) (xs : List Int) (w : World) (hv : RdI w v xs) (hn : xs.length * 8 ≤ 140737488351232) (b : Bool) (hbal : balL o (thoseL xs) = b) :
    Calls Try.prog 11 #[.agg #[.int .i64 (nth o 0), .int .i64 (nth o 1), .int .i64 (nth o 2), .int .i64 (nth o 3), .int .i64 (nth o 4), .int .i64 (nth o 5), .int .i64 (nth o 6), .int .i64 (nth o 7)], v] w fun e w' => e = .returned (.bool b) ∧ Below w.heap.size w w' := by
  have h := Balanced_any o ho v xs w hv hn
  rw [hbal, ints8 o ho] at h
  exact h
theorem row_cell {w : World} {b k : Nat} {T : TypeId} (o : List Int) (hk : k < o.length) (h : w.heap[b]? = some (Obj.cells (ints o).toArray T (0, 0))) : w.cell? ⟨b, k, none⟩ = some (.int .i64 (nth o k)) := by
  rw [cell_of_row _ _ _ _ _ _ h, List.getElem?_toArray]
  exact ints_get o k hk
theorem sameTo_hit (a b : List Int) (k : Nat) (h : nth a k = nth b k) : sameTo a b (k + 1) = sameTo a b k + 1 := by
  show sameTo a b k + (if nth a k = nth b k then 1 else 0) = _
  rw [if_pos h]
theorem sameTo_miss (a b : List Int) (k : Nat) (h : ¬ nth a k = nth b k) : sameTo a b (k + 1) = sameTo a b k := by
  show sameTo a b k + (if nth a k = nth b k then 1 else 0) = _
  rw [if_neg h]; rfl
/-! ### the law -/
set_option maxRecDepth 100000 in
set_option maxHeartbeats 4000000 in
theorem RingEven_any (o : List Int) (ho : o.length = 8) (hoW : ∀ j, j < 8 → WF (nth o j)) (vm : Value) (xs : List Int) (vk : Value) (zs : List Int) (w : World) (hm : RdI w vm xs) (hxW : ∀ x ∈ xs, WF x) (hn : xs.length * 8 ≤ 140737488351232)
    (hk : RdI w vk zs) (hzW : ∀ x ∈ zs, WF x) :
    Calls Try.prog 4 #[.agg (ints o).toArray, vm, vk] w fun e w' => e = .returned (.bool true) ∧ Below w.heap.size w w' := by
  obtain ⟨Am, cm, rfl, hlm, hlc, _⟩ := id hm
  obtain ⟨Ak, ck, rfl, hlk, hlkc, _⟩ := id hk
  unfold maxLen at hlm hlk
  have HO := Lib.hid ho
  have hLo : (ints o).length = 8 := by unfold ints; rw [List.length_map]; exact ho
  have HOW := Lib.hid hoW
  have HXW := Lib.hid hxW
  have HZW := Lib.hid hzW
  clear ho hoW hxW hzW
  go_enter Try.func4, Try.ntmps4
  go_wp2_with fail
  have hX : (w.alloc (Obj.cells (ints o).toArray 23)).heap[w.heap.size]? = some (Obj.cells (ints o).toArray 23 (0, 0)) := heap_alloc_new w _
  have hb0 : Below w.heap.size w (w.alloc (Obj.cells (ints o).toArray 23)) := (Below.refl _ _).alloc (Nat.le_refl _) _
  have hm0 := hm.alloc (Obj.cells (ints o).toArray 23)
  have hk0 := hk.alloc (Obj.cells (ints o).toArray 23)
  change Calls _ _ _ (w.alloc (Obj.cells (ints o).toArray 23)) _
  generalize w.alloc (Obj.cells (ints o).toArray 23) = w0 at *
  refine (awake_any w0).mono ?_
  rintro e w1 ⟨rfl, hb1⟩
  have hm1 := hm0.below hb1
  have hk1 := hk0.below hb1
  have HX1 := Lib.hid (blk hb1 hX)
  have hbW1 := hb0.trans (hb1.mono hb0.size)
  clear hX hb0 hm0 hk0 hb1
  go_wp2_with (refine wpList_load_arr rfl _ _ rfl _ rfl _ o 8 HO.out HX1.out _ uOwners sOwners ?_)
  refine (Claim_any o HO.out HOW.out _ xs _ hm1 hn HXW.out).mono ?_
  rintro e w2 ⟨⟨c, hR, rfl⟩, hb2⟩
  have HR := Lib.hid hR
  have hLc : (ints c).length = 8 := by unfold ints; rw [List.length_map]; exact hR.1
  have hst := store_arr8 c hLc
  have hm2 := hm1.below hb2
  have hk2 := hk1.below hb2
  have HX2 := Lib.hid (blk hb2 HX1.out)
  have hbW2 := hbW1.trans (hb2.mono hbW1.size)
  have HX3 := Lib.hid (blk_alloc (Obj.cells (ints c).toArray 23) HX2.out)
  have HC3 : Hid ((w2.alloc (Obj.cells (ints c).toArray 23)).heap[w2.heap.size]? = some (Obj.cells (ints c).toArray 23 (0, 0))) := heap_alloc_new w2 _
  have hm3 := hm2.alloc (Obj.cells (ints c).toArray 23)
  have hk3 := hk2.alloc (Obj.cells (ints c).toArray 23)
  clear hR hb2 hm1 hk1 hm2 hk2 hbW1
  have hs3 : w2.heap.size < (w2.alloc (Obj.cells (ints c).toArray 23)).heap.size := by simp
  have hbW3 : Below w.heap.size w (w2.alloc (Obj.cells (ints c).toArray 23)) := hbW2.alloc hbW2.size _
  go_wp2_with fail
  generalize w2.alloc (Obj.cells (ints c).toArray 23) = w3 at *
  clear hbW2 HX2
  obtain ⟨x0, x1, x2, x3, x4, x5, x6, x7⟩ := cells8 c HR.out.1 HC3.out
  have q : ∀ W, (binOp .neq 23 (.agg #[.int .i64 (nth c 0), .int .i64 (nth c 1), .int .i64 (nth c 2), .int .i64 (nth c 3), .int .i64 (nth c 4), .int .i64 (nth c 5), .int .i64 (nth c 6), .int .i64 (nth c 7)]) (.agg #[.int .i64 (nth c 0), .int .i64 (nth c 1), .int .i64 (nth c 2), .int .i64 (nth c 3), .int .i64 (nth c 4), .int .i64 (nth c 5), .int .i64 (nth c 6), .int .i64 (nth c 7)])).run Try.prog W = .ok (.bool false) W := fun W => by
    have h := run_neq_arr8 (P := Try.prog) uOwners uInt sInt c c HR.out.1 HR.out.1 W
    rw [ints8 c HR.out.1] at h
    simpa using h
  apply share (fun W => Below w3.heap.size w3 W)
  case h1 =>
    intro key
    go_region_with (first | (go_at_call 11; refine (Balanced8 c HR.out.1 _ xs _ hm3.drew hn HR.out.bal).mono ?_; rintro e w4 ⟨rfl, hb4⟩; have y0 := cell_drew hb4 x0; have y1 := cell_drew hb4 x1; have y2 := cell_drew hb4 x2; have y3 := cell_drew hb4 x3; have y4 := cell_drew hb4 x4; have y5 := cell_drew hb4 x5; have y6 := cell_drew hb4 x6; have y7 := cell_drew hb4 x7; have hm4 := hm3.drew.below hb4; have hs4 : w2.heap.size < w4.heap.size := Nat.lt_of_lt_of_le hs3 hb4.size) | (go_at_call 9; refine (Claim8_same c _ xs _ HR.out hm4 hn HXW.out).mono ?_; rintro e w5 ⟨rfl, hb5⟩; have z0 := cell_below hb5 y0; have z1 := cell_below hb5 y1; have z2 := cell_below hb5 y2; have z3 := cell_below hb5 y3; have z4 := cell_below hb5 y4; have z5 := cell_below hb5 y5; have z6 := cell_below hb5 y6; have z7 := cell_below hb5 y7; have hs5 : w2.heap.size < w5.heap.size := Nat.lt_of_lt_of_le hs4 hb5.size))
    all_goals exact key w5 (((Below.refl _ _).drew.trans hb4).trans (hb5.mono hb4.size))
  case h2 =>
    intro W5 hb5
    have hm5 := hm3.below hb5
    have hk5 := hk3.below hb5
    have HX5 := Lib.hid (blk hb5 HX3.out)
    have HC5 := Lib.hid (blk hb5 HC3.out)
    have hbW5 := hbW3.trans (hb5.mono hbW3.size)
    clear hm3 hk3 HX3 HC3 hbW3 hb5 q x0 x1 x2 x3 x4 x5 x6 x7 hst hs3 HX1
    go_wp2
    go_loopw [9, 10] (fun v i wr => ∃ k : Nat, k ≤ xs.length ∧ i = .int .i64 k ∧ OwnI 3 W5.heap.size wr v (posTo xs k) ∧ Bel W5.heap.size W5 wr) (fun _ i _ => xs.length - (intOf i).toNat)
    case atStart => exact ⟨0, Nat.zero_le _, rfl, OwnI.nil _ _ _, Bel.refl _ _⟩
    case round =>
      obtain ⟨k, hkx, rfl, hown, hbl⟩ := hrel
      have hsz := hbl.size
      have hpl := posTo_len xs k
      by_cases hlt : k < xs.length
      · obtain ⟨bm, om, rfl, cm1⟩ := (hm5.below hbl.bel).at_ k hlt
        by_cases hp : 0 < nth xs k
        · have HP := Lib.hid hp
          go_wp2_with (at_builtin; refine wpList_append_int rfl _ _ _ rfl W5.heap.size _ uInts infoI wr _ _ rfl (by exact hown) (nth xs k) rfl (by omega) hsz ?_; intro v' w6 hown1 hg1 hb1 hne1)
          go_roundw
          case rel => exact ⟨k + 1, by omega, by go_num, by unfold posTo; rw [if_pos HP.out]; exact hown1, hbl.trans hb1⟩
          case measure => simp [intOf]; omega
        · have HP := Lib.hid hp
          go_wp2
          go_roundw
          case rel => exact ⟨k + 1, by omega, by go_num, by unfold posTo; rw [if_neg HP.out]; exact hown, hbl⟩
          case measure => simp [intOf]; omega
      · obtain rfl : k = xs.length := by omega
        obtain ⟨w6, hw6⟩ : ∃ V, V = wr := ⟨wr, rfl⟩
        subst hw6
        obtain ⟨Al, cl, rfl⟩ := row_slice hown
        have hm6 := hm5.below hbl.bel
        have hk6 := hk5.below hbl.bel
        have HX6 := Lib.hid (blk hbl.bel HX5.out)
        have HC6 := Lib.hid (blk hbl.bel HC5.out)
        have hbW6 := hbW5.trans (hbl.bel.mono hbW5.size)
        have hpm := posTo_mem xs xs.length (Nat.le_refl _)
        have hpn := posTo_none xs xs.length (Nat.le_refl _)
        obtain ⟨x0, x1, x2, x3, x4, x5, x6, x7⟩ := cells8 c HR.out.1 HC6.out
        have hrl := hown.rd
        clear hm5 hk5 HX5 HC5 hbW5 hbl hlt hkx hown hsz
        by_cases h0 : thoseL xs = []
        · have e0 : (posTo xs xs.length).length = 0 := by
            rw [List.length_eq_zero_iff, List.eq_nil_iff_forall_not_mem]
            intro x hx
            have := hpm x hx
            rw [h0] at this
            cases this
          have hc0 : c = zeros8 := by
            rcases HR.out.2.2 with ⟨_, h⟩ | ⟨h, _⟩
            · exact h
            · exact absurd h0 h
          have hbq : (c == zeros8) = true := by rw [hc0]; decide
          have q2 : ∀ W, (binOp .eql 23 (.agg #[.int .i64 (nth c 0), .int .i64 (nth c 1), .int .i64 (nth c 2), .int .i64 (nth c 3), .int .i64 (nth c 4), .int .i64 (nth c 5), .int .i64 (nth c 6), .int .i64 (nth c 7)]) (.agg #[.int .i64 0, .int .i64 0, .int .i64 0, .int .i64 0, .int .i64 0, .int .i64 0, .int .i64 0, .int .i64 0])).run Try.prog W = .ok (.bool true) W := fun W => by
            have h := run_eql_arr8 (P := Try.prog) uOwners uInt sInt c zeros8 HR.out.1 rfl W
            rw [ints8 c HR.out.1, hbq] at h
            exact h
          clear hc0 hbq hrl h0
          go_wp2
          go_ret
          exact ⟨rfl, hbW6⟩
        · have e0 : ¬ (posTo xs xs.length).length = 0 := fun h => h0 ((those_none xs).2 (fun x hx => by
            obtain ⟨j, hj, rfl⟩ := mem_nth hx
            exact hpn (List.length_eq_zero_iff.1 h) j hj))
          generalize hls : posTo xs xs.length = ls at *
          clear hls hpn
          have HM := Lib.hid hpm
          have HL0 := Lib.hid h0
          clear hpm h0
          have hD : (w6.alloc (Obj.cells (ints zeros8).toArray 23)).heap[w6.heap.size]? = some (Obj.cells (ints zeros8).toArray 23 (0, 0)) := heap_alloc_new w6 _
          have HD := Lib.hid hD
          clear hD x0 x1 x2 x3 x4 x5 x6 x7
          go_wp2
          go_loopw [12] (fun i w7 => ∃ k : Nat, k ≤ 8 ∧ i = .int .i64 k ∧ Below w6.heap.size w6 w7 ∧ ∃ ds : List Int, ds.length = 8 ∧ (∀ j, j < k → nth ds j ∈ thoseL xs) ∧ w7.heap[w6.heap.size]? = some (Obj.cells (ints ds).toArray 23 (0, 0))) (fun i _ => 8 - (intOf i).toNat)
          case atStart => exact ⟨0, Nat.zero_le _, rfl, (Below.refl _ _).alloc (Nat.le_refl _) _, zeros8, rfl, fun j hj => absurd hj (Nat.not_lt_zero _), HD.out⟩
          case round =>
            obtain ⟨k, hk8, rfl, hb7, ds, hds, hdm, hD7⟩ := hrel
            have hk7 := hk6.below hb7
            have hrl7 := hrl.below hb7
            have HDM := Lib.hid hdm
            have HD7 := Lib.hid hD7
            have hs7 := hb7.size
            clear hdm hD7
            by_cases hlt : k < 8
            · by_cases e1 : k < zs.length
              · obtain ⟨bk, ok, rfl, cz⟩ := hk7.at_ k e1
                have hzb := HZW.out _ (nth_mem zs k e1)
                unfold WF at hzb
                by_cases e2 : nth zs k < 0
                · obtain ⟨y, hy⟩ := Int.eq_ofNat_of_zero_le (show 0 ≤ -(nth zs k + 1) by omega)
                  have hq : y % ls.length < ls.length := Nat.mod_lt _ (by omega)
                  have hmod : (y : Int) % (ls.length : Int) = ((y % ls.length : Nat) : Int) := (Int.natCast_emod _ _).symm
                  generalize y % ls.length = q at hq hmod
                  obtain ⟨gl, ol, rfl, cq⟩ := hrl7.at_ q hq
                  have ck : wr.cell? ⟨w6.heap.size, k, none⟩ = some (.int .i64 (nth ds k)) := by rw [cell_of_row _ _ _ _ _ _ HD7.out, List.getElem?_toArray]; exact ints_get ds k (by omega)
                  have cf : wr.frozen? ⟨w6.heap.size, k, none⟩ = false := by simp [World.frozen?, HD7.out]
                  have hnk : nth (ds.set k (nth ls q)) k = nth ls q := nth_set_same _ _ _ (by omega)
                  have HNK := Lib.hid hnk
                  have HTH := Lib.hid (HM.out _ (nth_mem ls q hq))
                  clear hnk
                  go_wp2
                  go_roundw
                  case rel => exact ⟨k + 1, by omega, by go_num, hb7.setCell (Nat.le_refl _) _, ds.set k (nth ls q), by rw [List.length_set]; exact hds, fun j hj => by
                    by_cases hjk : j = k
                    · subst hjk; rw [HNK.out]; exact HTH.out
                    · rw [nth_set_other _ _ _ _ hjk]; exact HDM.out j (by omega), by rw [heap_setCell_same _ _ _ _ _ _ HD7.out, ints_set]⟩
                  case measure => simp [intOf]; omega
                · obtain ⟨y, hy⟩ := Int.eq_ofNat_of_zero_le (show 0 ≤ nth zs k by omega)
                  rw [hy] at cz
                  clear hy e2 hzb
                  have hq : y % ls.length < ls.length := Nat.mod_lt _ (by omega)
                  have hmod : (y : Int) % (ls.length : Int) = ((y % ls.length : Nat) : Int) := (Int.natCast_emod _ _).symm
                  generalize y % ls.length = q at hq hmod
                  obtain ⟨gl, ol, rfl, cq⟩ := hrl7.at_ q hq
                  have ck : wr.cell? ⟨w6.heap.size, k, none⟩ = some (.int .i64 (nth ds k)) := by rw [cell_of_row _ _ _ _ _ _ HD7.out, List.getElem?_toArray]; exact ints_get ds k (by omega)
                  have cf : wr.frozen? ⟨w6.heap.size, k, none⟩ = false := by simp [World.frozen?, HD7.out]
                  have hnk : nth (ds.set k (nth ls q)) k = nth ls q := nth_set_same _ _ _ (by omega)
                  have HNK := Lib.hid hnk
                  have HTH := Lib.hid (HM.out _ (nth_mem ls q hq))
                  clear hnk
                  go_wp2
                  go_roundw
                  case rel => exact ⟨k + 1, by omega, by go_num, hb7.setCell (Nat.le_refl _) _, ds.set k (nth ls q), by rw [List.length_set]; exact hds, fun j hj => by
                    by_cases hjk : j = k
                    · subst hjk; rw [HNK.out]; exact HTH.out
                    · rw [nth_set_other _ _ _ _ hjk]; exact HDM.out j (by omega), by rw [heap_setCell_same _ _ _ _ _ _ HD7.out, ints_set]⟩
                  case measure => simp [intOf]; omega
              · obtain ⟨y, hy⟩ : ∃ y, y = k := ⟨k, rfl⟩
                have hq : y % ls.length < ls.length := Nat.mod_lt _ (by omega)
                have hmod : (k : Int) % (ls.length : Int) = ((y % ls.length : Nat) : Int) := by rw [hy]; exact (Int.natCast_emod _ _).symm
                generalize y % ls.length = q at hq hmod
                clear hy
                obtain ⟨gl, ol, rfl, cq⟩ := hrl7.at_ q hq
                have ck : wr.cell? ⟨w6.heap.size, k, none⟩ = some (.int .i64 (nth ds k)) := by rw [cell_of_row _ _ _ _ _ _ HD7.out, List.getElem?_toArray]; exact ints_get ds k (by omega)
                have cf : wr.frozen? ⟨w6.heap.size, k, none⟩ = false := by simp [World.frozen?, HD7.out]
                have hnk : nth (ds.set k (nth ls q)) k = nth ls q := nth_set_same _ _ _ (by omega)
                have HNK := Lib.hid hnk
                have HTH := Lib.hid (HM.out _ (nth_mem ls q hq))
                clear hnk
                go_wp2
                go_roundw
                case rel => exact ⟨k + 1, by omega, by go_num, hb7.setCell (Nat.le_refl _) _, ds.set k (nth ls q), by rw [List.length_set]; exact hds, fun j hj => by
                  by_cases hjk : j = k
                  · subst hjk; rw [HNK.out]; exact HTH.out
                  · rw [nth_set_other _ _ _ _ hjk]; exact HDM.out j (by omega), by rw [heap_setCell_same _ _ _ _ _ _ HD7.out, ints_set]⟩
                case measure => simp [intOf]; omega
            · obtain rfl : k = 8 := by omega
              obtain ⟨w7, hw7⟩ : ∃ V, V = wr := ⟨wr, rfl⟩
              subst hw7
              have hm7 := hm6.below hb7
              have HX7 := Lib.hid (blk hb7 HX6.out)
              have HC7 := Lib.hid (blk hb7 HC6.out)
              have hbW7 := hbW6.trans (hb7.mono hbW6.size)
              have HDS := Lib.hid hds
              clear hm6 hk6 hk7 HX6 HC6 hbW6 hrl hrl7 hb7 HD hs7 hlt hk8 hds hpl e0
              go_wp2
              go_loopw [14, 15, 16] (fun a b i w8 => ∃ k : Nat, k ≤ 8 ∧ i = .int .i64 k ∧ a = .int .i64 (sameTo c o k : Nat) ∧ b = .int .i64 (sameTo ds o k : Nat) ∧ Below w7.heap.size w7 w8) (fun _ _ i _ => 8 - (intOf i).toNat)
              case atStart => exact ⟨0, Nat.zero_le _, rfl, rfl, rfl, Below.refl _ _⟩
              case round =>
                obtain ⟨k, hk8, rfl, rfl, rfl, hb8⟩ := hrel
                have hl1 := sameTo_le c o k
                have hl2 := sameTo_le ds o k
                by_cases hlt : k < 8
                · have cc := row_cell c (by rw [HR.out.1]; exact hlt) (blk hb8 HC7.out)
                  have co := row_cell o (by rw [HO.out]; exact hlt) (blk hb8 HX7.out)
                  have cd := row_cell ds (by rw [HDS.out]; exact hlt) (blk hb8 HD7.out)
                  by_cases h1 : nth c k = nth o k
                  · have H1 := Lib.hid h1
                    by_cases h2 : nth ds k = nth o k
                    · have H2 := Lib.hid h2
                      go_wp2
                      go_region
                      go_wp2
                      go_region
                      go_wp2
                      go_roundw
                      case rel => exact ⟨k + 1, by omega, by go_num, by rw [sameTo_hit _ _ _ H1.out]; go_num, by rw [sameTo_hit _ _ _ H2.out]; go_num, by repeat (first | exact hb8 | apply Below.drew)⟩
                      case measure => simp [intOf]; omega
                    · have H2 := Lib.hid h2
                      go_wp2
                      go_region
                      go_wp2
                      go_region
                      go_wp2
                      go_roundw
                      case rel => exact ⟨k + 1, by omega, by go_num, by rw [sameTo_hit _ _ _ H1.out]; go_num, by rw [sameTo_miss _ _ _ H2.out], by repeat (first | exact hb8 | apply Below.drew)⟩
                      case measure => simp [intOf]; omega
                  · have H1 := Lib.hid h1
                    by_cases h2 : nth ds k = nth o k
                    · have H2 := Lib.hid h2
                      go_wp2
                      go_region
                      go_wp2
                      go_region
                      go_wp2
                      go_roundw
                      case rel => exact ⟨k + 1, by omega, by go_num, by rw [sameTo_miss _ _ _ H1.out], by rw [sameTo_hit _ _ _ H2.out]; go_num, by repeat (first | exact hb8 | apply Below.drew)⟩
                      case measure => simp [intOf]; omega
                    · have H2 := Lib.hid h2
                      go_wp2
                      go_region
                      go_wp2
                      go_region
                      go_wp2
                      go_roundw
                      case rel => exact ⟨k + 1, by omega, by go_num, by rw [sameTo_miss _ _ _ H1.out], by rw [sameTo_miss _ _ _ H2.out], by repeat (first | exact hb8 | apply Below.drew)⟩
                      case measure => simp [intOf]; omega
                · obtain rfl : k = 8 := by omega
                  have hm8 := hm7.below hb8
                  have hbW8 := hbW7.trans (hb8.mono hbW7.size)
                  obtain ⟨d0, d1, d2, d3, d4, d5, d6, d7⟩ := cells8 ds HDS.out (blk hb8 HD7.out)
                  have hlp : 0 < (thoseL xs).length := List.length_pos_iff.2 HL0.out
                  have hmost : balL ds (thoseL xs) = true → sameTo ds o 8 ≤ sameTo c o 8 := fun hb => by
                    rcases HR.out.2.2 with ⟨h, _⟩ | ⟨_, ys, hS, f⟩
                    · exact absurd h HL0.out
                    · exact keeps_most HO.out HDS.out (those_nodup _) (fun n hn => ((those_mem _ _).1 hn).2) hlp hS f (fun p hp => HDM.out p (by omega)) hb
                  clear hm7 hbW7 hb8 hlt hk8 hlp
                  by_cases hb : balL ds (thoseL xs) = true
                  · have hle := hmost hb
                    have HB := Lib.hid hb
                    clear hmost hb
                    go_wp2_with (go_at_call 11; refine (Balanced8v ds HDS.out _ xs _ hm8 hn true HB.out).mono ?_; rintro e w9 ⟨rfl, hb9⟩)
                    go_ret
                    exact ⟨rfl, hbW8.trans (hb9.mono hbW8.size)⟩
                  · have HB := Lib.hid (Bool.eq_false_iff.2 hb)
                    clear hmost hb
                    go_wp2_with (go_at_call 11; refine (Balanced8v ds HDS.out _ xs _ hm8 hn false HB.out).mono ?_; rintro e w9 ⟨rfl, hb9⟩)
                    go_ret
                    exact ⟨rfl, hbW8.trans (hb9.mono hbW8.size)⟩
end Go.Proofs.Ytalbdcpbdedfiaa
