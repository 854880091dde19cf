/- Walks: the reference's words. -/
import Derived.Test.YtalbdcpbdedfiaaDoorSh
namespace Go.Proofs.YtalbdcpbdedfiaaDoor
open Go.RowKit
open Sha (W rotr wnth words be sched sg0 sg1)

def bw (l : List UInt8) (i : Nat) : W := BitVec.ofNat 32 (l.getD i 0).toNat
/-- the words, byte by byte -/
def wStep (l : List UInt8) : Nat → List W
  | 0 => zeroW 64
  | i + 1 => (wStep l i).set (i / 4) ((wnth (wStep l i) (i / 4)) <<< 8 + bw l i)
theorem wStep_len (l : List UInt8) : ∀ i, (wStep l i).length = 64
  | 0 => zeroW_len 64
  | i + 1 => by rw [wStep, List.length_set, wStep_len l i]
theorem wnth_mid (a b : List W) (x : W) (k : Nat) (h : a.length = k) : wnth (a ++ x :: b) k = x := by
  subst h
  simp [wnth, List.getD_eq_getElem?_getD]
theorem set_mid (a b : List W) (x y : W) (k : Nat) (h : a.length = k) : (a ++ x :: b).set k y = a ++ y :: b := by
  subst h
  simp
theorem be_four (a b c d : UInt8) : ((((0 : W) <<< 8 + BitVec.ofNat 32 a.toNat) <<< 8 + BitVec.ofNat 32 b.toNat) <<< 8 + BitVec.ofNat 32 c.toNat) <<< 8 + BitVec.ofNat 32 d.toNat = BitVec.ofNat 32 (a.toNat * 16777216 + b.toNat * 65536 + c.toNat * 256 + d.toNat) := by
  have ha := a.toNat_lt
  have hb := b.toNat_lt
  have hc := c.toNat_lt
  have hd := d.toNat_lt
  apply BitVec.eq_of_toNat_eq
  simp only [BitVec.toNat_add, BitVec.toNat_shiftLeft, BitVec.toNat_ofNat, Nat.shiftLeft_eq]
  omega
theorem wStep_words (l : List UInt8) : ∀ k, k ≤ 16 → wStep l (4 * k) = words l k ++ zeroW (64 - k)
  | 0, _ => rfl
  | k + 1, hk => by
    have ih := wStep_words l k (by omega)
    obtain ⟨m, hm⟩ : ∃ m, 64 - k = m + 1 := ⟨63 - k, by omega⟩
    have hz : zeroW (64 - k) = 0 :: zeroW m := by rw [hm]; rfl
    have hwl := Sha.words_len l k
    rw [hz] at ih
    have e0 : wStep l (4 * k + 1) = words l k ++ ((0 : W) <<< 8 + bw l (4 * k)) :: zeroW m := by
      rw [wStep, ih, show 4 * k / 4 = k by omega, wnth_mid _ _ _ _ hwl, set_mid _ _ _ _ _ hwl]
    have e1 : wStep l (4 * k + 2) = words l k ++ (((0 : W) <<< 8 + bw l (4 * k)) <<< 8 + bw l (4 * k + 1)) :: zeroW m := by
      rw [wStep, e0, show (4 * k + 1) / 4 = k by omega, wnth_mid _ _ _ _ hwl, set_mid _ _ _ _ _ hwl]
    have e2 : wStep l (4 * k + 3) = words l k ++ ((((0 : W) <<< 8 + bw l (4 * k)) <<< 8 + bw l (4 * k + 1)) <<< 8 + bw l (4 * k + 2)) :: zeroW m := by
      rw [wStep, e1, show (4 * k + 2) / 4 = k by omega, wnth_mid _ _ _ _ hwl, set_mid _ _ _ _ _ hwl]
    have e3 : wStep l (4 * k + 4) = words l k ++ (((((0 : W) <<< 8 + bw l (4 * k)) <<< 8 + bw l (4 * k + 1)) <<< 8 + bw l (4 * k + 2)) <<< 8 + bw l (4 * k + 3)) :: zeroW m := by
      rw [wStep, e2, show (4 * k + 3) / 4 = k by omega, wnth_mid _ _ _ _ hwl, set_mid _ _ _ _ _ hwl]
    rw [show 4 * (k + 1) = 4 * k + 4 by omega, e3, show 64 - (k + 1) = m by omega, words, List.append_assoc]
    congr 1
    unfold bw
    rw [be_four]
    rfl
theorem shl8_add (x : W) (c : UInt8) : (((x.toNat : Int) * (256 : Int) + (c.toNat : Int)) % (4294967296 : Int)) = ((x <<< 8 + BitVec.ofNat 32 c.toNat).toNat : Int) := by
  have hc := c.toNat_lt
  rw [BitVec.toNat_add, BitVec.toNat_shiftLeft, BitVec.toNat_ofNat, Nat.shiftLeft_eq]
  simp only [Nat.reducePow]
  omega
theorem Rot_q (x : W) (k : Int) (n : Nat) (hk : k = n) (h0 : 0 < n) (h1 : n < 32) (w : World) :
    Calls Tryd.prog 39 #[uw x, .int .i64 k] w fun e w' => e = .returned (uw (rotr x n)) ∧ w = w' :=
  (Rot_n x k n hk h0 h1 w).mono fun _ _ ⟨he, hw⟩ => ⟨he, hw.symm⟩
theorem ref_sched (m : List W) (n : Nat) :
    (bits BinOp.xor IntKind.u32 (bits BinOp.xor IntKind.u32 ((rotr (wnth (sched m n) (n + 14)) 17).toNat : Int) ((rotr (wnth (sched m n) (n + 14)) 19).toNat : Int)) (((wnth (sched m n) (n + 14)).toNat : Int) / (1024 : Int)) +
      ((wnth (sched m n) (n + 9)).toNat : Int) +
      bits BinOp.xor IntKind.u32 (bits BinOp.xor IntKind.u32 ((rotr (wnth (sched m n) (n + 1)) 7).toNat : Int) ((rotr (wnth (sched m n) (n + 1)) 18).toNat : Int)) (((wnth (sched m n) (n + 1)).toNat : Int) / (8 : Int)) +
      ((wnth (sched m n) n).toNat : Int)) % (4294967296 : Int) =
    ((wnth (sched m n) n + wnth (sched m n) (n + 9) + sg0 (wnth (sched m n) (n + 1)) + sg1 (wnth (sched m n) (n + 14))).toNat : Int) := by
  rw [shr3, shr10, bits_xor, bits_xor, bits_xor, bits_xor, add3_u32]
  congr 2
  show sg1 _ + wnth (sched m n) (n + 9) + sg0 _ + wnth (sched m n) n = _
  generalize sg1 (wnth (sched m n) (n + 14)) = a
  generalize sg0 (wnth (sched m n) (n + 1)) = b
  generalize wnth (sched m n) (n + 9) = c
  generalize wnth (sched m n) n = d
  rw [BitVec.add_comm a c, BitVec.add_assoc c a b, BitVec.add_comm a b, BitVec.add_comm _ d, ← BitVec.add_assoc d c, ← BitVec.add_assoc (d + c)]

set_option maxRecDepth 100000 in
set_option maxHeartbeats 4000000 in
theorem Words_any (s : ByteArray) (hs : s.size = 64) (w : World) :
    Calls Tryd.prog 38 #[.string s] w fun e w' => e = .returned (.agg (u32s (sched (words (bytesOf s) 16) 48)).toArray) ∧ Below w.heap.size w w' := by
  have HS := Lib.hid hs
  go_enter Tryd.func38, Tryd.ntmps38
  go_wp2
  have hR1 : ((w.alloc (Obj.cells (u32s (zeroW 64)).toArray 70)).alloc (Obj.cells (u32s (zeroW 64)).toArray 70)).heap[w.heap.size]? = some (Obj.cells (u32s (zeroW 64)).toArray 70 (0, 0)) := heap_alloc2_old w _ _
  have hW1 : ((w.alloc (Obj.cells (u32s (zeroW 64)).toArray 70)).alloc (Obj.cells (u32s (zeroW 64)).toArray 70)).heap[w.heap.size + 1]? = some (Obj.cells (u32s (wStep (bytesOf s) 0) ++ []).toArray 70 (0, 0)) := heap_alloc2_new w _ _
  have hb1 : Below w.heap.size w ((w.alloc (Obj.cells (u32s (zeroW 64)).toArray 70)).alloc (Obj.cells (u32s (zeroW 64)).toArray 70)) := ((Below.refl _ _).alloc (Nat.le_refl _) _).alloc (by simp) _
  have hs1 : ((w.alloc (Obj.cells (u32s (zeroW 64)).toArray 70)).alloc (Obj.cells (u32s (zeroW 64)).toArray 70)).heap.size = w.heap.size + 2 := by simp
  change Code.wp _ _ _ _ ((w.alloc (Obj.cells (u32s (zeroW 64)).toArray 70)).alloc (Obj.cells (u32s (zeroW 64)).toArray 70))
  generalize (w.alloc (Obj.cells (u32s (zeroW 64)).toArray 70)).alloc (Obj.cells (u32s (zeroW 64)).toArray 70) = w1 at *
  have HR1 := Lib.hid hR1
  have HW1 := Lib.hid hW1
  have HB1 := Lib.hid hb1
  have hs1a : w.heap.size + 2 ≤ w1.heap.size := by omega
  clear hR1 hW1 hb1 hs1
  go_loopw [4] (fun i wr => ∃ k : Nat, k ≤ 64 ∧ i = .int .i64 k ∧ wr.heap[w.heap.size + 1]? = some (Obj.cells (u32s (wStep (bytesOf s) k) ++ []).toArray 70 (0, 0)) ∧ Kept2 (w.heap.size + 1) (w.heap.size + 1) w1 wr) (fun i _ => 64 - (intOf i).toNat)
  case atStart => exact ⟨0, by omega, rfl, HW1.out, Kept2.refl _ _ _⟩
  case round =>
    obtain ⟨k, hk, rfl, hW, hK⟩ := hrel
    have HW := Lib.hid hW
    have HK := Lib.hid hK
    clear hW hK
    have HL := Lib.hid (wStep_len (bytesOf s) k)
    have HNX : Hid (wStep (bytesOf s) (k + 1) = (wStep (bytesOf s) k).set (k / 4) ((wnth (wStep (bytesOf s) k) (k / 4)) <<< 8 + bw (bytesOf s) k)) := rfl
    by_cases hlt : k < 64
    · generalize wStep (bytesOf s) k = S at *
      have cw := u32_cell S (k := k / 4) (by rw [HL.out]; omega) [] HW.out
      have fw : wr.frozen? ⟨w.heap.size + 1, k / 4, none⟩ = false := by simp [World.frozen?, HW.out]
      have q3 : IntKind.i64.wrap ((k : Int) / 4) = (k : Int) / 4 := IntWalk.i64_in _ (by omega)
      have q0 : (0 : Int) ≤ (k : Int) / 4 := by omega
      have q1 : (k : Int) / 4 < 64 := by omega
      have q2 : ((k : Int) / 4).toNat = k / 4 := by omega
      have ks : k < s.size := by omega
      have ks2 : (k : Int) < (s.size : Int) := by omega
      have HBG := Lib.hid (byte_get s k ks)
      clear hs
      go_wp2
      go_still_tail 13, (by kernel_rfl)
      change wpList _ _ _ _ _ wr.drew
      have cw2 : wr.drew.cell? ⟨w.heap.size + 1, k / 4, none⟩ = some (uw (wnth S (k / 4))) := cw
      have fw2 : wr.drew.frozen? ⟨w.heap.size + 1, k / 4, none⟩ = false := fw
      have HW2 : Hid (wr.drew.heap[w.heap.size + 1]? = some (Obj.cells (u32s S ++ []).toArray 70 (0, 0)) ∧ Kept2 (w.heap.size + 1) (w.heap.size + 1) w1 wr.drew) := ⟨HW.out, HK.out.drew⟩
      clear cw fw q3 q0 q1 q2
      generalize wr.drew = w3 at *
      go_wp2
      go_roundw
      case rel => exact ⟨k + 1, by omega, by go_num, by rw [shl8_add, HNX.out, bw, HBG.out]; exact u32_set S (k := k / 4) (by rw [HL.out]; omega) [] _ HW2.out.1, HW2.out.2.put _ _⟩
      case measure => simp [intOf]; omega
    · obtain rfl : k = 64 := by omega
      have HM : Hid ((words (bytesOf s) 16).length = 16) := Sha.words_len _ 16
      have hw64 : wStep (bytesOf s) 64 = sched (words (bytesOf s) 16) 0 ++ zeroW (48 - 0) := wStep_words (bytesOf s) 16 (by decide)
      rw [hw64, List.append_nil] at HW
      clear hw64 hs HNX HL
      generalize hmm : words (bytesOf s) 16 = m at *
      have HMM := Lib.hid hmm
      clear hmm
      rw [show ((64 : Nat) : Int) = (64 : Int) from rfl]
      obtain ⟨w2, hw2⟩ : ∃ V, V = wr := ⟨wr, rfl⟩
      subst hw2
      go_wp2
      go_loopw [5] (fun i wr => ∃ n : Nat, n ≤ 48 ∧ i = .int .i64 ((n : Int) + 16) ∧ wr.heap[w.heap.size + 1]? = some (Obj.cells (u32s (sched m n ++ zeroW (48 - n))).toArray 70 (0, 0)) ∧ Kept2 (w.heap.size + 1) (w.heap.size + 1) w1 wr) (fun i _ => 64 - (intOf i).toNat)
      case atStart => exact ⟨0, by omega, rfl, HW.out, HK.out⟩
      case round =>
        obtain ⟨n, hn, rfl, hW, hK⟩ := hrel
        have HW2 := Lib.hid hW
        have HK2 := Lib.hid hK
        clear hW hK
        have hSL := Sha.sched_len m HM.out n
        have HSL := Lib.hid hSL
        by_cases hlt : n < 48
        · have hcw : wr.heap[w.heap.size + 1]? = some (Obj.cells (u32s (sched m n) ++ u32s (zeroW (48 - n))).toArray 70 (0, 0)) := by rw [← u32s_append]; exact HW2.out
          have c0 := u32_cell (sched m n) (k := n) (by omega) _ hcw
          have c1 := u32_cell (sched m n) (k := n + 1) (by omega) _ hcw
          have c9 := u32_cell (sched m n) (k := n + 9) (by omega) _ hcw
          have c14 := u32_cell (sched m n) (k := n + 14) (by omega) _ hcw
          have cw := u32_cell (sched m n ++ zeroW (48 - n)) (k := n + 16) (by rw [List.length_append, zeroW_len]; omega) [] (by rw [List.append_nil]; exact HW2.out)
          have fw : wr.frozen? ⟨w.heap.size + 1, n + 16, none⟩ = false := by simp [World.frozen?, HW2.out]
          have m1 : (n : Int) + 1 < 64 := by omega
          have m2 : (n : Int) + 14 < 64 := by omega
          clear hcw hSL
          have tok1 : True := trivial
          go_wp2_with (first | (go_at_call_of 39 (Value.int IntKind.i64 7); refine (Rot_q _ 7 7 rfl (by decide) (by decide) _).mono ?_; rintro e w3 ⟨rfl, rfl⟩) | (go_at_call_of 39 (Value.int IntKind.i64 18); refine (Rot_q _ 18 18 rfl (by decide) (by decide) _).mono ?_; rintro e w3 ⟨rfl, rfl⟩) | (go_at_call_of 39 (Value.int IntKind.i64 17); refine (Rot_q _ 17 17 rfl (by decide) (by decide) _).mono ?_; rintro e w3 ⟨rfl, rfl⟩) | (go_at_call_of 39 (Value.int IntKind.i64 19); refine (Rot_q _ 19 19 rfl (by decide) (by decide) _).mono ?_; rintro e w3 ⟨rfl, rfl⟩))
          have e16 : IntKind.i64.wrap ((n : Int) + 16 - 16) = (n : Int) := by rw [IntWalk.i64_in _ (by omega)]; omega
          have e7 : IntKind.i64.wrap ((n : Int) + 16 - 7) = (n : Int) + 9 := by rw [IntWalk.i64_in _ (by omega)]; omega
          have d16 : IntKind.i64.wrap (n : Int) = (n : Int) := IntWalk.i64_in _ (by omega)
          have d7 : IntKind.i64.wrap ((n : Int) + 9) = (n : Int) + 9 := IntWalk.i64_in _ (by omega)
          have n3 : (0 : Int) ≤ (n : Int) + 9 := by omega
          have n4 : (0 : Int) ≤ (n : Int) + 16 := by omega
          have m0 : (n : Int) < 64 := by omega
          have m3 : (n : Int) + 9 < 64 := by omega
          have m4 : (n : Int) + 16 < 64 := by omega
          have t3 : ((n : Int) + 9).toNat = n + 9 := by omega
          have t4 : ((n : Int) + 16).toNat = n + 16 := by omega
          go_still_tail 15, (by kernel_rfl)
          change wpList _ _ _ _ _ wr.drew
          have yw2 : wr.drew.cell? ⟨w.heap.size + 1, n + 16, none⟩ = some (uw (wnth (sched m n ++ zeroW (48 - n)) (n + 16))) := cw
          have zw2 : wr.drew.frozen? ⟨w.heap.size + 1, n + 16, none⟩ = false := fw
          have HWK2 : Hid (wr.drew.heap[w.heap.size + 1]? = some (Obj.cells (u32s (sched m n ++ zeroW (48 - n)) ++ []).toArray 70 (0, 0)) ∧ Kept2 (w.heap.size + 1) (w.heap.size + 1) w1 wr.drew) := ⟨by rw [List.append_nil]; exact HW2.out, HK2.out.drew⟩
          clear cw fw c0 c1 c9 c14
          generalize wr.drew = w4 at *
          clear e16 e7 d16 d7 n3 n4 m0 m1 m2 m3 m4 t3 t4
          have HSP := Lib.hid (ref_sched m n)
          have HPT := Lib.hid (sched_put m HM.out n hlt)
          go_wp2
          go_roundw
          case rel =>
            exact ⟨n + 1, by omega, by go_num, by rw [HSP.out]; have h := u32_set _ (k := n + 16) (by rw [List.length_append, zeroW_len, HSL.out]; omega) [] (wnth (sched m n) n + wnth (sched m n) (n + 9) + sg0 (wnth (sched m n) (n + 1)) + sg1 (wnth (sched m n) (n + 14))) HWK2.out.1; rw [List.append_nil, HPT.out] at h; exact h, HWK2.out.2.put _ _⟩
          case measure => simp [intOf]; omega
        · obtain rfl : n = 48 := by omega
          have hW9 : wr.heap[w.heap.size + 1]? = some (Obj.cells (u32s (sched m 48)).toArray 70 (0, 0)) := by
            have := HW2.out
            rw [show zeroW (48 - 48) = [] from rfl, List.append_nil] at this
            exact this
          have hR9 := HK2.out.block' HR1.out (by omega) (by omega)
          have hs9 := HK2.out.size
          have HW9 := Lib.hid hW9
          have HR9 := Lib.hid hR9
          have HL9 : Hid ((sched m 48).length = 64) := HSL.out
          clear hW9 hR9 hSL HW2 HSL
          generalize hws : sched m 48 = ws at *
          have HWS := Lib.hid hws
          clear hws
          go_wp2_with (first | (refine wpList_load_row rfl _ _ rfl (w.heap.size + 1) rfl _ _ (0, 0) _ HW9.out uW64 rfl (by rw [sW64]; simp [u32s_len, HL9.out]) ?_) | (refine wpList_store_words rfl _ _ _ rfl w.heap.size (ws) rfl rfl _ (zeroW 64) 64 HL9.out (zeroW_len 64) HR9.out sW64 ?_; intro w5 hg5 hk5))
          refine bodyPost_ret (results_cell_row rfl _ _ w.heap.size _ (u32s (ws)).toArray _ _ rfl hg5 uW64 rfl (by rw [sW64]; simp [u32s_len, HL9.out])) rfl ⟨by rw [HMM.out, HWS.out], ?_⟩
          exact (HB1.out.trans (HK2.out.below (by omega) (by omega) (by omega))).trans (hk5.below (by omega) (Nat.le_refl _) (Nat.le_refl _))
end Go.Proofs.YtalbdcpbdedfiaaDoor
