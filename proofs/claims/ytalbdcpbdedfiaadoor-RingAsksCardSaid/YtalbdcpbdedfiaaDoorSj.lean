/- Walks: the reference's Sum. -/
import Derived.Test.YtalbdcpbdedfiaaDoorSi
namespace Go.Proofs.YtalbdcpbdedfiaaDoor
open Go.RowKit
open Sha (W rotr wnth words be sched feed feeds rnds rnd addTo pad out outB)

theorem uA8 : Tryd.prog.underlying 63 = some (.array 8 62) := by kernel_rfl
theorem sA8 : (Tryd.prog.info? 63).map (·.size) = some 8 := by kernel_rfl
theorem kept_mid' {B b : Nat} {w w4 w9 : World} {o : Obj} (h1 : Kept2 B B w w4) (h2 : Kept2 b b (w4.alloc o) w9) (hb : w.heap.size ≤ b) : Kept2 B B w w9 :=
  ⟨h2.os.trans h1.os, h2.tape.trans h1.tape, h2.output.trans h1.output, by have := h1.size; have := h2.size; simp at this; omega, fun k hk ha _ =>
    (h2.block k (by have := h1.size; simp; omega) (by omega) (by omega)).trans ((Below.heap_alloc w4 _ _ (by have := h1.size; omega)).trans (h1.block k hk ha ha))⟩
theorem kept_new {B : Nat} {w w4 : World} {o : Obj} (h1 : Kept2 B B w w4) : Kept2 B B w (w4.alloc o) :=
  ⟨h1.os, h1.tape, h1.output, by have := h1.size; simp; omega, fun k hk ha _ => (Below.heap_alloc w4 _ _ (by have := h1.size; omega)).trans (h1.block k hk ha ha)⟩
theorem agg8 (on tw : W) (v : List W) : Value.agg #[.int .u32 (((on.toNat : Int) + (tw.toNat : Int)) % (4294967296 : Int)), uw (wnth v 0), uw (wnth v 1), uw (wnth v 2), .int .u32 ((((wnth v 3).toNat : Int) + (on.toNat : Int)) % (4294967296 : Int)), uw (wnth v 4), uw (wnth v 5), uw (wnth v 6)] =
    .agg (u32s [on + tw, wnth v 0, wnth v 1, wnth v 2, wnth v 3 + on, wnth v 4, wnth v 5, wnth v 6]).toArray := by
  rw [add_u32, add_u32]
  rfl
theorem store_a8 (st : List W) (h : (u32s st).length = 8) (w : World) :
    (storeCells ⟨w.heap.size, 0, none⟩ (u32s st)).run Tryd.prog (w.alloc (Obj.cells #[.int .u32 0, .int .u32 0, .int .u32 0, .int .u32 0, .int .u32 0, .int .u32 0, .int .u32 0, .int .u32 0] 63)) = .ok () (w.alloc (Obj.cells (u32s st).toArray 63)) :=
  run_storeCells_new w 63 _ (u32s st).toArray (by rw [sA8]; simp [h]) (by simp [h]) (by simp [u32s, Value.oneCell'])
set_option maxRecDepth 100000 in
set_option maxHeartbeats 4000000 in
theorem RefSum_any (s : ByteArray) (hs : s.size < 1152921504606846976) (w : World) :
    Calls Tryd.prog 24 #[.string s] w fun e w' => e = .returned (.agg (u8s (sumOf s)).toArray) ∧ Below w.heap.size w w' := by
  go_enter Tryd.func24, Tryd.ntmps24
  go_wp2_with fail
  have hR1 : ((w.alloc (Obj.cells (u8s zero32).toArray 47)).alloc (Obj.cells (u32s begin0).toArray 63)).heap[w.heap.size]? = some (Obj.cells (u8s zero32).toArray 47 (0, 0)) := heap_alloc2_old w _ _
  have hS1 : ((w.alloc (Obj.cells (u8s zero32).toArray 47)).alloc (Obj.cells (u32s begin0).toArray 63)).heap[w.heap.size + 1]? = some (Obj.cells (u32s begin0).toArray 63 (0, 0)) := heap_alloc2_new w _ _
  have hb1 : Below w.heap.size w ((w.alloc (Obj.cells (u8s zero32).toArray 47)).alloc (Obj.cells (u32s begin0).toArray 63)) := ((Below.refl _ _).alloc (Nat.le_refl _) _).alloc (by simp) _
  have hs1 : ((w.alloc (Obj.cells (u8s zero32).toArray 47)).alloc (Obj.cells (u32s begin0).toArray 63)).heap.size = w.heap.size + 2 := by simp
  change Calls _ _ _ ((w.alloc (Obj.cells (u8s zero32).toArray 47)).alloc (Obj.cells (u32s begin0).toArray 63)) _
  generalize (w.alloc (Obj.cells (u8s zero32).toArray 47)).alloc (Obj.cells (u32s begin0).toArray 63) = w1 at *
  refine (Table_any w1).mono ?_
  rintro e w2 ⟨rfl, hb2⟩
  have hR2 := hb2.block' hR1 (by omega)
  have hS2 := hb2.block' hS1 (by omega)
  have hB2 := hb1.trans (hb2.mono hb1.size)
  have hs2 := hb2.size
  have HR2 := Lib.hid hR2
  have HS2 := Lib.hid hS2
  have HB2 := Lib.hid hB2
  have hs2a : w.heap.size + 2 ≤ w2.heap.size := by omega
  clear hR1 hS1 hb1 hs1 hb2 hR2 hS2 hB2 hs2
  go_wp2_with (refine wpList_store_words rfl _ _ _ rfl w2.heap.size kTab rfl rfl 70 (List.replicate 64 0) 64 rfl rfl (heap_alloc_new w2 _) sW64 ?_; intro w3 hg3 hk3)
  have hs3 := hk3.size
  have hR3 := hk3.block' ((Below.heap_alloc w2 _ _ (by omega)).trans HR2.out) (by omega) (by omega)
  have hS3 := hk3.block' ((Below.heap_alloc w2 _ _ (by omega)).trans HS2.out) (by omega) (by omega)
  have hB3 : Below w.heap.size w w3 := (HB2.out.alloc HB2.out.size _).trans (hk3.below (by simp; omega) (by omega) (by omega))
  have hs3a : w2.heap.size < w3.heap.size := by simp at hs3; omega
  refine (Padded_any s hs w3).mono ?_
  rintro e w4 ⟨pd, rfl, hpd, hb4⟩
  have hs4 := hb4.size
  have HR4 := Lib.hid (hb4.block' hR3 (by omega))
  have HS4 := Lib.hid (hb4.block' hS3 (by omega))
  have HK4 := Lib.hid (hb4.block' hg3 hs3a)
  have HB4 := Lib.hid (hB3.trans (hb4.mono hB3.size))
  have hplen : (bytesOf pd).length = s.size + (pad s.size).length := by rw [hpd, List.length_append, bytesOf_len]
  have hpw : (s.size + (pad s.size).length) % 64 = 0 := Sha.pad_whole s.size
  have hpb : pd.size < 1152921504606847976 := by rw [← bytesOf_len pd, hplen, Sha.pad_len]; omega
  obtain ⟨N, hN⟩ : ∃ N, s.size + (pad s.size).length = 64 * N := ⟨(s.size + (pad s.size).length) / 64, by omega⟩
  have hps : pd.size = 64 * N := by rw [← bytesOf_len pd, hplen, hN]
  have HSUM : Hid (sumOf s = out (feeds kTab begin0 (bytesOf pd) N)) := by
    show sumOf s = _
    unfold sumOf Sha.sum
    rw [hpd, bytesOf_len, hN, Nat.mul_div_cancel_left _ (by decide)]
  have HPS := Lib.hid hps
  have hN2 : 64 * N < 1152921504606847976 := by omega
  clear hR3 hS3 hg3 hk3 hB3 hb4 hpd hplen hpw hps hs3 hN HR2 HS2 HB2
  generalize hL : bytesOf pd = L at *
  have HLE := Lib.hid hL
  clear hL
  go_wp2
  go_loopw [6] (fun i wr => ∃ j : Nat, j ≤ N ∧ i = .int .i64 (64 * (j : Int)) ∧ wr.heap[w.heap.size + 1]? = some (Obj.cells (u32s (feeds kTab begin0 L j)).toArray 63 (0, 0)) ∧ Kept2 (w.heap.size + 1) (w.heap.size + 1) w4 wr) (fun i _ => 64 * N - (intOf i).toNat)
  case atStart => exact ⟨0, by omega, rfl, HS4.out, Kept2.refl _ _ _⟩
  case round =>
    obtain ⟨j, hj, rfl, hS, hK⟩ := hrel
    have HS := Lib.hid hS
    have HK := Lib.hid hK
    clear hS hK
    by_cases hlt : j < N
    · have hsz := HK.out.size
      have HF8 := Lib.hid (Sha.feeds_len kTab begin0 L rfl j)
      have HNX : Hid (feeds kTab begin0 L (j + 1) = addTo (feeds kTab begin0 L j) (rnds (feeds kTab begin0 L j) kTab (sched (words ((L.drop (64 * j)).take 64) 16) 48) 64) 8) := rfl
      generalize feeds kTab begin0 L j = st at *
      have c1 : (64 * (j : Int)) < (pd.size : Int) := by rw [HPS.out]; omega
      have c2 : (64 * (j : Int)) + 64 ≤ (pd.size : Int) := by rw [HPS.out]; omega
      have c3 : (64 * (j : Int)).toNat = 64 * j := by omega
      have c4 : (64 * (j : Int) + 64).toNat = 64 * j + 64 := by omega
      have HEX : Hid (bytesOf (pd.extract (64 * j) (64 * j + 64)) = (L.drop (64 * j)).take 64) := by
        show bytesOf _ = _
        rw [bytesOf_extract, HLE.out, List.drop_take]
        congr 1
        omega
      have hex64 : (pd.extract (64 * j) (64 * j + 64)).size = 64 := by rw [ByteArray.size_extract, HPS.out]; omega
      go_wp2_with fail
      refine (Words_any _ hex64 wr).mono ?_
      rintro e w5 ⟨rfl, hb5⟩
      rw [HEX.out]
      have hs5 := hb5.size
      have HS5 := Lib.hid (hb5.block' HS.out (by omega))
      have HKT5 := Lib.hid (hb5.block' (HK.out.block' HK4.out (by omega) (by omega)) (by omega))
      have hwl : (sched (words ((L.drop (64 * j)).take 64) 16) 48).length = 64 := Sha.sched_len _ (Sha.words_len _ 16) 48
      have HK5 := Lib.hid (HK.out.trans (Kept2.of_below (a := w.heap.size + 1) (b := w.heap.size + 1) hb5))
      clear hb5 hex64 HEX c1 c2 c3 c4
      generalize sched (words ((L.drop (64 * j)).take 64) 16) 48 = ws at *
      have HWL := Lib.hid hwl
      have hlst : (u32s st).length = 8 := by rw [u32s_len]; exact HF8.out
      have hst := store_a8 st hlst
      clear hwl
      go_wp2_with (first | (refine wpList_store_words rfl _ _ _ rfl w5.heap.size ws rfl rfl 70 (List.replicate 64 0) 64 HWL.out rfl (heap_alloc_new w5 _) sW64 ?_; intro w6 hg6 hk6; have hs6 := hk6.size; have HS6 := Lib.hid (hk6.block' ((Below.heap_alloc w5 _ _ (by omega)).trans HS5.out) (by omega) (by omega))) | (refine wpList_load_row rfl _ _ rfl (w.heap.size + 1) rfl 63 (u32s st).toArray (0, 0) _ HS6.out uA8 rfl (by rw [sA8]; simp [hlst]) ?_))
      have hV7 : (w6.alloc (Obj.cells (u32s st).toArray 63)).heap[w6.heap.size]? = some (Obj.cells (u32s (rnds st kTab ws 0)).toArray 63 (0, 0)) := heap_alloc_new w6 _
      have hs5a : w5.heap.size < w6.heap.size := by simp at hs6; omega
      have hW7 : (w6.alloc (Obj.cells (u32s st).toArray 63)).heap[w5.heap.size]? = some (Obj.cells (u32s ws ++ []).toArray 70 (0, 0)) := (Below.heap_alloc w6 _ _ hs5a).trans (by rw [List.append_nil]; exact hg6)
      have hT7 : (w6.alloc (Obj.cells (u32s st).toArray 63)).heap[w2.heap.size]? = some (Obj.cells (u32s kTab ++ []).toArray 70 (0, 0)) := (Below.heap_alloc w6 _ _ (by omega)).trans (by rw [List.append_nil]; exact hk6.block' ((Below.heap_alloc w5 _ _ (by omega)).trans HKT5.out) (by omega) (by omega))
      have hS7 : (w6.alloc (Obj.cells (u32s st).toArray 63)).heap[w.heap.size + 1]? = some (Obj.cells (u32s st ++ []).toArray 63 (0, 0)) := (Below.heap_alloc w6 _ _ (by omega)).trans (by rw [List.append_nil]; exact HS6.out)
      have hK7 : Kept2 (w.heap.size + 1) (w.heap.size + 1) w4 (w6.alloc (Obj.cells (u32s st).toArray 63)) := kept_new (kept_mid' HK5.out hk6 (by have := HK5.out.size; omega))
      have hs7 : (w6.alloc (Obj.cells (u32s st).toArray 63)).heap.size = w6.heap.size + 1 := by simp
      change Code.wp _ _ _ _ (w6.alloc (Obj.cells (u32s st).toArray 63))
      generalize w6.alloc (Obj.cells (u32s st).toArray 63) = w7 at *
      have HV7 := Lib.hid hV7
      have HW7 := Lib.hid hW7
      have HT7 := Lib.hid hT7
      have HS7 := Lib.hid hS7
      have HK7 := Lib.hid hK7
      have HZ7 := Lib.hid hs7
      clear hV7 hW7 hT7 hS7 hK7 hs7 hst hlst hg6 hk6 HS6 HS5 HKT5
      go_loopw [9] (fun i wr => ∃ t : Nat, t ≤ 64 ∧ i = .int .i64 t ∧ wr.heap[w6.heap.size]? = some (Obj.cells (u32s (rnds st kTab ws t)).toArray 63 (0, 0)) ∧ Kept2 w6.heap.size w6.heap.size w7 wr) (fun i _ => 64 - (intOf i).toNat)
      case atStart => exact ⟨0, by omega, rfl, HV7.out, Kept2.refl _ _ _⟩
      case round =>
        obtain ⟨t, ht, rfl, hV, hK2⟩ := hrel
        have HV := Lib.hid hV
        have HK2 := Lib.hid hK2
        clear hV hK2
        have HL8 := Lib.hid (Sha.rnds_len st kTab ws HF8.out t)
        have HRX : Hid (rnds st kTab ws (t + 1) = rnd (rnds st kTab ws t) (wnth kTab t) (wnth ws t)) := rfl
        generalize hv : rnds st kTab ws t = v at *
        have HVE := Lib.hid hv
        clear hv
        by_cases hltt : t < 64
        · have hcv : wr.heap[w6.heap.size]? = some (Obj.cells (u32s v ++ []).toArray 63 (0, 0)) := by rw [List.append_nil]; exact HV.out
          have v0 := u32_cell v (k := 0) (by rw [HL8.out]; decide) [] hcv
          have v1 := u32_cell v (k := 1) (by rw [HL8.out]; decide) [] hcv
          have v2 := u32_cell v (k := 2) (by rw [HL8.out]; decide) [] hcv
          have v3 := u32_cell v (k := 3) (by rw [HL8.out]; decide) [] hcv
          have v4 := u32_cell v (k := 4) (by rw [HL8.out]; decide) [] hcv
          have v5 := u32_cell v (k := 5) (by rw [HL8.out]; decide) [] hcv
          have v6 := u32_cell v (k := 6) (by rw [HL8.out]; decide) [] hcv
          have v7 := u32_cell v (k := 7) (by rw [HL8.out]; decide) [] hcv
          have cw := u32_cell ws (k := t) (by rw [HWL.out]; exact hltt) [] (HK2.out.block' HW7.out (by omega) (by omega))
          have ck := u32_cell kTab (k := t) hltt [] (HK2.out.block' HT7.out (by omega) (by omega))
          have p64 : (t : Int) < 64 := by omega
          clear hcv
          go_wp2
          refine wp_region_still_lit (by kernel_rfl) (by kernel_rfl) ?_
          repeat still_step
          still_call (Rot_n _ 6 6 rfl (by decide) (by decide) _)
          repeat still_step
          still_call (Rot_n _ 11 11 rfl (by decide) (by decide) _)
          repeat still_step
          still_call (Rot_n _ 25 25 rfl (by decide) (by decide) _)
          repeat still_step
          refine wpStill_nil ?_
          rw [one_spelled]
          change Exit.then _ _ _ _ wr.drew
          obtain ⟨w8, ew8, zv0, zv1, zv2, zv3, zv4, zv5, zv6, zv7, zcw, zck, zHV, zHK2⟩ : ∃ V, V = wr.drew ∧ V.cell? ⟨w6.heap.size, 0, none⟩ = some (uw (wnth v 0)) ∧ V.cell? ⟨w6.heap.size, 1, none⟩ = some (uw (wnth v 1)) ∧ V.cell? ⟨w6.heap.size, 2, none⟩ = some (uw (wnth v 2)) ∧ V.cell? ⟨w6.heap.size, 3, none⟩ = some (uw (wnth v 3)) ∧ V.cell? ⟨w6.heap.size, 4, none⟩ = some (uw (wnth v 4)) ∧ V.cell? ⟨w6.heap.size, 5, none⟩ = some (uw (wnth v 5)) ∧ V.cell? ⟨w6.heap.size, 6, none⟩ = some (uw (wnth v 6)) ∧ V.cell? ⟨w6.heap.size, 7, none⟩ = some (uw (wnth v 7)) ∧ V.cell? ⟨w5.heap.size, t, none⟩ = some (uw (wnth ws t)) ∧ V.cell? ⟨w2.heap.size, t, none⟩ = some (uw (wnth kTab t)) ∧ V.heap[w6.heap.size]? = some (Obj.cells (u32s v).toArray 63 (0, 0)) ∧ Kept2 w6.heap.size w6.heap.size w7 V := ⟨_, rfl, v0, v1, v2, v3, v4, v5, v6, v7, cw, ck, HV.out, HK2.out.drew⟩
          rw [← ew8]
          clear v0 v1 v2 v3 v4 v5 v6 v7 cw ck HV HK2
          clear ew8
          have v0 := zv0
          have v1 := zv1
          have v2 := zv2
          have v3 := zv3
          have v4 := zv4
          have v5 := zv5
          have v6 := zv6
          have v7 := zv7
          have cw := zcw
          have ck := zck
          have HV := Lib.hid zHV
          have HK2 := Lib.hid zHK2
          clear zv0 zv1 zv2 zv3 zv4 zv5 zv6 zv7 zcw zck zHV zHK2
          have HRG : Hid ((u32s (rnd v (wnth kTab t) (wnth ws t))).toArray = #[uw (Sha.one v (wnth kTab t) (wnth ws t) + Sha.two v), uw (wnth v 0), uw (wnth v 1), uw (wnth v 2), uw (wnth v 3 + Sha.one v (wnth kTab t) (wnth ws t)), uw (wnth v 4), uw (wnth v 5), uw (wnth v 6)]) := rfl
          generalize Sha.one v (wnth kTab t) (wnth ws t) = on at *
          go_wp2
          refine wp_region_still_lit (by kernel_rfl) (by kernel_rfl) ?_
          repeat still_step
          still_call (Rot_n _ 2 2 rfl (by decide) (by decide) _)
          repeat still_step
          still_call (Rot_n _ 13 13 rfl (by decide) (by decide) _)
          repeat still_step
          still_call (Rot_n _ 22 22 rfl (by decide) (by decide) _)
          repeat still_step
          refine wpStill_nil ?_
          rw [two_spelled]
          change Exit.then _ _ _ _ w8.drew
          obtain ⟨w9, ew9, zv0, zv1, zv2, zv3, zv4, zv5, zv6, zv7, zcw, zck, zHV, zHK2⟩ : ∃ V, V = w8.drew ∧ V.cell? ⟨w6.heap.size, 0, none⟩ = some (uw (wnth v 0)) ∧ V.cell? ⟨w6.heap.size, 1, none⟩ = some (uw (wnth v 1)) ∧ V.cell? ⟨w6.heap.size, 2, none⟩ = some (uw (wnth v 2)) ∧ V.cell? ⟨w6.heap.size, 3, none⟩ = some (uw (wnth v 3)) ∧ V.cell? ⟨w6.heap.size, 4, none⟩ = some (uw (wnth v 4)) ∧ V.cell? ⟨w6.heap.size, 5, none⟩ = some (uw (wnth v 5)) ∧ V.cell? ⟨w6.heap.size, 6, none⟩ = some (uw (wnth v 6)) ∧ V.cell? ⟨w6.heap.size, 7, none⟩ = some (uw (wnth v 7)) ∧ V.cell? ⟨w5.heap.size, t, none⟩ = some (uw (wnth ws t)) ∧ V.cell? ⟨w2.heap.size, t, none⟩ = some (uw (wnth kTab t)) ∧ V.heap[w6.heap.size]? = some (Obj.cells (u32s v).toArray 63 (0, 0)) ∧ Kept2 w6.heap.size w6.heap.size w7 V := ⟨_, rfl, v0, v1, v2, v3, v4, v5, v6, v7, cw, ck, HV.out, HK2.out.drew⟩
          rw [← ew9]
          clear v0 v1 v2 v3 v4 v5 v6 v7 cw ck HV HK2
          clear ew9
          have v0 := zv0
          have v1 := zv1
          have v2 := zv2
          have v3 := zv3
          have v4 := zv4
          have v5 := zv5
          have v6 := zv6
          have v7 := zv7
          have cw := zcw
          have ck := zck
          have HV := Lib.hid zHV
          have HK2 := Lib.hid zHK2
          clear zv0 zv1 zv2 zv3 zv4 zv5 zv6 zv7 zcw zck zHV zHK2
          generalize Sha.two v = tw at *
          go_wp2_with (refine wpList_store_words rfl _ _ _ rfl w6.heap.size [on + tw, wnth v 0, wnth v 1, wnth v 2, wnth v 3 + on, wnth v 4, wnth v 5, wnth v 6] rfl (agg8 on tw v) 63 v 8 rfl HL8.out HV.out sA8 ?_; intro w10 hg10 hk10)
          go_roundw
          case rel => exact ⟨t + 1, by omega, by go_num, by rw [HRX.out, HRG.out]; exact hg10, HK2.out.trans hk10⟩
          case measure => simp [intOf]; omega
        · obtain rfl : t = 64 := by omega
          rw [show ((64 : Nat) : Int) = (64 : Int) from rfl]
          obtain ⟨w8, hw8⟩ : ∃ V, V = wr := ⟨wr, rfl⟩
          subst hw8
          have hs8 := HK2.out.size
          have HV8 : Hid (w8.heap[w6.heap.size]? = some (Obj.cells (u32s v ++ []).toArray 63 (0, 0))) := by rw [List.append_nil]; exact HV.out
          have HS8 := Lib.hid (HK2.out.block' HS7.out (by omega) (by omega))
          have HK8 := Lib.hid (kept_mid HK7.out HK2.out (by have := HK7.out.size; omega))
          have hne8 : w6.heap.size ≠ w.heap.size + 1 := by omega
          have HNE8 := Lib.hid hne8
          clear hne8
          go_wp2
          go_loopw [14] (fun x wr => ∃ i : Nat, i ≤ 8 ∧ x = .int .i64 i ∧ wr.heap[w.heap.size + 1]? = some (Obj.cells (u32s (addTo st v i) ++ []).toArray 63 (0, 0)) ∧ Kept2 (w.heap.size + 1) (w.heap.size + 1) w8 wr) (fun x _ => 8 - (intOf x).toNat)
          case atStart => exact ⟨0, by omega, rfl, HS8.out, Kept2.refl _ _ _⟩
          case round =>
            obtain ⟨i, hi, rfl, hS, hK3⟩ := hrel
            have HS9 := Lib.hid hS
            have HK9 := Lib.hid hK3
            clear hS hK3
            have HLA := Lib.hid (Sha.addTo_len st v i)
            have HAX : Hid (addTo st v (i + 1) = (addTo st v i).set i (wnth (addTo st v i) i + wnth v i)) := rfl
            by_cases hlti : i < 8
            · generalize addTo st v i = S at *
              have cs := u32_cell S (k := i) (by rw [HLA.out, HF8.out]; exact hlti) [] HS9.out
              have fs : wr.frozen? ⟨w.heap.size + 1, i, none⟩ = false := by simp [World.frozen?, HS9.out]
              have cv := u32_cell v (k := i) (by rw [HL8.out]; exact hlti) [] (HK9.out.block' HV8.out HNE8.out HNE8.out)
              have p8 : (i : Int) < 8 := by omega
              go_wp2
              go_still_tail 9, (by kernel_rfl)
              change wpList _ _ _ _ _ wr.drew
              have cs2 : wr.drew.cell? ⟨w.heap.size + 1, i, none⟩ = some (uw (wnth S i)) := cs
              have fs2 : wr.drew.frozen? ⟨w.heap.size + 1, i, none⟩ = false := fs
              have HS10 : Hid (wr.drew.heap[w.heap.size + 1]? = some (.cells (u32s S ++ []).toArray 63 (0, 0)) ∧ Kept2 (w.heap.size + 1) (w.heap.size + 1) w8 wr.drew) := ⟨HS9.out, HK9.out.drew⟩
              clear cs fs cv
              generalize wr.drew = w10 at *
              go_wp2
              go_roundw
              case rel => exact ⟨i + 1, by omega, by go_num, by rw [add_u32, HAX.out]; exact u32_set S (k := i) (by rw [HLA.out, HF8.out]; exact hlti) [] (wnth S i + wnth v i) HS10.out.1, HS10.out.2.put _ _⟩
              case measure => simp [intOf]; omega
            · obtain rfl : i = 8 := by omega
              have HFIN : Hid (wr.heap[w.heap.size + 1]? = some (Obj.cells (u32s (feeds kTab begin0 L (j + 1))).toArray 63 (0, 0))) := by
                have h := HS9.out
                rw [List.append_nil] at h
                rw [HNX.out, HVE.out]
                exact h
              go_wp2
              go_roundw
              case rel =>
                exact ⟨j + 1, by omega, by go_num, HFIN.out, HK8.out.trans HK9.out⟩
              case measure => simp [intOf]; omega
    · obtain rfl : j = N := by omega
      have HFL := Lib.hid (Sha.feeds_len kTab begin0 L rfl j)
      have hsz := HK.out.size
      generalize feeds kTab begin0 L j = FS at *
      have e1 : ((pd.size : Nat) : Int) = 64 * (j : Int) := by rw [HPS.out]; omega
      obtain ⟨w5, hw5⟩ : ∃ V, V = wr := ⟨wr, rfl⟩
      subst hw5
      have hO7 : (w5.alloc (Obj.cells (u8s zero32).toArray 47)).heap[w5.heap.size]? = some (Obj.cells (u8s (outTo FS 0 ++ zeroB 32)).toArray 47 (0, 0)) := heap_alloc_new w5 _
      have hC7 : (w5.alloc (Obj.cells (u8s zero32).toArray 47)).heap[w.heap.size + 1]? = some (Obj.cells (u32s FS ++ []).toArray 63 (0, 0)) := (Below.heap_alloc w5 _ _ (by omega)).trans (by rw [List.append_nil]; exact HS.out)
      have hR7 : (w5.alloc (Obj.cells (u8s zero32).toArray 47)).heap[w.heap.size]? = some (Obj.cells (u8s zero32).toArray 47 (0, 0)) := (Below.heap_alloc w5 _ _ (by omega)).trans (HK.out.block' HR4.out (by omega) (by omega))
      have hB5 : Below w.heap.size w w5 := HB4.out.trans (HK.out.below (by omega) (by omega) (by omega))
      have hB7 : Below w.heap.size w (w5.alloc (Obj.cells (u8s zero32).toArray 47)) := hB5.alloc hB5.size _
      have hs7 : (w5.alloc (Obj.cells (u8s zero32).toArray 47)).heap.size = w5.heap.size + 1 := by simp
      go_wp2
      change Code.wp _ _ _ _ (w5.alloc (Obj.cells (u8s zero32).toArray 47))
      generalize w5.alloc (Obj.cells (u8s zero32).toArray 47) = w7 at *
      have HO7 := Lib.hid hO7
      have HC7 := Lib.hid hC7
      have HR7 := Lib.hid hR7
      have HB7 := Lib.hid hB7
      have HS7 := Lib.hid hs7
      clear hO7 hC7 hR7 hB7 hs7 hB5 e1
      go_loopw [16] (fun i wr => ∃ k : Nat, k ≤ 32 ∧ i = .int .i64 k ∧ wr.heap[w5.heap.size]? = some (Obj.cells (u8s (outTo FS k ++ zeroB (32 - k))).toArray 47 (0, 0)) ∧ Kept2 w5.heap.size w5.heap.size w7 wr) (fun i _ => 32 - (intOf i).toNat)
      case atStart => exact ⟨0, by omega, rfl, HO7.out, Kept2.refl _ _ _⟩
      case round =>
        obtain ⟨k, hk, rfl, hO, hKo⟩ := hrel
        have HO := Lib.hid hO
        have HKo := Lib.hid hKo
        clear hO hKo
        by_cases hltk : k < 32
        · have cst := u32_cell FS (k := k / 4) (by rw [HFL.out]; omega) _ (HKo.out.block' HC7.out (by omega) (by omega))
          have cw := u8_cell (outTo FS k ++ zeroB (32 - k)) (k := k) (by rw [List.length_append, outTo_len]; simp [zeroB]; omega) HO.out
          have fw : wr.frozen? ⟨w5.heap.size, k, none⟩ = false := by simp [World.frozen?, HO.out]
          have q0 : (0 : Int) ≤ (k : Int) / 4 := by omega
          have q1 : (k : Int) / 4 < 8 := by omega
          have q2 : ((k : Int) / 4).toNat = k / 4 := by omega
          have s0 : (0 : Int) ≤ 24 - 8 * ((k : Int) % 4) := by omega
          have p32 : (k : Int) < 32 := by omega
          go_wp2
          rw [out_val]
          go_roundw
          case rel => exact ⟨k + 1, by omega, by go_num, by have h := u8_set (k := k) _ (outB FS k) HO.out; rw [outTo_put FS k hltk] at h; exact h, HKo.out.put _ _⟩
          case measure => simp [intOf]; omega
        · obtain rfl : k = 32 := by omega
          have hO8 : wr.heap[w5.heap.size]? = some (Obj.cells (u8s (out FS)).toArray 47 (0, 0)) := by
            have h := HO.out
            rw [show zeroB (32 - 32) = [] from rfl, List.append_nil] at h
            exact h
          have hR8 := HKo.out.block' HR7.out (by omega) (by omega)
          have hs8 := HKo.out.size
          have hs9 : w.heap.size < wr.heap.size := by have := HB7.out.size; have := HS7.out; omega
          have hs10 : w.heap.size ≤ w7.heap.size := HB7.out.size
          have HO8 := Lib.hid hO8
          have HR8 := Lib.hid hR8
          have HL32 : Hid ((out FS).length = 32) := by show (out FS).length = 32; simp [out]
          clear hO8 hR8
          go_wp2_with (first | (refine wpList_load_row rfl _ _ rfl w5.heap.size rfl 47 (u8s (out FS)).toArray (0, 0) _ HO8.out uA32 rfl (by rw [sA32]; simp [u8s_len, HL32.out]) ?_) | (refine wpList_store_row rfl _ _ _ rfl w.heap.size (u8s (out FS)).toArray rfl rfl _ _ HR8.out (by rw [sA32]; simp [u8s_len, HL32.out]) (by simp [u8s_len, HL32.out, zero32]) (by simp [u8s, u8v, Value.oneCell']) ?_))
          refine bodyPost_ret (results_cell_row rfl _ _ w.heap.size _ (u8s (out FS)).toArray _ _ rfl (setRow_heap wr w.heap.size _ _ _ _ HR8.out) uA32 rfl (by rw [sA32]; simp [u8s_len, HL32.out])) rfl ⟨by rw [HSUM.out], ?_⟩
          exact (HB7.out.trans (HKo.out.below (by omega) (by omega) (by omega))).trans (Kept2.below (a := w.heap.size) (b := w.heap.size) ⟨rfl, rfl, rfl, by simp, fun k _ h1 _ => setRow_other wr w.heap.size k _ h1⟩ (by omega) (Nat.le_refl _) (Nat.le_refl _))
end Go.Proofs.YtalbdcpbdedfiaaDoor
