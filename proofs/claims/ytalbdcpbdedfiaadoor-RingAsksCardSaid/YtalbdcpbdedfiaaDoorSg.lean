/- Walks: a text's sum, a key's partition. -/
import Derived.Test.YtalbdcpbdedfiaaDoorSf
namespace Go.Proofs.YtalbdcpbdedfiaaDoor
open Go.RowKit
open Sha (W wnth feed feeds pad out outB)

/-- a text's sum -/
def sumOf (s : ByteArray) : List UInt8 := Sha.sum kTab begin0 (bytesOf s)
theorem sumOf_len (s : ByteArray) : (sumOf s).length = 32 := by simp [sumOf, Sha.sum, Sha.out]
theorem sum_two (key q : ByteArray) (h : bytesOf q = (bytesOf ⟨#[]⟩ ++ bytesOf key).drop (64 * (((⟨#[]⟩ : ByteArray).size + key.size) / 64))) :
    out (feeds kTab (feeds kTab begin0 (bytesOf ⟨#[]⟩ ++ bytesOf key) (((⟨#[]⟩ : ByteArray).size + key.size) / 64)) (bytesOf q ++ pad (0 + key.size)) ((q.size + (pad (0 + key.size)).length) / 64)) = sumOf key := by
  have e0 : bytesOf ⟨#[]⟩ ++ bytesOf key = bytesOf key := rfl
  have e1 : (⟨#[]⟩ : ByteArray).size + key.size = (bytesOf key).length := by rw [bytesOf_len]; exact Nat.zero_add _
  have e2 : 0 + key.size = (bytesOf key).length := by rw [bytesOf_len]; exact Nat.zero_add _
  have e3 : q.size = (bytesOf key).length - 64 * ((bytesOf key).length / 64) := by
    rw [← bytesOf_len q, h, e0, e1, List.length_drop]
  rw [e0, e1] at h
  rw [e0, e1, e2, e3, h]
  unfold sumOf Sha.sum
  rw [Sha.sum_split]

set_option maxRecDepth 100000 in
set_option maxHeartbeats 2000000 in
theorem Sum_any (Pb : Nat) (key : ByteArray) (w : World) (hG : ∀ j, j < 64 → w.cell? ⟨0, j, none⟩ = some (uw (wnth kTab j))) (hP : w.cell? ⟨Pb, 0, none⟩ = some (.string key)) (hk : key.size < 1152921504606846976) :
    Calls Tryd.prog 23 #[.slice (some ⟨Pb, 0, none⟩) 1 1] w fun e w' => e = .returned (.agg (u8s (sumOf key)).toArray) ∧ Below w.heap.size w w' := by
  have hPlt := World.block_lt_of_cell? w _ hP
  have h0lt := World.block_lt_of_cell? w _ (hG 0 (by decide))
  have HG := Lib.hid hG
  have HP := Lib.hid hP
  clear hG hP
  go_enter Tryd.func23, Tryd.ntmps23
  go_wp2_with fail
  have hR1 : ((w.alloc (Obj.cells (u8s zero32).toArray 47)).alloc (Obj.cells (hashC [0, 0, 0, 0, 0, 0, 0, 0] false ⟨#[]⟩ 0).toArray 67)).heap[w.heap.size]? = some (Obj.cells (u8s zero32).toArray 47 (0, 0)) := heap_alloc2_old w _ _
  have hC1 : ((w.alloc (Obj.cells (u8s zero32).toArray 47)).alloc (Obj.cells (hashC [0, 0, 0, 0, 0, 0, 0, 0] false ⟨#[]⟩ 0).toArray 67)).heap[w.heap.size + 1]? = some (Obj.cells (hashC [0, 0, 0, 0, 0, 0, 0, 0] false ⟨#[]⟩ 0).toArray 67 (0, 0)) := heap_alloc2_new w _ _
  have hb1 : Below w.heap.size w ((w.alloc (Obj.cells (u8s zero32).toArray 47)).alloc (Obj.cells (hashC [0, 0, 0, 0, 0, 0, 0, 0] false ⟨#[]⟩ 0).toArray 67)) := ((Below.refl _ _).alloc (Nat.le_refl _) _).alloc (by simp) _
  have hs1 : ((w.alloc (Obj.cells (u8s zero32).toArray 47)).alloc (Obj.cells (hashC [0, 0, 0, 0, 0, 0, 0, 0] false ⟨#[]⟩ 0).toArray 67)).heap.size = w.heap.size + 2 := by simp
  change Calls _ _ _ ((w.alloc (Obj.cells (u8s zero32).toArray 47)).alloc (Obj.cells (hashC [0, 0, 0, 0, 0, 0, 0, 0] false ⟨#[]⟩ 0).toArray 67)) _
  generalize (w.alloc (Obj.cells (u8s zero32).toArray 47)).alloc (Obj.cells (hashC [0, 0, 0, 0, 0, 0, 0, 0] false ⟨#[]⟩ 0).toArray 67) = w1 at *
  refine (Write_new (w.heap.size + 1) [0, 0, 0, 0, 0, 0, 0, 0] rfl ⟨#[]⟩ 0 67 Pb key w1 (fun j hj => (hb1.cell h0lt).trans (HG.out j hj)) (by omega) hC1 ((hb1.cell hPlt).trans HP.out) (by omega) (by decide)).mono ?_
  rintro e w2 ⟨rfl, hW⟩
  obtain ⟨q, hq, hC2, hK2⟩ := hW
  have hsz2 := hK2.size
  have hb2 : Below w.heap.size w w2 := hb1.trans (hK2.below (by omega) (by omega) (by omega))
  have HQ := Lib.hid hq
  have hql : q.size = (0 + key.size) % 64 := by
    rw [← bytesOf_len q, hq, List.length_drop, List.length_append, bytesOf_len, bytesOf_len]
    show 0 + key.size - 64 * ((0 + key.size) / 64) = _
    omega
  have HQL := Lib.hid hql
  have HR2 := Lib.hid (hK2.block' hR1 (by omega) (by omega))
  have HC2 := Lib.hid hC2
  have HB2 := Lib.hid hb2
  clear hq hql hC2 hR1 hC1 hb1 hK2
  go_wp2_with fail
  refine (HSum_any (w.heap.size + 1) _ (Sha.feeds_len kTab begin0 _ rfl _) q (0 + key.size) 67 w2 (fun j hj => (HB2.out.cell h0lt).trans (HG.out j hj)) (by omega) HC2.out (by omega) HQL.out).mono ?_
  rintro e w3 ⟨rfl, hb3⟩
  rw [sum_two key q HQ.out]
  have HR3 := Lib.hid (hb3.block' HR2.out (by omega))
  have HL := Lib.hid (sumOf_len key)
  have hs3 := hb3.size
  go_wp2_with (refine wpList_store_row rfl _ _ _ rfl w.heap.size (u8s (sumOf key)).toArray rfl rfl _ _ HR3.out (by rw [sA32]; simp [u8s_len, HL.out]) (by simp [u8s_len, HL.out, zero32]) (by simp [u8s, u8v, Value.oneCell']) ?_)
  refine bodyPost_ret (results_cell_row rfl _ _ w.heap.size _ (u8s (sumOf key)).toArray _ _ rfl (setRow_heap w3 w.heap.size _ _ _ _ HR3.out) uA32 rfl (by rw [sA32]; simp [u8s_len, HL.out])) rfl ⟨rfl, ?_⟩
  exact (HB2.out.trans (hb3.mono HB2.out.size)).trans (Kept2.below (a := w.heap.size) (b := w.heap.size) ⟨rfl, rfl, rfl, by simp, fun k _ h1 _ => setRow_other w3 w.heap.size k _ h1⟩ (by have := HB2.out.size; omega) (Nat.le_refl _) (Nat.le_refl _))

/-- a key's partition -/
def partOf (key : ByteArray) : Int := (((sumOf key).getD 1 0).toNat : Int) % 8
set_option maxRecDepth 100000 in
theorem Partition_any (key : ByteArray) (w : World) (hG : ∀ j, j < 64 → w.cell? ⟨0, j, none⟩ = some (uw (wnth kTab j))) (hk : key.size < 1152921504606846976) :
    Calls Tryd.prog 12 #[.string key] w fun e w' => e = .returned (.int .i64 (partOf key)) ∧ Below w.heap.size w w' := by
  have h0lt := World.block_lt_of_cell? w _ (hG 0 (by decide))
  obtain ⟨b, hb⟩ : ∃ b, (sumOf key).getD 1 0 = b := ⟨_, rfl⟩
  have hix : ∀ W : World, (Instr.index 47 (.agg (u8s (sumOf key)).toArray) (.int .i64 1)).run Tryd.prog W = .ok (.int .u8 (b.toNat : Int)) W := fun W => by
    have hg := u8s_get (sumOf key) 1 (by rw [sumOf_len]; decide)
    rw [hb] at hg
    have hsz : ∀ w, (sizeOf 5).run Tryd.prog w = .ok 1 w := run_sizeOf (by kernel_rfl)
    have hag : ∀ w, (isAgg 5).run Tryd.prog w = .ok false w := by
      intro w; unfold isAgg; rw [Sem.run_bind, run_underlying uU8 w]; rfl
    simp [Instr.index, run_underlying uA32, asIntOf, part, hsz, hag, hg]
    rfl
  have HPV : Hid (partOf key = (b.toNat : Int) % 8) := by show partOf key = _; rw [partOf, hb]
  have hb256 := b.toNat_lt
  clear hb
  have HG := Lib.hid hG
  clear hG
  go_enter Tryd.func12, Tryd.ntmps12
  go_wp2_with fail
  have hb0 : Below w.heap.size w (w.alloc (Obj.cells #[Value.string key] 9)) := (Below.refl _ _).alloc (Nat.le_refl _) _
  have hP0 : (w.alloc (Obj.cells #[Value.string key] 9)).cell? ⟨w.heap.size, 0, none⟩ = some (.string key) := by rw [cell_of_row _ _ _ _ _ _ (heap_alloc_new w _)]; rfl
  change Calls _ _ _ (w.alloc (Obj.cells #[Value.string key] 9)) _
  generalize w.alloc (Obj.cells #[Value.string key] 9) = w0 at *
  refine (Sum_any w.heap.size key w0 (fun j hj => (hb0.cell h0lt).trans (HG.out j hj)) hP0 hk).mono ?_
  rintro e w1 ⟨rfl, hb1⟩
  go_wp2
  go_ret
  exact ⟨by rw [HPV.out]; rfl, hb0.trans (hb1.mono hb0.size)⟩
end Go.Proofs.YtalbdcpbdedfiaaDoor
