/- Walks: the first parts taken in. -/
import Derived.Test.YtalbdcpbdedfiaaDoorSd
namespace Go.Proofs.YtalbdcpbdedfiaaDoor
open Go.RowKit
open Sha (W wnth feed feeds)

theorem hash_bool {w : World} {B : Nat} {T : TypeId} (st : List W) (hst : st.length = 8) {bg bg' : Bool} (rest : ByteArray) (n : Nat) (h : w.heap[B]? = some (.cells (hashC st bg rest n).toArray T (0, 0))) :
    (w.setCell ⟨B, 8, none⟩ (.bool bg')).heap[B]? = some (.cells (hashC st bg' rest n).toArray T (0, 0)) := by
  rw [heap_setCell_same _ _ _ _ _ _ h]
  congr 2
  match st, hst with
  | [_, _, _, _, _, _, _, _], _ => rfl
theorem begun_heap {w0 : World} {B : Nat} {T : TypeId} {d0 d1 d2 d3 d4 d5 d6 d7 : W} {rest : ByteArray} {n : Nat} (h : w0.heap[B]? = some (.cells (hashC [d0, d1, d2, d3, d4, d5, d6, d7] false rest n).toArray T (0, 0))) :
    (((((((((w0.setCell ⟨B, 0, none⟩ (.int .u32 1779033703)).setCell ⟨B, 1, none⟩ (.int .u32 3144134277)).setCell ⟨B, 2, none⟩ (.int .u32 1013904242)).setCell ⟨B, 3, none⟩ (.int .u32 2773480762)).setCell ⟨B, 4, none⟩ (.int .u32 1359893119)).setCell ⟨B, 5, none⟩ (.int .u32 2600822924)).setCell ⟨B, 6, none⟩ (.int .u32 528734635)).setCell ⟨B, 7, none⟩ (.int .u32 1541459225)).setCell ⟨B, 8, none⟩ (.bool true)).heap[B]? = some (.cells (hashC begin0 true rest n).toArray T (0, 0)) := by
  have h0 : (w0.setCell ⟨B, 0, none⟩ (.int .u32 1779033703)).heap[B]? = some (.cells (u32s [0x6a09e667, d1, d2, d3, d4, d5, d6, d7] ++ [Value.bool false, Value.string rest, Value.int .u64 (n : Int)]).toArray T (0, 0)) := u32_set [d0, d1, d2, d3, d4, d5, d6, d7] (k := 0) (by simp) _ 0x6a09e667 h
  have h1 : ((w0.setCell ⟨B, 0, none⟩ (.int .u32 1779033703)).setCell ⟨B, 1, none⟩ (.int .u32 3144134277)).heap[B]? = some (.cells (u32s [0x6a09e667, 0xbb67ae85, d2, d3, d4, d5, d6, d7] ++ [Value.bool false, Value.string rest, Value.int .u64 (n : Int)]).toArray T (0, 0)) := u32_set [0x6a09e667, d1, d2, d3, d4, d5, d6, d7] (k := 1) (by simp) _ 0xbb67ae85 h0
  have h2 : (((w0.setCell ⟨B, 0, none⟩ (.int .u32 1779033703)).setCell ⟨B, 1, none⟩ (.int .u32 3144134277)).setCell ⟨B, 2, none⟩ (.int .u32 1013904242)).heap[B]? = some (.cells (u32s [0x6a09e667, 0xbb67ae85, 0x3c6ef372, d3, d4, d5, d6, d7] ++ [Value.bool false, Value.string rest, Value.int .u64 (n : Int)]).toArray T (0, 0)) := u32_set [0x6a09e667, 0xbb67ae85, d2, d3, d4, d5, d6, d7] (k := 2) (by simp) _ 0x3c6ef372 h1
  have h3 : ((((w0.setCell ⟨B, 0, none⟩ (.int .u32 1779033703)).setCell ⟨B, 1, none⟩ (.int .u32 3144134277)).setCell ⟨B, 2, none⟩ (.int .u32 1013904242)).setCell ⟨B, 3, none⟩ (.int .u32 2773480762)).heap[B]? = some (.cells (u32s [0x6a09e667, 0xbb67ae85, 0x3c6ef372, 0xa54ff53a, d4, d5, d6, d7] ++ [Value.bool false, Value.string rest, Value.int .u64 (n : Int)]).toArray T (0, 0)) := u32_set [0x6a09e667, 0xbb67ae85, 0x3c6ef372, d3, d4, d5, d6, d7] (k := 3) (by simp) _ 0xa54ff53a h2
  have h4 : (((((w0.setCell ⟨B, 0, none⟩ (.int .u32 1779033703)).setCell ⟨B, 1, none⟩ (.int .u32 3144134277)).setCell ⟨B, 2, none⟩ (.int .u32 1013904242)).setCell ⟨B, 3, none⟩ (.int .u32 2773480762)).setCell ⟨B, 4, none⟩ (.int .u32 1359893119)).heap[B]? = some (.cells (u32s [0x6a09e667, 0xbb67ae85, 0x3c6ef372, 0xa54ff53a, 0x510e527f, d5, d6, d7] ++ [Value.bool false, Value.string rest, Value.int .u64 (n : Int)]).toArray T (0, 0)) := u32_set [0x6a09e667, 0xbb67ae85, 0x3c6ef372, 0xa54ff53a, d4, d5, d6, d7] (k := 4) (by simp) _ 0x510e527f h3
  have h5 : ((((((w0.setCell ⟨B, 0, none⟩ (.int .u32 1779033703)).setCell ⟨B, 1, none⟩ (.int .u32 3144134277)).setCell ⟨B, 2, none⟩ (.int .u32 1013904242)).setCell ⟨B, 3, none⟩ (.int .u32 2773480762)).setCell ⟨B, 4, none⟩ (.int .u32 1359893119)).setCell ⟨B, 5, none⟩ (.int .u32 2600822924)).heap[B]? = some (.cells (u32s [0x6a09e667, 0xbb67ae85, 0x3c6ef372, 0xa54ff53a, 0x510e527f, 0x9b05688c, d6, d7] ++ [Value.bool false, Value.string rest, Value.int .u64 (n : Int)]).toArray T (0, 0)) := u32_set [0x6a09e667, 0xbb67ae85, 0x3c6ef372, 0xa54ff53a, 0x510e527f, d5, d6, d7] (k := 5) (by simp) _ 0x9b05688c h4
  have h6 : (((((((w0.setCell ⟨B, 0, none⟩ (.int .u32 1779033703)).setCell ⟨B, 1, none⟩ (.int .u32 3144134277)).setCell ⟨B, 2, none⟩ (.int .u32 1013904242)).setCell ⟨B, 3, none⟩ (.int .u32 2773480762)).setCell ⟨B, 4, none⟩ (.int .u32 1359893119)).setCell ⟨B, 5, none⟩ (.int .u32 2600822924)).setCell ⟨B, 6, none⟩ (.int .u32 528734635)).heap[B]? = some (.cells (u32s [0x6a09e667, 0xbb67ae85, 0x3c6ef372, 0xa54ff53a, 0x510e527f, 0x9b05688c, 0x1f83d9ab, d7] ++ [Value.bool false, Value.string rest, Value.int .u64 (n : Int)]).toArray T (0, 0)) := u32_set [0x6a09e667, 0xbb67ae85, 0x3c6ef372, 0xa54ff53a, 0x510e527f, 0x9b05688c, d6, d7] (k := 6) (by simp) _ 0x1f83d9ab h5
  have h7 : ((((((((w0.setCell ⟨B, 0, none⟩ (.int .u32 1779033703)).setCell ⟨B, 1, none⟩ (.int .u32 3144134277)).setCell ⟨B, 2, none⟩ (.int .u32 1013904242)).setCell ⟨B, 3, none⟩ (.int .u32 2773480762)).setCell ⟨B, 4, none⟩ (.int .u32 1359893119)).setCell ⟨B, 5, none⟩ (.int .u32 2600822924)).setCell ⟨B, 6, none⟩ (.int .u32 528734635)).setCell ⟨B, 7, none⟩ (.int .u32 1541459225)).heap[B]? = some (.cells (u32s [0x6a09e667, 0xbb67ae85, 0x3c6ef372, 0xa54ff53a, 0x510e527f, 0x9b05688c, 0x1f83d9ab, 0x5be0cd19] ++ [Value.bool false, Value.string rest, Value.int .u64 (n : Int)]).toArray T (0, 0)) := u32_set [0x6a09e667, 0xbb67ae85, 0x3c6ef372, 0xa54ff53a, 0x510e527f, 0x9b05688c, 0x1f83d9ab, d7] (k := 7) (by simp) _ 0x5be0cd19 h6
  exact hash_bool begin0 rfl rest n h7
theorem begun_kept {w w0 : World} {B : Nat} (h : Kept2 B B w w0) : Kept2 B B w (((((((((w0.setCell ⟨B, 0, none⟩ (.int .u32 1779033703)).setCell ⟨B, 1, none⟩ (.int .u32 3144134277)).setCell ⟨B, 2, none⟩ (.int .u32 1013904242)).setCell ⟨B, 3, none⟩ (.int .u32 2773480762)).setCell ⟨B, 4, none⟩ (.int .u32 1359893119)).setCell ⟨B, 5, none⟩ (.int .u32 2600822924)).setCell ⟨B, 6, none⟩ (.int .u32 528734635)).setCell ⟨B, 7, none⟩ (.int .u32 1541459225)).setCell ⟨B, 8, none⟩ (.bool true)) := ((((((((h.put _ _).put _ _).put _ _).put _ _).put _ _).put _ _).put _ _).put _ _).put _ _
theorem WrFin.on {B : Nat} {st : List W} {rest : ByteArray} {n : Nat} {T : TypeId} {p : ByteArray} {w V w' : World} (h : WrFin B st rest n T p V w') (hk : Kept2 B B w V) : WrFin B st rest n T p w w' := by
  obtain ⟨q, h1, h2, h3⟩ := h
  exact ⟨q, h1, h2, hk.trans h3⟩
set_option maxRecDepth 100000 in
set_option maxHeartbeats 4000000 in
theorem Write_new (B : Nat) (st : List W) (hst : st.length = 8) (rest : ByteArray) (n : Nat) (T : TypeId) (Pb : Nat) (p : ByteArray) (w : World) (hG : ∀ j, j < 64 → w.cell? ⟨0, j, none⟩ = some (uw (wnth kTab j))) (hB0 : B ≠ 0)
    (hB : w.heap[B]? = some (.cells (hashC st false rest n).toArray T (0, 0))) (hP : w.cell? ⟨Pb, 0, none⟩ = some (.string p)) (hn : n + p.size < 4611686018427387904) (hr : rest.size < 64) :
    Calls Tryd.prog 34 #[.pointer (some ⟨B, 0, none⟩), .slice (some ⟨Pb, 0, none⟩) 1 1] w fun e w' => e = .returned (.tuple #[]) ∧ WrFin B begin0 rest n T p w w' := by
  have hl8 : (u32s st).length = 8 := by rw [u32s_len]; exact hst
  obtain ⟨d0, d1, d2, d3, d4, d5, d6, d7, rfl⟩ := len8 hst
  have k0 : w.cell? ⟨B, 0, none⟩ = some (uw d0) := by rw [cell_of_row _ _ _ _ _ _ hB]; rfl
  have k1 : w.cell? ⟨B, 1, none⟩ = some (uw d1) := by rw [cell_of_row _ _ _ _ _ _ hB]; rfl
  have k2 : w.cell? ⟨B, 2, none⟩ = some (uw d2) := by rw [cell_of_row _ _ _ _ _ _ hB]; rfl
  have k3 : w.cell? ⟨B, 3, none⟩ = some (uw d3) := by rw [cell_of_row _ _ _ _ _ _ hB]; rfl
  have k4 : w.cell? ⟨B, 4, none⟩ = some (uw d4) := by rw [cell_of_row _ _ _ _ _ _ hB]; rfl
  have k5 : w.cell? ⟨B, 5, none⟩ = some (uw d5) := by rw [cell_of_row _ _ _ _ _ _ hB]; rfl
  have k6 : w.cell? ⟨B, 6, none⟩ = some (uw d6) := by rw [cell_of_row _ _ _ _ _ _ hB]; rfl
  have k7 : w.cell? ⟨B, 7, none⟩ = some (uw d7) := by rw [cell_of_row _ _ _ _ _ _ hB]; rfl
  have k8 : w.cell? ⟨B, 8, none⟩ = some (.bool false) := by rw [cell_of_row _ _ _ _ _ _ hB]; rfl
  have HB := Lib.hid hB
  have HG := Lib.hid hG
  have HST := Lib.hid hst
  have HL8 := Lib.hid hl8
  clear hB hG hst hl8
  have hn2 : n < 4611686018427387904 := by omega
  have hp2 : p.size < 4611686018427387904 := by omega
  go_enter Tryd.func34, Tryd.ntmps34
  go_wp2_with (go_at_call 48; refine (Begin8 _).mono ?_; rintro e w0 ⟨rfl, hb0⟩; have j0 := hb0.cell' k0; have j1 := hb0.cell' k1; have j2 := hb0.cell' k2; have j3 := hb0.cell' k3; have j4 := hb0.cell' k4; have j5 := hb0.cell' k5; have j6 := hb0.cell' k6; have j7 := hb0.cell' k7; have j8 := hb0.cell' k8; have hBf : ∀ j, w0.frozen? ⟨B, j, none⟩ = false := fun j => by simp [World.frozen?, hb0.block' HB.out])
  have hPB : Pb ≠ B := by
    rintro rfl
    rw [hP] at k0
    cases k0
  have hBV := begun_heap (hb0.block' HB.out)
  have hKV := begun_kept (B := B) (Kept2.of_below hb0.bel)
  clear j0 j1 j2 j3 j4 j5 j6 j7 j8 k0 k1 k2 k3 k4 k5 k6 k7 k8 hBf
  generalize hV : (((((((((w0.setCell ⟨B, 0, none⟩ (.int .u32 1779033703)).setCell ⟨B, 1, none⟩ (.int .u32 3144134277)).setCell ⟨B, 2, none⟩ (.int .u32 1013904242)).setCell ⟨B, 3, none⟩ (.int .u32 2773480762)).setCell ⟨B, 4, none⟩ (.int .u32 1359893119)).setCell ⟨B, 5, none⟩ (.int .u32 2600822924)).setCell ⟨B, 6, none⟩ (.int .u32 528734635)).setCell ⟨B, 7, none⟩ (.int .u32 1541459225)).setCell ⟨B, 8, none⟩ (.bool true)) = V at *
  clear hV
  have hP1 : V.cell? ⟨Pb, 0, none⟩ = some (.string p) := by
    have hb := hKV.block Pb (World.block_lt_of_cell? w _ hP) hPB hPB
    rw [← hP]
    simp [World.cell?, hb]
  have HG1 : Hid (∀ j, j < 64 → V.cell? ⟨0, j, none⟩ = some (uw (wnth kTab j))) := fun j hj => by
    have h0 := HG.out j hj
    have hb := hKV.block 0 (World.block_lt_of_cell? w _ h0) (fun e => hB0 e.symm) (fun e => hB0 e.symm)
    rw [← h0]
    simp [World.cell?, hb]
  have HKV := Lib.hid hKV
  clear hKV hP HB HG hPB
  have HB := Lib.hid hBV
  have HG := HG1
  have hP := hP1
  clear hBV HG1 hP1
  have hst8 : (begin0 : List W).length = 8 := rfl
  have hl8 : (u32s begin0).length = 8 := rfl
  generalize hbg : begin0 = st at *
  have HBG := Lib.hid hbg
  have HST := Lib.hid hst8
  have HL8 := Lib.hid hl8
  have c9 : V.cell? ⟨B, 9, none⟩ = some (.string rest) := by
    rw [cell_of_row _ _ _ _ _ _ HB.out, List.getElem?_toArray, hashC, List.getElem?_append_right (by omega), hl8]; rfl
  have c10 : V.cell? ⟨B, 10, none⟩ = some (.int .u64 n) := by
    rw [cell_of_row _ _ _ _ _ _ HB.out, List.getElem?_toArray, hashC, List.getElem?_append_right (by omega), hl8]; rfl
  have f9 : V.frozen? ⟨B, 9, none⟩ = false := by simp [World.frozen?, HB.out]
  have f10 : V.frozen? ⟨B, 10, none⟩ = false := by simp [World.frozen?, HB.out]
  have HSZ : Hid (∀ V' : World, Kept2 B B V V' → ∀ j, j < 64 → V'.cell? ⟨0, j, none⟩ = some (uw (wnth kTab j))) := fun V' hV j hj => by
    have h0 := HG.out j hj
    have hb := hV.block 0 (World.block_lt_of_cell? V _ h0) (fun e => hB0 e.symm) (fun e => hB0 e.symm)
    rw [← h0]
    simp [World.cell?, hb]
  have HB0 := Lib.hid hB0
  clear hB0 hbg hst8 hl8
  go_loopw [22] (WrRel (WrFin B st rest n T p V) V) (fun i _ => 1 - (intOf i).toNat)
  case atStart => exact .inl ⟨rfl, rfl⟩
  case round =>
    rcases hrel with ⟨rfl, hw⟩ | ⟨rfl, hF⟩
    · subst hw
      go_wp2
      have hsum : ((n : Int) + (p.size : Int)) = ((n + p.size : Nat) : Int) := by omega
      rw [hsum]
      clear hsum
      have HB1 : Hid ((wr.setCell ⟨B, 10, none⟩ (.int .u64 ((n + p.size : Nat) : Int))).heap[B]? = some (.cells (hashC (feeds kTab st (bytesOf rest ++ bytesOf p) 0) true rest (n + p.size)).toArray T (0, 0))) := hash_size st HST.out rest n (n + p.size) HB.out
      have HK1 : Hid (Kept2 B B wr (wr.setCell ⟨B, 10, none⟩ (.int .u64 ((n + p.size : Nat) : Int)))) := (Kept2.refl _ _ _).put _ _
      have HPL : Hid (bytesOf (rest ++ p) = (bytesOf rest ++ bytesOf p).drop (64 * 0)) := bytesOf_append rest p
      have HLN : Hid ((bytesOf rest ++ bytesOf p).length = rest.size + p.size) := by show List.length _ = _; rw [List.length_append, bytesOf_len, bytesOf_len]
      generalize wr.setCell ⟨B, 10, none⟩ (.int .u64 ((n + p.size : Nat) : Int)) = w1 at *
      generalize rest ++ p = q0 at *
      generalize hL : bytesOf rest ++ bytesOf p = L at *
      have HLE := Lib.hid hL
      clear hL
      clear c9 c10 f9 f10
      go_loopw [5] (fun x wi => ∃ (j : Nat) (q : ByteArray), 64 * j ≤ rest.size + p.size ∧ x = .string q ∧ bytesOf q = L.drop (64 * j) ∧ wi.heap[B]? = some (.cells (hashC (feeds kTab st L j) true rest (n + p.size)).toArray T (0, 0)) ∧ Kept2 B B w1 wi) (fun x _ => strLen x)
      case atStart => exact ⟨0, q0, by omega, rfl, HPL.out, HB1.out, Kept2.refl _ _ _⟩
      case round =>
        obtain ⟨j, q, hj, rfl, hq, hS, hK⟩ := hrel
        have HS := Lib.hid hS
        have HK := Lib.hid hK
        have HQ := Lib.hid hq
        have hql : q.size = rest.size + p.size - 64 * j := by rw [← bytesOf_len q, hq, List.length_drop, HLN.out]
        have HQL := Lib.hid hql
        have h1 : q.size ≤ rest.size + p.size := by omega
        have h2 : 64 ≤ q.size → 64 * (j + 1) ≤ rest.size + p.size := by omega
        have h3 : q.size < 64 → j = (rest.size + p.size) / 64 := by omega
        have H2 := Lib.hid h2
        have H3 := Lib.hid h3
        clear hS hK hq hql h2 h3
        have HF8 := Lib.hid (Sha.feeds_len kTab st L HST.out j)
        by_cases h64 : 64 ≤ q.size
        · have HK2 := Lib.hid (HK1.out.trans HK.out)
          have hx : bytesOf (q.extract 0 64) = (L.drop (64 * j)).take 64 := by rw [bytesOf_extract, List.drop_zero, HQ.out]
          have hy : bytesOf (q.extract 64 q.size) = L.drop (64 * (j + 1)) := by
            rw [bytesOf_extract, List.take_of_length_le (by rw [bytesOf_len]; exact Nat.le_refl _), HQ.out, List.drop_drop]
            congr 1
          have hz : (q.extract 0 64).size = 64 := by rw [ByteArray.size_extract]; omega
          have HX := Lib.hid hx
          have HY := Lib.hid hy
          have HZ := Lib.hid hz
          clear hx hy hz
          have HFX : Hid (feeds kTab st L (j + 1) = feed kTab (feeds kTab st L j) ((L.drop (64 * j)).take 64)) := rfl
          go_wp2
          go_region_with (go_at_call 49; refine (Feed_any B (feeds kTab st L j) HF8.out _ T (q.extract 0 64) HZ.out kTab rfl _ (HSZ.out _ HK2.out.drew) HB0.out HS.out).mono ?_; rintro e w2 ⟨rfl, hS2, hK2⟩; have HS2 := Lib.hid hS2; have HK2b := Lib.hid hK2; clear hS2 hK2)
          all_goals
            go_wp2
            go_roundw
            case rel =>
              (repeat apply Exists.intro)
              exact ⟨⟨j + 1, q.extract 64 q.size, H2.out h64, rfl, HY.out, by rw [HFX.out, ← HX.out]; exact HS2.out, HK.out.drew.trans HK2b.out⟩, rfl⟩
            case measure =>
              show strLen (.string (q.extract 64 q.size)) < strLen (.string q)
              simp only [strLen, ByteArray.size_extract]
              omega
        · have HJ := Lib.hid (H3.out (by omega))
          have hc9 := hash_cell9 _ HF8.out rest (n + p.size) HS.out
          obtain ⟨c9, f9⟩ := hc9
          go_wp2
          exact ⟨.inr ⟨rfl, q, by rw [HQ.out, HLE.out, HJ.out], by rw [HLE.out, ← HJ.out]; exact hash_rest _ HF8.out rest q _ HS.out, HK1.out.trans (HK.out.put _ _)⟩, by decide⟩
    · go_wp2
      go_end0
      exact ⟨rfl, by rw [HBG.out]; exact hF.on HKV.out⟩
end Go.Proofs.YtalbdcpbdedfiaaDoor
