/- Walks: parts taken in. -/
import Derived.Test.YtalbdcpbdedfiaaDoorSb
import Derived.Test.YtalbdcpbdedfiaaDoorSc
import Derived.Outline
namespace Go.Proofs.YtalbdcpbdedfiaaDoor
open Go.RowKit
open Sha (W wnth feed feeds)

/-- a sum on the way, as cells -/
def hashC (st : List W) (bg : Bool) (rest : ByteArray) (n : Nat) : List Value := u32s st ++ [.bool bg, .string rest, .int .u64 n]
theorem bytesOf_append (a b : ByteArray) : bytesOf (a ++ b) = bytesOf a ++ bytesOf b := by simp [bytesOf]
theorem bytesOf_len (a : ByteArray) : (bytesOf a).length = a.size := by simp [bytesOf]
theorem bytesOf_extract (a : ByteArray) (i j : Nat) : bytesOf (a.extract i j) = ((bytesOf a).take j).drop i := by
  unfold bytesOf
  rw [ByteArray.data_extract]
  simp only [Array.toList_extract, List.take_drop]
  by_cases h : i ≤ j
  · rw [show i + (j - i) = j by omega]
  · rw [List.drop_eq_nil_of_le (by rw [List.length_take]; omega), List.drop_eq_nil_of_le (by rw [List.length_take]; omega)]
def strLen : Value → Nat
  | .string s => s.size
  | _ => 0
theorem hash_len (st : List W) (hst : st.length = 8) (bg : Bool) (rest : ByteArray) (n : Nat) : (hashC st bg rest n).length = 11 := by
  rw [hashC, List.length_append, u32s_len, hst]; rfl
theorem hash_size {w : World} {B : Nat} {T : TypeId} (st : List W) (hst : st.length = 8) {bg : Bool} (rest : ByteArray) (n m : Nat) (h : w.heap[B]? = some (.cells (hashC st bg rest n).toArray T (0, 0))) :
    (w.setCell ⟨B, 10, none⟩ (.int .u64 (m : Int))).heap[B]? = some (.cells (hashC st bg rest m).toArray T (0, 0)) := by
  rw [heap_setCell_same _ _ _ _ _ _ h]
  congr 2
  match st, hst with
  | [_, _, _, _, _, _, _, _], _ => rfl
theorem hash_rest {w : World} {B : Nat} {T : TypeId} (st : List W) (hst : st.length = 8) {bg : Bool} (rest q : ByteArray) (n : Nat) (h : w.heap[B]? = some (.cells (hashC st bg rest n).toArray T (0, 0))) :
    (w.setCell ⟨B, 9, none⟩ (.string q)).heap[B]? = some (.cells (hashC st bg q n).toArray T (0, 0)) := by
  rw [heap_setCell_same _ _ _ _ _ _ h]
  congr 2
  match st, hst with
  | [_, _, _, _, _, _, _, _], _ => rfl
theorem hash_cell9 {w : World} {B : Nat} {T : TypeId} (st : List W) (hst : st.length = 8) {bg : Bool} (rest : ByteArray) (n : Nat) (h : w.heap[B]? = some (.cells (hashC st bg rest n).toArray T (0, 0))) : w.cell? ⟨B, 9, none⟩ = some (.string rest) ∧ w.frozen? ⟨B, 9, none⟩ = false := by
  refine ⟨?_, by simp [World.frozen?, h]⟩
  rw [cell_of_row _ _ _ _ _ _ h]
  match st, hst with
  | [_, _, _, _, _, _, _, _], _ => rfl
def WrFin (B : Nat) (st : List W) (rest : ByteArray) (n : Nat) (T : TypeId) (p : ByteArray) (w w' : World) : Prop :=
  ∃ q : ByteArray, bytesOf q = (bytesOf rest ++ bytesOf p).drop (64 * ((rest.size + p.size) / 64)) ∧
    w'.heap[B]? = some (.cells (hashC (feeds kTab st (bytesOf rest ++ bytesOf p) ((rest.size + p.size) / 64)) true q (n + p.size)).toArray T (0, 0)) ∧ Kept2 B B w w'
def WrRel (F : World → Prop) (w : World) (i : Value) (wr : World) : Prop := (i = .int .i64 0 ∧ wr = w) ∨ (i = .int .i64 1 ∧ F wr)
set_option maxRecDepth 100000 in
set_option maxHeartbeats 4000000 in
theorem Write_on (B : Nat) (st : List W) (hst : st.length = 8) (rest : ByteArray) (n : Nat) (T : TypeId) (Pb : Nat) (p : ByteArray) (w : World) (hG : ∀ j, j < 64 → w.cell? ⟨0, j, none⟩ = some (uw (wnth kTab j))) (hB0 : B ≠ 0)
    (hB : w.heap[B]? = some (.cells (hashC st true rest n).toArray T (0, 0))) (hP : w.cell? ⟨Pb, 0, none⟩ = some (.string p)) (hn : n + p.size < 4611686018427387904) (hr : rest.size < 64) :
    Calls Tryd.prog 34 #[.pointer (some ⟨B, 0, none⟩), .slice (some ⟨Pb, 0, none⟩) 1 1] w fun e w' => e = .returned (.tuple #[]) ∧ WrFin B st rest n T p w w' := by
  have hl8 : (u32s st).length = 8 := by rw [u32s_len]; exact hst
  have c8 : w.cell? ⟨B, 8, none⟩ = some (.bool true) := by
    rw [cell_of_row _ _ _ _ _ _ hB, List.getElem?_toArray, hashC, List.getElem?_append_right (by omega), hl8]; rfl
  have c9 : w.cell? ⟨B, 9, none⟩ = some (.string rest) := by
    rw [cell_of_row _ _ _ _ _ _ hB, List.getElem?_toArray, hashC, List.getElem?_append_right (by omega), hl8]; rfl
  have c10 : w.cell? ⟨B, 10, none⟩ = some (.int .u64 n) := by
    rw [cell_of_row _ _ _ _ _ _ hB, List.getElem?_toArray, hashC, List.getElem?_append_right (by omega), hl8]; rfl
  have f9 : w.frozen? ⟨B, 9, none⟩ = false := by simp [World.frozen?, hB]
  have f10 : w.frozen? ⟨B, 10, none⟩ = false := by simp [World.frozen?, hB]
  have HB := Lib.hid hB
  have HG := Lib.hid hG
  have HST := Lib.hid hst
  have HL8 := Lib.hid hl8
  clear hB hG hst hl8
  have hn2 : n < 4611686018427387904 := by omega
  have hp2 : p.size < 4611686018427387904 := by omega
  have HSZ : Hid (∀ V : World, Kept2 B B w V → ∀ j, j < 64 → V.cell? ⟨0, j, none⟩ = some (uw (wnth kTab j))) := fun V hV j hj => by
    have h0 := HG.out j hj
    have hb := hV.block 0 (World.block_lt_of_cell? w _ h0) (fun e => hB0 e.symm) (fun e => hB0 e.symm)
    rw [← h0]
    simp [World.cell?, hb]
  have HB0 := Lib.hid hB0
  clear hB0
  go_enter Tryd.func34, Tryd.ntmps34
  go_wp2
  go_loopw [22] (WrRel (WrFin B st rest n T p w) w) (fun i _ => 1 - (intOf i).toNat)
  case atStart => exact .inl ⟨rfl, rfl⟩
  case round =>
    rcases hrel with ⟨rfl, hw⟩ | ⟨rfl, hF⟩
    · subst hw
      go_wp2
      have hsum : ((n : Int) + (p.size : Int)) = ((n + p.size : Nat) : Int) := by omega
      rw [hsum]
      clear hsum
      have HB1 : Hid ((wr.setCell ⟨B, 10, none⟩ (.int .u64 ((n + p.size : Nat) : Int))).heap[B]? = some (.cells (hashC (feeds kTab st (bytesOf rest ++ bytesOf p) 0) true rest (n + p.size)).toArray T (0, 0))) := hash_size st HST.out rest n (n + p.size) HB.out
      have HK1 : Hid (Kept2 B B wr (wr.setCell ⟨B, 10, none⟩ (.int .u64 ((n + p.size : Nat) : Int)))) := (Kept2.refl _ _ _).put _ _
      have HPL : Hid (bytesOf (rest ++ p) = (bytesOf rest ++ bytesOf p).drop (64 * 0)) := bytesOf_append rest p
      have HLN : Hid ((bytesOf rest ++ bytesOf p).length = rest.size + p.size) := by show List.length _ = _; rw [List.length_append, bytesOf_len, bytesOf_len]
      generalize wr.setCell ⟨B, 10, none⟩ (.int .u64 ((n + p.size : Nat) : Int)) = w1 at *
      generalize rest ++ p = q0 at *
      generalize hL : bytesOf rest ++ bytesOf p = L at *
      have HLE := Lib.hid hL
      clear hL
      clear c8 c9 c10 f9 f10
      go_loopw [5] (fun x wi => ∃ (j : Nat) (q : ByteArray), 64 * j ≤ rest.size + p.size ∧ x = .string q ∧ bytesOf q = L.drop (64 * j) ∧ wi.heap[B]? = some (.cells (hashC (feeds kTab st L j) true rest (n + p.size)).toArray T (0, 0)) ∧ Kept2 B B w1 wi) (fun x _ => strLen x)
      case atStart => exact ⟨0, q0, by omega, rfl, HPL.out, HB1.out, Kept2.refl _ _ _⟩
      case round =>
        obtain ⟨j, q, hj, rfl, hq, hS, hK⟩ := hrel
        have HS := Lib.hid hS
        have HK := Lib.hid hK
        have HQ := Lib.hid hq
        have hql : q.size = rest.size + p.size - 64 * j := by rw [← bytesOf_len q, hq, List.length_drop, HLN.out]
        have HQL := Lib.hid hql
        have h1 : q.size ≤ rest.size + p.size := by omega
        have h2 : 64 ≤ q.size → 64 * (j + 1) ≤ rest.size + p.size := by omega
        have h3 : q.size < 64 → j = (rest.size + p.size) / 64 := by omega
        have H2 := Lib.hid h2
        have H3 := Lib.hid h3
        clear hS hK hq hql h2 h3
        have HF8 := Lib.hid (Sha.feeds_len kTab st L HST.out j)
        by_cases h64 : 64 ≤ q.size
        · have HK2 := Lib.hid (HK1.out.trans HK.out)
          have hx : bytesOf (q.extract 0 64) = (L.drop (64 * j)).take 64 := by rw [bytesOf_extract, List.drop_zero, HQ.out]
          have hy : bytesOf (q.extract 64 q.size) = L.drop (64 * (j + 1)) := by
            rw [bytesOf_extract, List.take_of_length_le (by rw [bytesOf_len]; exact Nat.le_refl _), HQ.out, List.drop_drop]
            congr 1
          have hz : (q.extract 0 64).size = 64 := by rw [ByteArray.size_extract]; omega
          have HX := Lib.hid hx
          have HY := Lib.hid hy
          have HZ := Lib.hid hz
          clear hx hy hz
          have HFX : Hid (feeds kTab st L (j + 1) = feed kTab (feeds kTab st L j) ((L.drop (64 * j)).take 64)) := rfl
          go_wp2
          go_region_with (go_at_call 49; refine (Feed_any B (feeds kTab st L j) HF8.out _ T (q.extract 0 64) HZ.out kTab rfl _ (HSZ.out _ HK2.out.drew) HB0.out HS.out).mono ?_; rintro e w2 ⟨rfl, hS2, hK2⟩; have HS2 := Lib.hid hS2; have HK2b := Lib.hid hK2; clear hS2 hK2)
          all_goals
            go_wp2
            go_roundw
            case rel =>
              (repeat apply Exists.intro)
              exact ⟨⟨j + 1, q.extract 64 q.size, H2.out h64, rfl, HY.out, by rw [HFX.out, ← HX.out]; exact HS2.out, HK.out.drew.trans HK2b.out⟩, rfl⟩
            case measure =>
              show strLen (.string (q.extract 64 q.size)) < strLen (.string q)
              simp only [strLen, ByteArray.size_extract]
              omega
        · have HJ := Lib.hid (H3.out (by omega))
          have hc9 := hash_cell9 _ HF8.out rest (n + p.size) HS.out
          obtain ⟨c9, f9⟩ := hc9
          go_wp2
          exact ⟨.inr ⟨rfl, q, by rw [HQ.out, HLE.out, HJ.out], by rw [HLE.out, ← HJ.out]; exact hash_rest _ HF8.out rest q _ HS.out, HK1.out.trans (HK.out.put _ _)⟩, by decide⟩
    · go_wp2
      go_end0
      exact ⟨rfl, hF⟩
end Go.Proofs.YtalbdcpbdedfiaaDoor
