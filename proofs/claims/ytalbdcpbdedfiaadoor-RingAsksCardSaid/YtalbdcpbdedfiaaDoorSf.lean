/- Walks: a sum ended. -/
import Derived.Test.YtalbdcpbdedfiaaDoorSe
import Derived.Laws.IdiomStrings
namespace Go.Proofs.YtalbdcpbdedfiaaDoor
open Go.RowKit
open Sha (W wnth feed feeds pad out outB)

def u8v (b : UInt8) : Value := .int .u8 (b.toNat : Int)
def u8s (l : List UInt8) : List Value := l.map u8v
theorem own_form {E B : Nat} {w : World} {v : Value} {n : Nat} {xs : List Value} (h : w.ownsRow B E 1 v n xs) (hn : 0 < n) : ∃ g c, v = .slice (some ⟨g, 0, none⟩) n c ∧ B ≤ g ∧ g < w.heap.size := by
  rcases h.2 with ⟨_, h0⟩ | ⟨g, cap, cur, rfl, hb, hh, _⟩
  · omega
  · exact ⟨g, cap, rfl, hb, (Array.getElem?_eq_some_iff.1 hh).1⟩
theorem u8s_len (l : List UInt8) : (u8s l).length = l.length := by simp [u8s]
theorem u8s_one (l : List UInt8) : ∀ v ∈ u8s l, v.oneCell' = true := by
  intro v hv
  unfold u8s at hv
  rw [List.mem_map] at hv
  obtain ⟨x, _, rfl⟩ := hv
  rfl
theorem heap_two (w : World) (a b : Obj) {k : Nat} (h : k < w.heap.size) : ((w.alloc a).alloc b).heap[k]? = w.heap[k]? := by
  rw [Below.heap_alloc _ _ _ (by simp; omega), Below.heap_alloc _ _ _ h]
def zero128 : List UInt8 := List.replicate 128 0
theorem made128 : madeCells (Value.int IntKind.u8 0).cells 128 = (u8s zero128).toArray := by
  apply Array.ext'
  show (madeCells #[Value.int .u8 0] 128).toList = _
  rw [toList_madeCells_one]
  simp [u8s, zero128, u8v]
theorem three_0 (w : World) (a b c : Obj) : (((w.alloc a).alloc b).alloc c).heap[w.heap.size]? = some a := by
  rw [Below.heap_alloc _ _ _ (by simp; omega), Below.heap_alloc _ _ _ (by simp), heap_alloc_new]
theorem three_1 (w : World) (a b c : Obj) : (((w.alloc a).alloc b).alloc c).heap[w.heap.size + 1]? = some b := by
  rw [Below.heap_alloc _ _ _ (by simp)]
  have := heap_alloc_new (w.alloc a) b
  simpa using this
theorem three_2 (w : World) (a b c : Obj) : (((w.alloc a).alloc b).alloc c).heap[w.heap.size + 2]? = some c := by
  have := heap_alloc_new ((w.alloc a).alloc b) c
  simpa using this
/-- what stands behind a text, of its length the first k bytes -/
def padTo (n k : Nat) : List UInt8 := [128] ++ List.replicate ((119 - n % 64) % 64) 0 ++ (List.range k).map (fun i => UInt8.ofNat (n * 8 / 2 ^ (56 - 8 * i) % 256))
theorem padTo_len (n k : Nat) : (padTo n k).length = 1 + (119 - n % 64) % 64 + k := by simp [padTo]; omega
theorem padTo_pad (n : Nat) : padTo n 8 = pad n := rfl
theorem padTo_snoc (n k : Nat) : padTo n (k + 1) = padTo n k ++ [UInt8.ofNat (n * 8 / 2 ^ (56 - 8 * k) % 256)] := by
  unfold padTo
  rw [List.range_succ, List.map_append, ← List.append_assoc]
  rfl
theorem pad_own {w : World} (g n : Nat) (h : w.heap[g + 2]? = some (Obj.cells ((u8s zero128).set 0 (Value.int IntKind.u8 128)).toArray 5)) :
    w.ownsRow (g + 2) 5 1 (.slice (some ⟨g + 2, 0, none⟩) (1 + (119 - n % 64) % 64) 128) (1 + (119 - n % 64) % 64 + 0) (u8s (padTo n 0)) := by
  refine ⟨by rw [u8s_len, padTo_len, Nat.mul_one], .inr ⟨g + 2, 128, _, rfl, Nat.le_refl _, h, by omega, by decide, by simp [u8s, zero128], ?_⟩⟩
  have e1 : (u8s zero128).set 0 (Value.int IntKind.u8 128) = u8s (128 :: List.replicate 127 0) := rfl
  rw [e1, Nat.mul_one, Nat.add_zero]
  have e2 : padTo n 0 = (128 :: List.replicate 127 0).take (1 + (119 - n % 64) % 64) := by
    rw [Nat.add_comm 1, List.take_succ_cons, List.take_replicate]
    simp [padTo]
    omega
  rw [e2]
  simp [u8s]
theorem pad_val (n e : Nat) : ((n : Int) * 8 / 2 ^ e % 256) = ((UInt8.ofNat (n * 8 / 2 ^ e % 256)).toNat : Int) := by
  have h : (UInt8.ofNat (n * 8 / 2 ^ e % 256)).toNat = n * 8 / 2 ^ e % 256 := by simp
  rw [h]
  simp
def padS (n : Nat) : ByteArray := ⟨(pad n).toArray⟩
theorem padS_bytes (n : Nat) : bytesOf (padS n) = pad n := rfl
theorem padS_size (n : Nat) : (padS n).size = (pad n).length := rfl
def zeroB (n : Nat) : List UInt8 := List.replicate n 0
def outTo (s : List W) (k : Nat) : List UInt8 := (List.range k).map (outB s)
theorem outTo_len (s : List W) (k : Nat) : (outTo s k).length = k := by simp [outTo]
theorem outTo_put (s : List W) (k : Nat) (h : k < 32) : (outTo s k ++ zeroB (32 - k)).set k (outB s k) = outTo s (k + 1) ++ zeroB (32 - (k + 1)) := by
  rw [List.set_append_right _ _ (by rw [outTo_len]; exact Nat.le_refl _), outTo_len, Nat.sub_self]
  unfold outTo
  rw [List.range_succ, List.map_append, List.append_assoc]
  congr 1
  obtain ⟨m, hm⟩ : ∃ m, 32 - k = m + 1 := ⟨31 - k, by omega⟩
  rw [hm, show 32 - (k + 1) = m by omega]
  rfl
theorem u8s_get (l : List UInt8) (i : Nat) (hi : i < l.length) : (u8s l)[i]? = some (u8v (l.getD i 0)) := by
  simp [u8s, List.getElem?_eq_getElem hi, List.getD_eq_getElem?_getD]
theorem u8_cell {w : World} {b k : Nat} {T : TypeId} (l : List UInt8) (hk : k < l.length) (h : w.heap[b]? = some (Obj.cells (u8s l).toArray T (0, 0))) : w.cell? ⟨b, k, none⟩ = some (u8v (l.getD k 0)) := by
  rw [cell_of_row _ _ _ _ _ _ h, List.getElem?_toArray]
  exact u8s_get l k hk
theorem u8_set {w : World} {b k : Nat} {T : TypeId} (l : List UInt8) (x : UInt8) (h : w.heap[b]? = some (Obj.cells (u8s l).toArray T (0, 0))) : (w.setCell ⟨b, k, none⟩ (u8v x)).heap[b]? = some (Obj.cells (u8s (l.set k x)).toArray T (0, 0)) := by
  rw [heap_setCell_same _ _ _ _ _ _ h]
  congr 2
  have : (u8s l).set k (u8v x) = u8s (l.set k x) := by simp [u8s, List.map_set]
  rw [← this]
  simp
theorem out_val (s : List W) (k : Nat) : (((wnth s (k / 4)).toNat : Int) / 2 ^ (24 - 8 * (k % 4)) % 256) = ((outB s k).toNat : Int) := by
  have h : (outB s k).toNat = (wnth s (k / 4)).toNat / 2 ^ (24 - 8 * (k % 4)) % 256 := by
    unfold outB
    rw [BitVec.toNat_ushiftRight, Nat.shiftRight_eq_div_pow]
    simp
  rw [h]
  simp
theorem uStr : Tryd.prog.underlying 9 = some .string := by kernel_rfl
theorem _root_.Go.RowKit.Below.block' {B : Nat} {w w' : World} (h : Below B w w') {k : Nat} {o : Obj} (hk : w.heap[k]? = some o) (hlt : k < B) : w'.heap[k]? = some o := (h.block k hlt).trans hk
theorem uHash : ∃ d, Tryd.prog.underlying 67 = some d ∧ (match d with | .struct _ | .array _ _ => true | _ => false) = true := by
  have h : (Tryd.prog.underlying 67).map (fun d => match d with | .struct _ | .array _ _ => true | _ => false) = some true := by kernel_rfl
  cases hq : Tryd.prog.underlying 67 with
  | none => rw [hq] at h; cases h
  | some d => rw [hq] at h; exact ⟨d, rfl, by simpa using h⟩
theorem sHash : (Tryd.prog.info? 67).map (·.size) = some 11 := by kernel_rfl
theorem uA32 : Tryd.prog.underlying 47 = some (.array 32 5) := by kernel_rfl
theorem sA32 : (Tryd.prog.info? 47).map (·.size) = some 32 := by kernel_rfl
theorem uU8 : Tryd.prog.underlying 5 = some (.int .u8) := by kernel_rfl
theorem uU8s : Tryd.prog.underlying 82 = some (.slice 5) := by kernel_rfl
theorem infoU8 : (Tryd.prog.info? 5).map (fun i => (i.zero, i.size, i.bytes)) = some (some (.int .u8 0), 1, 1) := by kernel_rfl
theorem hash_one (st : List W) (bg : Bool) (rest : ByteArray) (n : Nat) : (hashC st bg rest n).toArray.all (·.oneCell') = true := by
  simp [hashC, u32s, Value.oneCell']
def zero32 : List UInt8 := List.replicate 32 0
set_option maxRecDepth 100000 in
set_option maxHeartbeats 4000000 in
theorem HSum_any (B : Nat) (st : List W) (hst : st.length = 8) (rest : ByteArray) (n : Nat) (T : TypeId) (w : World) (hG : ∀ j, j < 64 → w.cell? ⟨0, j, none⟩ = some (uw (wnth kTab j))) (hB0 : B ≠ 0)
    (hB : w.heap[B]? = some (.cells (hashC st true rest n).toArray T (0, 0))) (hn : n < 1152921504606846976) (hr : rest.size = n % 64) :
    Calls Tryd.prog 35 #[.pointer (some ⟨B, 0, none⟩)] w fun e w' => e = .returned (.agg (u8s (out (feeds kTab st (bytesOf rest ++ pad n) ((rest.size + (pad n).length) / 64)))).toArray) ∧ Below w.heap.size w w' := by
  have hBlt : B < w.heap.size := (Array.getElem?_eq_some_iff.1 hB).1
  obtain ⟨d0, d1, d2, d3, d4, d5, d6, d7, rfl⟩ := len8 hst
  have k0 : w.cell? ⟨B, 0, none⟩ = some (uw d0) := by rw [cell_of_row _ _ _ _ _ _ hB]; rfl
  have k1 : w.cell? ⟨B, 1, none⟩ = some (uw d1) := by rw [cell_of_row _ _ _ _ _ _ hB]; rfl
  have k2 : w.cell? ⟨B, 2, none⟩ = some (uw d2) := by rw [cell_of_row _ _ _ _ _ _ hB]; rfl
  have k3 : w.cell? ⟨B, 3, none⟩ = some (uw d3) := by rw [cell_of_row _ _ _ _ _ _ hB]; rfl
  have k4 : w.cell? ⟨B, 4, none⟩ = some (uw d4) := by rw [cell_of_row _ _ _ _ _ _ hB]; rfl
  have k5 : w.cell? ⟨B, 5, none⟩ = some (uw d5) := by rw [cell_of_row _ _ _ _ _ _ hB]; rfl
  have k6 : w.cell? ⟨B, 6, none⟩ = some (uw d6) := by rw [cell_of_row _ _ _ _ _ _ hB]; rfl
  have k7 : w.cell? ⟨B, 7, none⟩ = some (uw d7) := by rw [cell_of_row _ _ _ _ _ _ hB]; rfl
  have k8 : w.cell? ⟨B, 8, none⟩ = some (.bool true) := by rw [cell_of_row _ _ _ _ _ _ hB]; rfl
  have k9 : w.cell? ⟨B, 9, none⟩ = some (.string rest) := by rw [cell_of_row _ _ _ _ _ _ hB]; rfl
  have k10 : w.cell? ⟨B, 10, none⟩ = some (.int .u64 n) := by rw [cell_of_row _ _ _ _ _ _ hB]; rfl
  have HG := Lib.hid hG
  have HST := Lib.hid hst
  have HR := Lib.hid hr
  have HB0 := Lib.hid hB0
  have z0 : 0 ≤ (119 - (n : Int) % 64) % 64 := by omega
  have z1 : (119 - (n : Int) % 64) % 64 < 64 := by omega
  have hmk : ∀ w : World, (Instr.makeSlice 82 (.int .i64 (1 + (119 - (n : Int)) % 64)) (.int .i64 128)).run Tryd.prog w = .ok (.slice (some ⟨w.heap.size, 0, none⟩) (1 + (119 - n % 64) % 64) 128) (w.alloc (.cells (u8s zero128).toArray 5)) := fun w => by
    obtain ⟨i, hi, hz, hsize, hby⟩ := info_parts infoU8
    have h := run_make (P := Tryd.prog) w 82 5 i (.int .u8 0) uU8s hi hz .i64 .i64 (1 + (119 - (n : Int)) % 64) 128 (by omega) (by omega) (by rw [hby]; decide) (by decide)
    rw [h]
    have e1 : (1 + (119 - (n : Int)) % 64).toNat = 1 + (119 - n % 64) % 64 := by omega
    rw [e1, hsize, show Int.toNat 128 * 1 = 128 from rfl, made128]
    rfl
  clear hB hG hst hr hB0
  go_enter Tryd.func35, Tryd.ntmps35
  go_wp2
  change Code.wp _ _ _ _ (((w.alloc (Obj.cells (u8s zero32).toArray 47)).alloc (Obj.cells (hashC [d0, d1, d2, d3, d4, d5, d6, d7] true rest n).toArray 67)).alloc (Obj.cells ((u8s zero128).set 0 (Value.int IntKind.u8 128)).toArray 5))
  have hR3 := three_0 w (Obj.cells (u8s zero32).toArray 47) (Obj.cells (hashC [d0, d1, d2, d3, d4, d5, d6, d7] true rest n).toArray 67) (Obj.cells ((u8s zero128).set 0 (Value.int IntKind.u8 128)).toArray 5)
  have hC3 := three_1 w (Obj.cells (u8s zero32).toArray 47) (Obj.cells (hashC [d0, d1, d2, d3, d4, d5, d6, d7] true rest n).toArray 67) (Obj.cells ((u8s zero128).set 0 (Value.int IntKind.u8 128)).toArray 5)
  have hP3 := three_2 w (Obj.cells (u8s zero32).toArray 47) (Obj.cells (hashC [d0, d1, d2, d3, d4, d5, d6, d7] true rest n).toArray 67) (Obj.cells ((u8s zero128).set 0 (Value.int IntKind.u8 128)).toArray 5)
  have hb3 : Below w.heap.size w (((w.alloc (Obj.cells (u8s zero32).toArray 47)).alloc (Obj.cells (hashC [d0, d1, d2, d3, d4, d5, d6, d7] true rest n).toArray 67)).alloc (Obj.cells ((u8s zero128).set 0 (Value.int IntKind.u8 128)).toArray 5)) := (((Below.refl _ _).alloc (Nat.le_refl _) _).alloc (by simp) _).alloc (by simp; omega) _
  have hs3 : (((w.alloc (Obj.cells (u8s zero32).toArray 47)).alloc (Obj.cells (hashC [d0, d1, d2, d3, d4, d5, d6, d7] true rest n).toArray 67)).alloc (Obj.cells ((u8s zero128).set 0 (Value.int IntKind.u8 128)).toArray 5)).heap.size = w.heap.size + 3 := by simp
  clear k0 k1 k2 k3 k4 k5 k6 k7 k8 k9 k10 hmk
  generalize (((w.alloc (Obj.cells (u8s zero32).toArray 47)).alloc (Obj.cells (hashC [d0, d1, d2, d3, d4, d5, d6, d7] true rest n).toArray 67)).alloc (Obj.cells ((u8s zero128).set 0 (Value.int IntKind.u8 128)).toArray 5)) = w3 at *
  generalize hst0 : [d0, d1, d2, d3, d4, d5, d6, d7] = st at *
  have HSD := Lib.hid hst0
  clear hst0
  have HR3 := Lib.hid hR3
  have HC3 := Lib.hid hC3
  have HB3 := Lib.hid hb3
  have HS3 := Lib.hid hs3
  have hs3a : w.heap.size + 3 ≤ w3.heap.size := by omega
  have hown3 := pad_own w.heap.size n hP3
  have HG3 : Hid (∀ V : World, Below w.heap.size w V → ∀ j, j < 64 → V.cell? ⟨0, j, none⟩ = some (uw (wnth kTab j))) := fun V hV j hj => by
    have h0 := HG.out j hj
    have hb := hV.block 0 (World.block_lt_of_cell? w _ h0)
    rw [← h0]
    simp [World.cell?, hb]
  clear hR3 hC3 hP3 hb3 hs3 HG
  go_loopw [5, 28] (fun v i wr => ∃ k : Nat, k ≤ 8 ∧ i = .int .i64 k ∧ wr.ownsRow (w.heap.size + 2) 5 1 v (1 + (119 - n % 64) % 64 + k) (u8s (padTo n k)) ∧ Below (w.heap.size + 2) w3 wr) (fun _ i _ => 8 - (intOf i).toNat)
  case atStart => exact ⟨0, by omega, rfl, hown3, Below.refl _ _⟩
  case round =>
    obtain ⟨k, hk, rfl, hown, hb⟩ := hrel
    have hsz := hb.size
    have hsz2 : w.heap.size + 2 ≤ wr.heap.size := by omega
    by_cases hlt : k < 8
    · have hsh : (0 : Int) ≤ 56 - 8 * (k : Int) := by omega
      go_wp2_with (at_builtin; refine wpList_append1 rfl _ _ _ rfl (w.heap.size + 2) _ (.int .u8 0) 1 1 uU8s infoU8 rfl (by decide) wr u5 _ _ rfl (by exact hown) _ rfl rfl (by simp [Value.oneCell']) (by omega) (by simp only [maxLen]; omega) hsz2 ?_; intro v' w4 hown1 hg1 hb1 hne1)
      have HSN : Hid (u8s (padTo n (k + 1)) = u8s (padTo n k) ++ #[Value.int IntKind.u8 ((n : Int) * 8 / 2 ^ (56 - 8 * k) % 256)].toList) := by
        show u8s _ = _
        rw [padTo_snoc, pad_val n (56 - 8 * k)]
        simp [u8s, u8v]
      go_roundw
      case rel => exact ⟨k + 1, by omega, by go_num, by rw [HSN.out]; exact hown1, hb.trans hb1.bel⟩
      case measure => simp [intOf]; omega
    · obtain rfl : k = 8 := by omega
      obtain ⟨w4, hw4⟩ : ∃ V, V = wr := ⟨wr, rfl⟩
      subst hw4
      obtain ⟨g, c, rfl, hg, _⟩ := own_form hown (by omega)
      have hcv : (convert 82 9 (.slice (some ⟨g, 0, none⟩) (1 + (119 - n % 64) % 64 + 8) c)).run Tryd.prog w4 = .ok (.string (padS n)) w4 := by
        have h := run_convert_bytes_back (P := Tryd.prog) w4 82 9 5 ⟨g, 0, none⟩ c (pad n) uU8s uU8 uStr (fun j hj => by
          have ha : (⟨g, 0, none⟩ : Addr).add j = ⟨g, j, none⟩ := by unfold Addr.add; split <;> simp_all
          rw [← padTo_pad] at hj
          rw [ha, World.ownsRow.cellAt hown j (by rw [padTo_len] at hj; omega)]
          simp only [u8s, List.getElem?_map, ← padTo_pad, List.getElem?_eq_getElem hj, Option.map_some]
          rfl)
        have hl : (pad n).length = 1 + (119 - n % 64) % 64 + 8 := padTo_len n 8
        rw [hl] at h
        exact h
      have hC4 := hb.block' HC3.out (by omega)
      have hR4 := hb.block' HR3.out (by omega)
      have hB4 : Below w.heap.size w w4 := HB3.out.trans (hb.mono (by omega))
      have hsz4 : w3.heap.size ≤ w4.heap.size := hb.size
      clear hown
      go_wp2_with fail
      change Calls _ _ _ (w4.alloc (Obj.cells #[Value.string (padS n)] 9)) _
      refine (Write_on (w.heap.size + 1) st HST.out rest n 67 w4.heap.size (padS n) _ (HG3.out _ (hB4.alloc hB4.size _)) (by omega) ((Below.heap_alloc _ _ _ (by omega)).trans hC4) (by rw [cell_of_row _ _ _ _ _ _ (heap_alloc_new w4 _)]; rfl) ?_ ?_).mono ?_
      · show n + (padS n).size < _
        rw [padS_size, Sha.pad_len]; omega
      · rw [HR.out]; omega
      rintro e w5 ⟨rfl, hW⟩
      obtain ⟨q, _, hC6, hK6⟩ := hW
      have hR6 := hK6.block' ((Below.heap_alloc w4 _ _ (by omega)).trans hR4) (by omega) (by omega)
      have hsz6 := hK6.size
      have hB6 : Below w.heap.size w w5 := (hB4.alloc hB4.size (Obj.cells #[Value.string (padS n)] 9)).trans (hK6.below (by simp; omega) (by omega) (by omega))
      rw [padS_bytes, padS_size] at hC6
      have HFL := Lib.hid (Sha.feeds_len kTab st (bytesOf rest ++ pad n) HST.out ((rest.size + (pad n).length) / 64))
      generalize hFS : feeds kTab st (bytesOf rest ++ pad n) ((rest.size + (pad n).length) / 64) = FS at *
      have HFS := Lib.hid hFS
      have HC6 := Lib.hid hC6
      have HR6 := Lib.hid hR6
      have HB6 := Lib.hid hB6
      have hlt6 : w.heap.size + 2 < w5.heap.size := by simp at hsz6; omega
      clear hFS hC6 hR6 hB6 hK6 hC4 hR4 hB4 hsz6 hcv hb
      have hO7 : (w5.alloc (Obj.cells (u8s zero32).toArray 47)).heap[w5.heap.size]? = some (Obj.cells (u8s (outTo FS 0 ++ zeroB 32)).toArray 47 (0, 0)) := heap_alloc_new w5 _
      have hC7 : (w5.alloc (Obj.cells (u8s zero32).toArray 47)).heap[w.heap.size + 1]? = _ := (Below.heap_alloc w5 _ _ (by omega)).trans HC6.out
      have hR7 : (w5.alloc (Obj.cells (u8s zero32).toArray 47)).heap[w.heap.size]? = _ := (Below.heap_alloc w5 _ _ (by omega)).trans HR6.out
      have hB7 : Below w.heap.size w (w5.alloc (Obj.cells (u8s zero32).toArray 47)) := HB6.out.alloc HB6.out.size _
      have hs7 : (w5.alloc (Obj.cells (u8s zero32).toArray 47)).heap.size = w5.heap.size + 1 := by simp
      go_wp2_with fail
      change Code.wp _ _ _ _ (w5.alloc (Obj.cells (u8s zero32).toArray 47))
      generalize w5.alloc (Obj.cells (u8s zero32).toArray 47) = w7 at *
      have HO7 := Lib.hid hO7
      have HC7 := Lib.hid hC7
      have HR7 := Lib.hid hR7
      have HB7 := Lib.hid hB7
      have HS7 := Lib.hid hs7
      clear hO7 hC7 hR7 hB7 hs7 HC6 HR6 HB6 HC3 HR3 HB3 HG3
      go_loopw [45] (fun i wr => ∃ k : Nat, k ≤ 32 ∧ i = .int .i64 k ∧ wr.heap[w5.heap.size]? = some (Obj.cells (u8s (outTo FS k ++ zeroB (32 - k))).toArray 47 (0, 0)) ∧ Kept2 w5.heap.size w5.heap.size w7 wr) (fun i _ => 32 - (intOf i).toNat)
      case atStart => exact ⟨0, by omega, rfl, HO7.out, Kept2.refl _ _ _⟩
      case round =>
        obtain ⟨k, hk, rfl, hO, hK⟩ := hrel
        have HO := Lib.hid hO
        have HK := Lib.hid hK
        clear hO hK
        by_cases hlt : k < 32
        · have cst := u32_cell FS (k := k / 4) (by rw [HFL.out]; omega) _ (HK.out.block' HC7.out (by omega) (by omega))
          have cw := u8_cell (outTo FS k ++ zeroB (32 - k)) (k := k) (by rw [List.length_append, outTo_len]; simp [zeroB]; omega) HO.out
          have fw : wr.frozen? ⟨w5.heap.size, k, none⟩ = false := by simp [World.frozen?, HO.out]
          have q0 : (0 : Int) ≤ (k : Int) / 4 := by omega
          have q1 : (k : Int) / 4 < 8 := by omega
          have q2 : ((k : Int) / 4).toNat = k / 4 := by omega
          have s0 : (0 : Int) ≤ 24 - 8 * ((k : Int) % 4) := by omega
          have p32 : (k : Int) < 32 := by omega
          go_wp2
          rw [out_val]
          go_roundw
          case rel => exact ⟨k + 1, by omega, by go_num, by have h := u8_set (k := k) _ (outB FS k) HO.out; rw [outTo_put FS k hlt] at h; exact h, HK.out.put _ _⟩
          case measure => simp [intOf]; omega
        · obtain rfl : k = 32 := by omega
          have hO8 : wr.heap[w5.heap.size]? = some (Obj.cells (u8s (out FS)).toArray 47 (0, 0)) := by
            have h := HO.out
            rw [show zeroB (32 - 32) = [] from rfl, List.append_nil] at h
            exact h
          have hR8 := HK.out.block' HR7.out (by omega) (by omega)
          have hs8 := HK.out.size
          have hs9 : w.heap.size < wr.heap.size := by have := HB7.out.size; have := HS7.out; omega
          have hs10 : w.heap.size ≤ w7.heap.size := HB7.out.size
          have HO8 := Lib.hid hO8
          have HR8 := Lib.hid hR8
          have HL32 : Hid ((out FS).length = 32) := by show (out FS).length = 32; simp [out]
          clear hO8 hR8
          go_wp2_with (first | (refine wpList_load_row rfl _ _ rfl w5.heap.size rfl _ _ (0, 0) _ HO8.out uA32 rfl (by rw [sA32]; simp [u8s_len, HL32.out]) ?_) | (refine wpList_store_row rfl _ _ _ rfl w.heap.size (u8s (out FS)).toArray rfl rfl _ _ HR8.out (by rw [sA32]; simp [u8s_len, HL32.out]) (by simp [u8s_len, HL32.out, zero32]) (by simp [u8s, u8v, Value.oneCell']) ?_))
          refine bodyPost_ret (results_cell_row rfl _ _ w.heap.size _ (u8s (out FS)).toArray _ _ rfl (setRow_heap wr w.heap.size _ _ _ _ HR8.out) uA32 rfl (by rw [sA32]; simp [u8s_len, HL32.out])) rfl ⟨by rw [HSD.out, HFS.out], ?_⟩
          exact (HB7.out.trans (HK.out.below (by omega) (by omega) (by omega))).trans (Kept2.below (a := w.heap.size) (b := w.heap.size) ⟨rfl, rfl, rfl, by simp, fun k _ h1 _ => setRow_other wr w.heap.size k _ h1⟩ (by omega) (Nat.le_refl _) (Nat.le_refl _))
end Go.Proofs.YtalbdcpbdedfiaaDoor
