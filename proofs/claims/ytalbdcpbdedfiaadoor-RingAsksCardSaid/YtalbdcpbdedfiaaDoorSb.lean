/- Walks: a block taken in. -/
import Derived.Test.YtalbdcpbdedfiaaDoorSa
import Derived.Outline
import Derived.IntWalk
namespace Go.Proofs.YtalbdcpbdedfiaaDoor
open Go.RowKit
open Sha (W rotr wnth words be sched feed rnds rnd addTo)

theorem u32_cell {w : World} {b k : Nat} {T : TypeId} (l : List W) (hk : k < l.length) (r : List Value) (h : w.heap[b]? = some (Obj.cells (u32s l ++ r).toArray T (0, 0))) : w.cell? ⟨b, k, none⟩ = some (uw (wnth l k)) := by
  rw [cell_of_row _ _ _ _ _ _ h, List.getElem?_toArray, List.getElem?_append_left (by rw [u32s_len]; exact hk)]
  exact u32s_get l k hk
theorem u32_set {w : World} {b k : Nat} {T : TypeId} (l : List W) (hk : k < l.length) (r : List Value) (x : W) (h : w.heap[b]? = some (Obj.cells (u32s l ++ r).toArray T (0, 0))) : (w.setCell ⟨b, k, none⟩ (uw x)).heap[b]? = some (Obj.cells (u32s (l.set k x) ++ r).toArray T (0, 0)) := by
  rw [heap_setCell_same _ _ _ _ _ _ h]
  congr 2
  have : (u32s l ++ r).set k (uw x) = u32s (l.set k x) ++ r := by
    rw [List.set_append_left _ _ (by rw [u32s_len]; exact hk)]
    simp [u32s, List.map_set]
  rw [← this]
  simp
theorem u32s_append (a b : List W) : u32s (a ++ b) = u32s a ++ u32s b := by simp [u32s]
def zeroW (n : Nat) : List W := List.replicate n 0
theorem zeroW_len (n : Nat) : (zeroW n).length = n := by simp [zeroW]
def bytesOf (s : ByteArray) : List UInt8 := s.data.toList

theorem words_put (l : List UInt8) (k : Nat) (h : k < 16) : (words l k ++ zeroW (64 - k)).set k (be l (4 * k)) = words l (k + 1) ++ zeroW (64 - (k + 1)) := by
  rw [List.set_append_right _ _ (by rw [Sha.words_len]; exact Nat.le_refl _), Sha.words_len, Nat.sub_self, words, List.append_assoc]
  congr 1
  obtain ⟨m, hm⟩ : ∃ m, 64 - k = m + 1 := ⟨63 - k, by omega⟩
  rw [hm, show 64 - (k + 1) = m by omega]
  rfl
theorem Kept2.drew {a b : Nat} {w w' : World} (h : Kept2 a b w w') : Kept2 a b w w'.drew := ⟨h.os, h.tape, h.output, h.size, h.block⟩
theorem Kept2.drewN {a b : Nat} {w w' : World} (h : Kept2 a b w w') (n : Nat) : Kept2 a b w (w'.drewN n) := ⟨h.os, h.tape, h.output, h.size, h.block⟩
theorem kept_on {B b : Nat} {w w1 w3 : World} {o : Obj} (h1 : Kept2 B B w w1) (h2 : Kept2 b b w1 w3) (hb : w.heap.size ≤ b) : Kept2 B B w (w3.alloc o) :=
  ⟨h2.os.trans h1.os, h2.tape.trans h1.tape, h2.output.trans h1.output, by have := h1.size; have := h2.size; simp; omega, fun k hk ha _ => by
    have e1 := h1.block k hk ha ha
    have hk1 : k < w1.heap.size := by have := h1.size; omega
    have e2 := h2.block k hk1 (by omega) (by omega)
    have hk3 : k < w3.heap.size := by have := h2.size; omega
    rw [Below.heap_alloc w3 _ _ hk3, e2, e1]⟩
theorem Kept2.put {a : Nat} {w w' : World} (h : Kept2 a a w w') (j : Nat) (u : Value) : Kept2 a a w (w'.setCell ⟨a, j, none⟩ u) := h.setCell j u
theorem be_bytes (a b c d : UInt8) :
    bits BinOp.or IntKind.u32 (bits BinOp.or IntKind.u32 (bits BinOp.or IntKind.u32 ((a.toNat : Int) % 4294967296 * 16777216 % 4294967296) ((b.toNat : Int) % 4294967296 * 65536 % 4294967296)) ((c.toNat : Int) % 4294967296 * 256 % 4294967296)) ((d.toNat : Int) % 4294967296) =
    ((BitVec.ofNat 32 (a.toNat * 16777216 + b.toNat * 65536 + c.toNat * 256 + d.toNat)).toNat : Int) := by
  have ha := a.toNat_lt
  have hb := b.toNat_lt
  have hc := c.toNat_lt
  have hd := d.toNat_lt
  have key : ∀ x m : Nat, x < 256 → ((x : Int) % 4294967296 * (m : Int) % 4294967296) = ((BitVec.ofNat 32 (x * m)).toNat : Int) := fun x m hx => by
    rw [BitVec.toNat_ofNat, show (x : Int) % 4294967296 = (x : Int) by omega]
    simp
  have e1 := key a.toNat 16777216 ha
  have e2 := key b.toNat 65536 hb
  have e3 := key c.toNat 256 hc
  have e4 : ((d.toNat : Int) % 4294967296) = ((BitVec.ofNat 32 d.toNat).toNat : Int) := by rw [BitVec.toNat_ofNat]; simp; omega
  simp only [Int.cast_ofNat_Int] at e1 e2 e3
  rw [e1, e2, e3, e4, bits_or, bits_or, bits_or]
  congr 1
  rw [BitVec.toNat_or, BitVec.toNat_or, BitVec.toNat_or]
  simp only [BitVec.toNat_ofNat]
  rw [Nat.mod_eq_of_lt (by omega), Nat.mod_eq_of_lt (by omega), Nat.mod_eq_of_lt (by omega), Nat.mod_eq_of_lt (by omega), Nat.mod_eq_of_lt (by omega)]
  exact Sha.be_nat a.toNat b.toNat c.toNat d.toNat hb hc hd
theorem byte_get (s : ByteArray) (j : Nat) (h : j < s.size) : (bytesOf s).getD j 0 = s[j] := by
  have : j < (bytesOf s).length := by unfold bytesOf; simpa using h
  rw [List.getD_eq_getElem?_getD, List.getElem?_eq_getElem this]
  rfl
theorem be_spelled (s : ByteArray) (j : Nat) (h0 : j < s.size) (h1 : j + 1 < s.size) (h2 : j + 2 < s.size) (h3 : j + 3 < s.size) :
    bits BinOp.or IntKind.u32 (bits BinOp.or IntKind.u32 (bits BinOp.or IntKind.u32 (((s[j]).toNat : Int) % 4294967296 * 16777216 % 4294967296) (((s[j + 1]).toNat : Int) % 4294967296 * 65536 % 4294967296)) (((s[j + 2]).toNat : Int) % 4294967296 * 256 % 4294967296)) (((s[j + 3]).toNat : Int) % 4294967296) =
    ((be (bytesOf s) j).toNat : Int) := by
  rw [be_bytes, be, byte_get s j h0, byte_get s (j + 1) h1, byte_get s (j + 2) h2, byte_get s (j + 3) h3]

theorem wrap_add (x y : W) : IntKind.u32.wrap ((x.toNat : Int) + (y.toNat : Int)) = ((x + y).toNat : Int) := by
  rw [← Int.natCast_add, wrap_u32, BitVec.toNat_add]
theorem bits_not (x : W) : bits BinOp.xor IntKind.u32 (if IntKind.u32.signed = true then -1 else IntKind.u32.max) (x.toNat : Int) = ((~~~x).toNat : Int) := by
  have h : (if IntKind.u32.signed = true then -1 else IntKind.u32.max : Int) = ((BitVec.allOnes 32).toNat : Int) := by decide
  rw [h, bits_xor, BitVec.allOnes_xor]
theorem one_spelled (v : List W) (k x : W) :
    IntKind.u32.wrap (IntKind.u32.wrap (IntKind.u32.wrap (IntKind.u32.wrap (((wnth v 7).toNat : Int) + bits BinOp.xor IntKind.u32 (bits BinOp.xor IntKind.u32 ((rotr (wnth v 4) 6).toNat : Int) ((rotr (wnth v 4) 11).toNat : Int)) ((rotr (wnth v 4) 25).toNat : Int)) +
      bits BinOp.xor IntKind.u32 (bits BinOp.and IntKind.u32 ((wnth v 4).toNat : Int) ((wnth v 5).toNat : Int)) (bits BinOp.and IntKind.u32 (bits BinOp.xor IntKind.u32 (if IntKind.u32.signed = true then -1 else IntKind.u32.max) ((wnth v 4).toNat : Int)) ((wnth v 6).toNat : Int))) + (k.toNat : Int)) + (x.toNat : Int)) =
    ((Sha.one v k x).toNat : Int) := by
  rw [bits_not, bits_and, bits_and, bits_xor, bits_xor, bits_xor, wrap_add, wrap_add, wrap_add, wrap_add]
  rfl
theorem two_spelled (v : List W) :
    IntKind.u32.wrap (bits BinOp.xor IntKind.u32 (bits BinOp.xor IntKind.u32 ((rotr (wnth v 0) 2).toNat : Int) ((rotr (wnth v 0) 13).toNat : Int)) ((rotr (wnth v 0) 22).toNat : Int) +
      bits BinOp.xor IntKind.u32 (bits BinOp.xor IntKind.u32 (bits BinOp.and IntKind.u32 ((wnth v 0).toNat : Int) ((wnth v 1).toNat : Int)) (bits BinOp.and IntKind.u32 ((wnth v 0).toNat : Int) ((wnth v 2).toNat : Int))) (bits BinOp.and IntKind.u32 ((wnth v 1).toNat : Int) ((wnth v 2).toNat : Int))) =
    ((Sha.two v).toNat : Int) := by
  rw [bits_and, bits_and, bits_and, bits_xor, bits_xor, bits_xor, bits_xor, wrap_add]
  rfl
theorem len8 {v : List W} (h : v.length = 8) : ∃ a b c d e f g i, v = [a, b, c, d, e, f, g, i] := by
  match v, h with
  | [a, b, c, d, e, f, g, i], _ => exact ⟨a, b, c, d, e, f, g, i, rfl⟩
theorem copy_len (v : List W) (h : v.length = 8) : (u32s (v.take 7)).length = Nat.min 7 7 := by
  rw [u32s_len, List.length_take, h]; rfl
theorem copy_fit (v : List W) (h : v.length = 8) : 1 + (u32s (v.take 7)).length ≤ (u32s v).length := by
  rw [u32s_len, u32s_len, List.length_take, h]; decide
theorem copy_src (v : List W) (h : v.length = 8) {w : World} {g : Nat} {T : TypeId} (hg : w.heap[g]? = some (Obj.cells (u32s v).toArray T (0, 0))) (j : Nat) (x : Value) (hx : (u32s (v.take 7))[j]? = some x) : w.cell? ((⟨g, 0, none⟩ : Addr).add j) = some x := by
  have ha : (⟨g, 0, none⟩ : Addr).add j = ⟨g, j, none⟩ := by unfold Addr.add; split <;> simp_all
  have hj : j < 7 := by
    have := (List.getElem?_eq_some_iff.1 hx).1
    rw [u32s_len, List.length_take, h] at this
    omega
  rw [ha, cell_of_row _ _ _ _ _ _ hg, List.getElem?_toArray, ← hx]
  obtain ⟨a, b, c, d, e, f, g, i, rfl⟩ := len8 h
  match j, hj with
  | 0, _ | 1, _ | 2, _ | 3, _ | 4, _ | 5, _ | 6, _ => rfl
theorem copy_gives (v : List W) (h : v.length = 8) : splice (u32s v) 1 (u32s (v.take 7)) = u32s (wnth v 0 :: v.take 7) := by
  obtain ⟨a, b, c, d, e, f, g, i, rfl⟩ := len8 h
  rfl
theorem rnd_gives (v : List W) (h : v.length = 8) (k x : W) : ((wnth v 0 :: v.take 7).set 4 (wnth v 3 + Sha.one v k x)).set 0 (Sha.one v k x + Sha.two v) = rnd v k x := by
  obtain ⟨a, b, c, d, e, f, g, i, rfl⟩ := len8 h
  rfl
theorem copy_three (v : List W) (h : v.length = 8) : wnth (wnth v 0 :: v.take 7) 4 = wnth v 3 := by
  obtain ⟨a, b, c, d, e, f, g, i, rfl⟩ := len8 h
  rfl
theorem kept_below {b : Nat} {w4 w w' : World} (hs : w4.heap.size = b + 1) (h : Kept2 b b w4 w) (hb : Below b w w') : Kept2 b b w4 w' :=
  ⟨hb.os.trans h.os, hb.tape.trans h.tape, hb.output.trans h.output, Nat.le_trans h.size hb.size, fun k hk h1 h2 => (hb.block k (by omega)).trans (h.block k hk h1 h2)⟩
theorem kept_mid {B b : Nat} {w w4 w9 : World} (h1 : Kept2 B B w w4) (h2 : Kept2 b b w4 w9) (hb : w.heap.size ≤ b) : Kept2 B B w w9 :=
  ⟨h2.os.trans h1.os, h2.tape.trans h1.tape, h2.output.trans h1.output, Nat.le_trans h1.size h2.size, fun k hk ha _ =>
    (h2.block k (by have := h1.size; omega) (by omega) (by omega)).trans (h1.block k hk ha ha)⟩
theorem add3_u32 (a b c d : W) : ((a.toNat : Int) + (b.toNat : Int) + (c.toNat : Int) + (d.toNat : Int)) % (4294967296 : Int) = ((a + b + c + d).toNat : Int) := by
  rw [BitVec.toNat_add, BitVec.toNat_add, BitVec.toNat_add]
  simp only [Nat.reducePow]
  omega
theorem sched_spelled (m : List W) (n : Nat) :
    (((wnth (sched m n) n).toNat : Int) + ((wnth (sched m n) (n + 9)).toNat : Int) +
      bits BinOp.xor IntKind.u32 (bits BinOp.xor IntKind.u32 ((rotr (wnth (sched m n) (n + 1)) 7).toNat : Int) ((rotr (wnth (sched m n) (n + 1)) 18).toNat : Int)) (((wnth (sched m n) (n + 1)).toNat : Int) / (8 : Int)) +
      bits BinOp.xor IntKind.u32 (bits BinOp.xor IntKind.u32 ((rotr (wnth (sched m n) (n + 14)) 17).toNat : Int) ((rotr (wnth (sched m n) (n + 14)) 19).toNat : Int)) (((wnth (sched m n) (n + 14)).toNat : Int) / (1024 : Int))) % (4294967296 : Int) =
    ((wnth (sched m n) n + wnth (sched m n) (n + 9) + Sha.sg0 (wnth (sched m n) (n + 1)) + Sha.sg1 (wnth (sched m n) (n + 14))).toNat : Int) := by
  rw [shr3, shr10, bits_xor, bits_xor, bits_xor, bits_xor, add3_u32]
  rfl
theorem sched_put (m : List W) (hm : m.length = 16) (n : Nat) (h : n < 48) : (sched m n ++ zeroW (48 - n)).set (n + 16) (wnth (sched m n) n + wnth (sched m n) (n + 9) + Sha.sg0 (wnth (sched m n) (n + 1)) + Sha.sg1 (wnth (sched m n) (n + 14))) = sched m (n + 1) ++ zeroW (48 - (n + 1)) := by
  have hl := Sha.sched_len m hm n
  rw [List.set_append_right _ _ (by omega), hl, Nat.sub_self, sched, List.append_assoc]
  congr 1
  obtain ⟨j, hj⟩ : ∃ j, 48 - n = j + 1 := ⟨47 - n, by omega⟩
  rw [hj, show 48 - (n + 1) = j by omega]
  rfl

set_option maxRecDepth 100000 in
set_option maxHeartbeats 4000000 in
theorem Feed_any (B : Nat) (st : List W) (hst : st.length = 8) (r : List Value) (T : TypeId) (s : ByteArray) (hs : s.size = 64) (ks : List W) (hks : ks.length = 64) (w : World) (hG : ∀ j, j < 64 → w.cell? ⟨0, j, none⟩ = some (uw (wnth ks j))) (hB0 : B ≠ 0) (hB : w.heap[B]? = some (.cells (u32s st ++ r).toArray T (0, 0))) :
    Calls Tryd.prog 49 #[.pointer (some ⟨B, 0, none⟩), .string s] w fun e w' => e = .returned (.tuple #[]) ∧ w'.heap[B]? = some (.cells (u32s (feed ks st (bytesOf s)) ++ r).toArray T (0, 0)) ∧ Kept2 B B w w' := by
  go_enter Tryd.func49, Tryd.ntmps49
  have hB1 : (w.alloc (Obj.cells (u32s (zeroW 64)).toArray 70)).heap[B]? = some (.cells (u32s st ++ r).toArray T (0, 0)) := (Below.heap_alloc w _ _ (Array.getElem?_eq_some_iff.1 hB).1).trans hB
  have hW1 : (w.alloc (Obj.cells (u32s (zeroW 64)).toArray 70)).heap[w.heap.size]? = some (Obj.cells (u32s ([] ++ zeroW 64)).toArray 70 (0, 0)) := heap_alloc_new w _
  have hs1 : (w.alloc (Obj.cells (u32s (zeroW 64)).toArray 70)).heap.size = w.heap.size + 1 := by simp
  have hk1 : Kept2 B B w (w.alloc (Obj.cells (u32s (zeroW 64)).toArray 70)) := Kept2.of_below ((Below.refl _ _).alloc (Nat.le_refl _) _)
  have hBlt : B < w.heap.size := (Array.getElem?_eq_some_iff.1 hB).1
  go_wp2
  change Code.wp _ _ _ _ (w.alloc (Obj.cells (u32s (zeroW 64)).toArray 70))
  generalize w.alloc (Obj.cells (u32s (zeroW 64)).toArray 70) = w1 at *
  have HB1 := Lib.hid hB1
  have HW1 := Lib.hid hW1
  have HS1 := Lib.hid hs1
  have HK1 := Lib.hid hk1
  have HS := Lib.hid hs
  have HST := Lib.hid hst
  have HKS := Lib.hid hks
  have HG := Lib.hid hG
  clear hB hB1 hW1 hs1 hk1 hst hks hG
  go_loopw [17] (fun i wr => ∃ k : Nat, k ≤ 16 ∧ i = .int .i64 k ∧ wr.heap[w.heap.size]? = some (Obj.cells (u32s (words (bytesOf s) k ++ zeroW (64 - k))).toArray 70 (0, 0)) ∧ Kept2 w.heap.size w.heap.size w1 wr) (fun i _ => 16 - (intOf i).toNat)
  case atStart => exact ⟨0, by omega, rfl, HW1.out, Kept2.refl _ _ _⟩
  case round =>
    obtain ⟨k, hk, rfl, hW, hK⟩ := hrel
    have HW := Lib.hid hW
    have HK := Lib.hid hK
    clear hW hK
    by_cases hlt : k < 16
    · have h64 : (words (bytesOf s) k ++ zeroW (64 - k)).length = 64 := by rw [List.length_append, Sha.words_len, zeroW_len]; omega
      have cw := u32_cell (w := wr) (words (bytesOf s) k ++ zeroW (64 - k)) (k := k) (by omega) [] (by rw [List.append_nil]; exact HW.out)
      have fw : wr.frozen? ⟨w.heap.size, k, none⟩ = false := by simp [World.frozen?, HW.out]
      have b0 : 4 * k < s.size := by omega
      have b1 : 4 * k + 1 < s.size := by omega
      have b2 : 4 * k + 2 < s.size := by omega
      have b3 : 4 * k + 3 < s.size := by omega
      have p64 : (k : Int) < 64 := by omega
      have e0 : IntKind.i64.wrap (4 * (k : Int)) = 4 * (k : Int) := IntWalk.i64_in _ (by omega)
      have e1 : IntKind.i64.wrap (4 * (k : Int) + 1) = 4 * (k : Int) + 1 := IntWalk.i64_in _ (by omega)
      have e2 : IntKind.i64.wrap (4 * (k : Int) + 2) = 4 * (k : Int) + 2 := IntWalk.i64_in _ (by omega)
      have e3 : IntKind.i64.wrap (4 * (k : Int) + 3) = 4 * (k : Int) + 3 := IntWalk.i64_in _ (by omega)
      have n0 : (0 : Int) ≤ 4 * (k : Int) := by omega
      have n1 : (0 : Int) ≤ 4 * (k : Int) + 1 := by omega
      have n2 : (0 : Int) ≤ 4 * (k : Int) + 2 := by omega
      have n3 : (0 : Int) ≤ 4 * (k : Int) + 3 := by omega
      have m0 : (4 * (k : Int)) < (s.size : Int) := by omega
      have m1 : (4 * (k : Int) + 1) < (s.size : Int) := by omega
      have m2 : (4 * (k : Int) + 2) < (s.size : Int) := by omega
      have m3 : (4 * (k : Int) + 3) < (s.size : Int) := by omega
      have t0 : (4 * (k : Int)).toNat = 4 * k := by omega
      have t1 : (4 * (k : Int) + 1).toNat = 4 * k + 1 := by omega
      have t2 : (4 * (k : Int) + 2).toNat = 4 * k + 2 := by omega
      have t3 : (4 * (k : Int) + 3).toNat = 4 * k + 3 := by omega
      clear h64 hs
      go_wp2
      go_still_tail 31, (by kernel_rfl)
      change wpList _ _ _ _ _ wr.drew
      have cw2 : wr.drew.cell? ⟨w.heap.size, k, none⟩ = some (uw (wnth (words (bytesOf s) k ++ zeroW (64 - k)) k)) := cw
      have fw2 : wr.drew.frozen? ⟨w.heap.size, k, none⟩ = false := fw
      have HWK : Hid (wr.drew.heap[w.heap.size]? = some (Obj.cells (u32s (words (bytesOf s) k ++ zeroW (64 - k)) ++ []).toArray 70 (0, 0)) ∧ Kept2 w.heap.size w.heap.size w1 wr.drew) := ⟨by rw [List.append_nil]; exact HW.out, HK.out.drew⟩
      clear cw fw
      generalize wr.drew = w2 at *
      go_wp2
      rw [be_spelled]
      go_roundw
      case rel =>
        clear e0 e1 e2 e3
        exact ⟨k + 1, by omega, by go_num, by have h := u32_set _ (k := k) (by rw [List.length_append, Sha.words_len, zeroW_len]; omega) [] (be (bytesOf s) (4 * k)) HWK.out.1; rw [List.append_nil, words_put _ _ hlt] at h; exact h, HWK.out.2.put _ _⟩
      case measure =>
        clear e0 e1 e2 e3
        simp [intOf]; omega
    · obtain rfl : k = 16 := by omega
      have HM : Hid ((words (bytesOf s) 16).length = 16) := Sha.words_len _ 16
      have HFD : Hid (feed ks st (bytesOf s) = addTo st (rnds st ks (sched (words (bytesOf s) 16) 48) 64) 8) := rfl
      have hs0 : words (bytesOf s) 16 = sched (words (bytesOf s) 16) 0 := rfl
      rw [hs0] at HW
      clear hs0
      generalize words (bytesOf s) 16 = m at *
      obtain ⟨w2, hw2⟩ : ∃ V, V = wr := ⟨wr, rfl⟩
      subst hw2
      rw [show ((16 : Nat) : Int) = (16 : Int) from rfl]
      go_wp2
      go_loopw [6] (fun i wr => ∃ n : Nat, n ≤ 48 ∧ i = .int .i64 ((n : Int) + 16) ∧ wr.heap[w.heap.size]? = some (Obj.cells (u32s (sched m n ++ zeroW (48 - n))).toArray 70 (0, 0)) ∧ Kept2 w.heap.size w.heap.size w1 wr) (fun i _ => 64 - (intOf i).toNat)
      case atStart => exact ⟨0, by omega, rfl, HW.out, HK.out⟩
      case round =>
        obtain ⟨n, hn, rfl, hW, hK⟩ := hrel
        have HW2 := Lib.hid hW
        have HK2 := Lib.hid hK
        clear hW hK
        have hSL := Sha.sched_len m HM.out n
        have HSL := Lib.hid hSL
        by_cases hlt : n < 48
        · have hcw : wr.heap[w.heap.size]? = some (Obj.cells (u32s (sched m n) ++ u32s (zeroW (48 - n))).toArray 70 (0, 0)) := by rw [← u32s_append]; exact HW2.out
          have c0 := u32_cell (sched m n) (k := n) (by omega) _ hcw
          have c1 := u32_cell (sched m n) (k := n + 1) (by omega) _ hcw
          have c9 := u32_cell (sched m n) (k := n + 9) (by omega) _ hcw
          have c14 := u32_cell (sched m n) (k := n + 14) (by omega) _ hcw
          have cw := u32_cell (sched m n ++ zeroW (48 - n)) (k := n + 16) (by rw [List.length_append, zeroW_len]; omega) [] (by rw [List.append_nil]; exact HW2.out)
          have fw : wr.frozen? ⟨w.heap.size, n + 16, none⟩ = false := by simp [World.frozen?, HW2.out]
          have e15 : IntKind.i64.wrap ((n : Int) + 16 - 15) = (n : Int) + 1 := by rw [IntWalk.i64_in _ (by omega)]; omega
          have e2 : IntKind.i64.wrap ((n : Int) + 16 - 2) = (n : Int) + 14 := by rw [IntWalk.i64_in _ (by omega)]; omega
          have e16 : IntKind.i64.wrap ((n : Int) + 16 - 16) = (n : Int) := by rw [IntWalk.i64_in _ (by omega)]; omega
          have e7 : IntKind.i64.wrap ((n : Int) + 16 - 7) = (n : Int) + 9 := by rw [IntWalk.i64_in _ (by omega)]; omega
          have d16 : IntKind.i64.wrap (n : Int) = (n : Int) := IntWalk.i64_in _ (by omega)
          have d7 : IntKind.i64.wrap ((n : Int) + 9) = (n : Int) + 9 := IntWalk.i64_in _ (by omega)
          have d15 : IntKind.i64.wrap ((n : Int) + 1) = (n : Int) + 1 := IntWalk.i64_in _ (by omega)
          have d2 : IntKind.i64.wrap ((n : Int) + 14) = (n : Int) + 14 := IntWalk.i64_in _ (by omega)
          have n1 : (0 : Int) ≤ (n : Int) + 1 := by omega
          have n2 : (0 : Int) ≤ (n : Int) + 14 := by omega
          have n3 : (0 : Int) ≤ (n : Int) + 9 := by omega
          have n4 : (0 : Int) ≤ (n : Int) + 16 := by omega
          have m0 : (n : Int) < 64 := by omega
          have m1 : (n : Int) + 1 < 64 := by omega
          have m2 : (n : Int) + 14 < 64 := by omega
          have m3 : (n : Int) + 9 < 64 := by omega
          have m4 : (n : Int) + 16 < 64 := by omega
          have t1 : ((n : Int) + 1).toNat = n + 1 := by omega
          have t2 : ((n : Int) + 14).toNat = n + 14 := by omega
          have t3 : ((n : Int) + 9).toNat = n + 9 := by omega
          have t4 : ((n : Int) + 16).toNat = n + 16 := by omega
          clear hcw hSL
          go_wp2
          go_quiet (fail)
          go_wp2
          have HWK : Hid ((wr.drewN nq).heap[w.heap.size]? = some (Obj.cells (u32s (sched m n ++ zeroW (48 - n)) ++ []).toArray 70 (0, 0)) ∧ Kept2 w.heap.size w.heap.size w1 (wr.drewN nq)) := ⟨by rw [List.append_nil]; exact HW2.out, HK2.out.drewN _⟩
          have y0 : (wr.drewN nq).cell? ⟨w.heap.size, n, none⟩ = some (uw (wnth (sched m n) n)) := c0
          have y9 : (wr.drewN nq).cell? ⟨w.heap.size, n + 9, none⟩ = some (uw (wnth (sched m n) (n + 9))) := c9
          have yw : (wr.drewN nq).cell? ⟨w.heap.size, n + 16, none⟩ = some (uw (wnth (sched m n ++ zeroW (48 - n)) (n + 16))) := cw
          have zw : (wr.drewN nq).frozen? ⟨w.heap.size, n + 16, none⟩ = false := fw
          clear c0 c1 c9 c14 cw fw
          generalize wr.drewN nq = w3 at *
          go_still_tail 29, (by kernel_rfl)
          still_call (RotL_n _ (-7) 7 (by decide) _)
          repeat still_step
          still_call (RotL_n _ (-18) 18 (by decide) _)
          repeat still_step
          still_call (RotL_n _ (-17) 17 (by decide) _)
          repeat still_step
          still_call (RotL_n _ (-19) 19 (by decide) _)
          repeat still_step
          refine wpStill_nil ?_
          change wpList _ _ _ _ _ w3.drew
          have yw2 : w3.drew.cell? ⟨w.heap.size, n + 16, none⟩ = some (uw (wnth (sched m n ++ zeroW (48 - n)) (n + 16))) := yw
          have zw2 : w3.drew.frozen? ⟨w.heap.size, n + 16, none⟩ = false := zw
          have HWK2 : Hid (w3.drew.heap[w.heap.size]? = some (Obj.cells (u32s (sched m n ++ zeroW (48 - n)) ++ []).toArray 70 (0, 0)) ∧ Kept2 w.heap.size w.heap.size w1 w3.drew) := ⟨HWK.out.1, HWK.out.2.drew⟩
          clear yw zw y0 y9 HWK
          generalize w3.drew = w4 at *
          clear e15 e2 e16 e7 d16 d7 d15 d2 n1 n2 n3 n4 m0 m1 m2 m3 m4 t1 t2 t3 t4
          have HSP := Lib.hid (sched_spelled m n)
          have HPT := Lib.hid (sched_put m HM.out n hlt)
          go_wp2
          go_roundw
          case rel =>
            exact ⟨n + 1, by omega, by go_num, by rw [HSP.out]; have h := u32_set _ (k := n + 16) (by rw [List.length_append, zeroW_len, HSL.out]; omega) [] (wnth (sched m n) n + wnth (sched m n) (n + 9) + Sha.sg0 (wnth (sched m n) (n + 1)) + Sha.sg1 (wnth (sched m n) (n + 14))) HWK2.out.1; rw [List.append_nil, HPT.out] at h; exact h, HWK2.out.2.put _ _⟩
          case measure => simp [intOf]; omega
        · obtain rfl : n = 48 := by omega
          have HNE := Lib.hid hB0
          have hGr : ∀ j v, (u32s ks)[j]? = some v → wr.cell? ⟨0, 0 + j, none⟩ = some v := fun j v hv => by
            have hj : j < 64 := by rw [← HKS.out, ← u32s_len ks]; exact (List.getElem?_eq_some_iff.1 hv).1
            rw [u32s_get ks j (by rw [HKS.out]; exact hj)] at hv
            rw [Nat.zero_add, ← hv]
            have h0 := HG.out j hj
            have hlt0 : 0 < w.heap.size := World.block_lt_of_cell? w _ h0
            have e1 : w1.cell? ⟨0, j, none⟩ = w.cell? ⟨0, j, none⟩ := by
              have hb := HK1.out.block 0 hlt0 (fun e => HNE.out e.symm) (fun e => HNE.out e.symm)
              simp [World.cell?, hb]
            have hlt1 : 0 < w1.heap.size := by have := HK1.out.size; omega
            have e2 : wr.cell? ⟨0, j, none⟩ = w1.cell? ⟨0, j, none⟩ := by
              have hb := HK2.out.block 0 hlt1 (by omega) (by omega)
              simp [World.cell?, hb]
            rw [e2, e1]
            exact h0
          have HGR := Lib.hid hGr
          have HBR : Hid (wr.heap[B]? = some (.cells (u32s st ++ r).toArray T (0, 0))) := HK2.out.block' HB1.out (by omega) (by omega)
          have hBR : ∀ j v, (u32s st)[j]? = some v → wr.cell? ⟨B, 0 + j, none⟩ = some v := fun j v hv => by
            have hj : j < st.length := by rw [← u32s_len st]; exact (List.getElem?_eq_some_iff.1 hv).1
            rw [u32s_get st j hj] at hv
            rw [Nat.zero_add, ← hv]
            exact u32_cell st hj r HBR.out
          have HBRC := Lib.hid hBR
          have hlst : (u32s st).length = 8 := by rw [u32s_len]; exact HST.out
          have hst := store_state8 st hlst
          have HW3 : Hid (wr.heap[w.heap.size]? = some (Obj.cells (u32s (sched m 48) ++ []).toArray 70 (0, 0))) := by
            have := HW2.out
            rw [List.append_nil]
            rw [show zeroW (48 - 48) = [] from rfl, List.append_nil] at this
            exact this
          clear hGr hBR hB0
          have HLW : Hid ((sched m 48).length = 64) := Sha.sched_len m HM.out 48
          generalize hws : sched m 48 = ws at *
          clear hws
          rw [show ((48 : Nat) : Int) + 16 = (64 : Int) from rfl]
          obtain ⟨w3, hw3⟩ : ∃ V, V = wr := ⟨wr, rfl⟩
          subst hw3
          have HGA : Hid (∀ j v, (u32s ks)[j]? = some v → (w3.alloc (Obj.cells (u32s st).toArray 64)).cell? ⟨0, 0 + j, none⟩ = some v) := fun j v hv => by
            have h0 := HGR.out j v hv
            have hlt0 := World.block_lt_of_cell? w3 _ h0
            rw [← h0]
            simp only [World.cell?, Below.heap_alloc w3 _ _ hlt0]
          have hsz3 : w.heap.size < w3.heap.size := (Array.getElem?_eq_some_iff.1 HW3.out).1
          have HV4 : Hid ((w3.alloc (Obj.cells (u32s st).toArray 64)).heap[w3.heap.size]? = some (Obj.cells (u32s (rnds st ks ws 0)).toArray 64 (0, 0))) := heap_alloc_new w3 _
          have HW4 : Hid ((w3.alloc (Obj.cells (u32s st).toArray 64)).heap[w.heap.size]? = some (Obj.cells (u32s ws ++ []).toArray 70 (0, 0))) := (Below.heap_alloc w3 _ _ hsz3).trans HW3.out
          have HB4 : Hid ((w3.alloc (Obj.cells (u32s st).toArray 64)).heap[B]? = some (.cells (u32s st ++ r).toArray T (0, 0))) := (Below.heap_alloc w3 _ _ (by omega)).trans HBR.out
          have HK4 : Hid (Kept2 B B w (w3.alloc (Obj.cells (u32s st).toArray 64))) := kept_on HK1.out HK2.out (Nat.le_refl _)
          have hix := run_index_words (P := Tryd.prog) _ _ _ uW64 uU32 sU32 ks HKS.out
          have hlk : (u32s ks).length = 64 := by rw [u32s_len]; exact HKS.out
          go_wp2_with (first | (refine wpList_load_list rfl _ _ rfl B 0 rfl (u32s st) HBRC.out _ 8 uState (by rw [hlst]; exact sState) ?_) | (refine wpList_load_list rfl _ _ rfl 0 0 rfl (u32s ks) HGA.out _ 64 uW64 (by rw [hlk]; exact sW64) ?_))
          clear hst
          have HS4 : Hid ((w3.alloc (Obj.cells (u32s st).toArray 64)).heap.size = w3.heap.size + 1) := by show _ = _; simp
          generalize w3.alloc (Obj.cells (u32s st).toArray 64) = w4 at *
          go_loopw [97] (fun i wr => ∃ t : Nat, t ≤ 64 ∧ i = .int .i64 t ∧ wr.heap[w3.heap.size]? = some (Obj.cells (u32s (rnds st ks ws t)).toArray 64 (0, 0)) ∧ Kept2 w3.heap.size w3.heap.size w4 wr) (fun i _ => 64 - (intOf i).toNat)
          case atStart => exact ⟨0, by omega, rfl, HV4.out, Kept2.refl _ _ _⟩
          case round =>
            obtain ⟨t, ht, rfl, hV, hK⟩ := hrel
            have HV := Lib.hid hV
            have HK := Lib.hid hK
            clear hV hK
            have HL8 := Lib.hid (Sha.rnds_len st ks ws HST.out t)
            have HNX : Hid (rnds st ks ws (t + 1) = rnd (rnds st ks ws t) (wnth ks t) (wnth ws t)) := rfl
            generalize hv : rnds st ks ws t = v at *
            have HVE := Lib.hid hv
            clear hv
            by_cases hlt : t < 64
            · have hcv : wr.heap[w3.heap.size]? = some (Obj.cells (u32s v ++ []).toArray 64 (0, 0)) := by rw [List.append_nil]; exact HV.out
              have v0 := u32_cell v (k := 0) (by rw [HL8.out]; decide) [] hcv
              have v1 := u32_cell v (k := 1) (by rw [HL8.out]; decide) [] hcv
              have v2 := u32_cell v (k := 2) (by rw [HL8.out]; decide) [] hcv
              have v4 := u32_cell v (k := 4) (by rw [HL8.out]; decide) [] hcv
              have v5 := u32_cell v (k := 5) (by rw [HL8.out]; decide) [] hcv
              have v6 := u32_cell v (k := 6) (by rw [HL8.out]; decide) [] hcv
              have v7 := u32_cell v (k := 7) (by rw [HL8.out]; decide) [] hcv
              have cw := u32_cell ws (k := t) (by rw [HLW.out]; exact hlt) [] (HK.out.block' HW4.out (by omega) (by omega))
              clear hcv
              go_wp2
              go_quiet (fail)
              go_wp2
              obtain ⟨w5, ew5, zv0, zv1, zv2, zv4, zv5, zv6, zv7, zcw, zHV, zHK⟩ : ∃ V, V = wr.drewN nq ∧ V.cell? ⟨w3.heap.size, 0, none⟩ = some (uw (wnth v 0)) ∧ V.cell? ⟨w3.heap.size, 1, none⟩ = some (uw (wnth v 1)) ∧ V.cell? ⟨w3.heap.size, 2, none⟩ = some (uw (wnth v 2)) ∧ V.cell? ⟨w3.heap.size, 4, none⟩ = some (uw (wnth v 4)) ∧ V.cell? ⟨w3.heap.size, 5, none⟩ = some (uw (wnth v 5)) ∧ V.cell? ⟨w3.heap.size, 6, none⟩ = some (uw (wnth v 6)) ∧ V.cell? ⟨w3.heap.size, 7, none⟩ = some (uw (wnth v 7)) ∧ V.cell? ⟨w.heap.size, t, none⟩ = some (uw (wnth ws t)) ∧ V.heap[w3.heap.size]? = some (Obj.cells (u32s v).toArray 64 (0, 0)) ∧ Kept2 w3.heap.size w3.heap.size w4 V := ⟨_, rfl, v0, v1, v2, v4, v5, v6, v7, cw, HV.out, HK.out.drewN _⟩
              rw [← ew5]
              clear v0 v1 v2 v4 v5 v6 v7 cw HV HK
              clear ew5
              have v0 := zv0
              have v1 := zv1
              have v2 := zv2
              have v4 := zv4
              have v5 := zv5
              have v6 := zv6
              have v7 := zv7
              have cw := zcw
              have HV := Lib.hid zHV
              have HK := Lib.hid zHK
              clear zv0 zv1 zv2 zv4 zv5 zv6 zv7 zcw zHV zHK
              refine wp_region_still_lit (by kernel_rfl) (by kernel_rfl) ?_
              repeat still_step
              still_call (RotL_n _ (-6) 6 (by decide) _)
              repeat still_step
              still_call (RotL_n _ (-11) 11 (by decide) _)
              repeat still_step
              still_call (RotL_n _ (-25) 25 (by decide) _)
              repeat still_step
              refine wpStill_nil ?_
              rw [one_spelled]
              change Exit.then _ _ _ _ w5.drew
              obtain ⟨w6, ew6, zv0, zv1, zv2, zv4, zv5, zv6, zv7, zcw, zHV, zHK⟩ : ∃ V, V = w5.drew ∧ V.cell? ⟨w3.heap.size, 0, none⟩ = some (uw (wnth v 0)) ∧ V.cell? ⟨w3.heap.size, 1, none⟩ = some (uw (wnth v 1)) ∧ V.cell? ⟨w3.heap.size, 2, none⟩ = some (uw (wnth v 2)) ∧ V.cell? ⟨w3.heap.size, 4, none⟩ = some (uw (wnth v 4)) ∧ V.cell? ⟨w3.heap.size, 5, none⟩ = some (uw (wnth v 5)) ∧ V.cell? ⟨w3.heap.size, 6, none⟩ = some (uw (wnth v 6)) ∧ V.cell? ⟨w3.heap.size, 7, none⟩ = some (uw (wnth v 7)) ∧ V.cell? ⟨w.heap.size, t, none⟩ = some (uw (wnth ws t)) ∧ V.heap[w3.heap.size]? = some (Obj.cells (u32s v).toArray 64 (0, 0)) ∧ Kept2 w3.heap.size w3.heap.size w4 V := ⟨_, rfl, v0, v1, v2, v4, v5, v6, v7, cw, HV.out, HK.out.drew⟩
              rw [← ew6]
              clear v0 v1 v2 v4 v5 v6 v7 cw HV HK
              clear ew6
              have v0 := zv0
              have v1 := zv1
              have v2 := zv2
              have v4 := zv4
              have v5 := zv5
              have v6 := zv6
              have v7 := zv7
              have cw := zcw
              have HV := Lib.hid zHV
              have HK := Lib.hid zHK
              clear zv0 zv1 zv2 zv4 zv5 zv6 zv7 zcw zHV zHK
              have HRG := Lib.hid (rnd_gives v HL8.out (wnth ks t) (wnth ws t))
              generalize Sha.one v (wnth ks t) (wnth ws t) = on at *
              go_wp2
              refine wp_region_still_lit (by kernel_rfl) (by kernel_rfl) ?_
              repeat still_step
              still_call (RotL_n _ (-2) 2 (by decide) _)
              repeat still_step
              still_call (RotL_n _ (-13) 13 (by decide) _)
              repeat still_step
              still_call (RotL_n _ (-22) 22 (by decide) _)
              repeat still_step
              refine wpStill_nil ?_
              rw [two_spelled]
              change Exit.then _ _ _ _ w6.drew
              obtain ⟨w7, ew7, zv0, zv4, zcw, zHV, zHK⟩ : ∃ V, V = w6.drew ∧ V.cell? ⟨w3.heap.size, 0, none⟩ = some (uw (wnth v 0)) ∧ V.cell? ⟨w3.heap.size, 4, none⟩ = some (uw (wnth v 4)) ∧ V.cell? ⟨w.heap.size, t, none⟩ = some (uw (wnth ws t)) ∧ V.heap[w3.heap.size]? = some (Obj.cells (u32s v).toArray 64 (0, 0)) ∧ Kept2 w3.heap.size w3.heap.size w4 V := ⟨_, rfl, v0, v4, cw, HV.out, HK.out.drew⟩
              rw [← ew7]
              clear v0 v4 cw HV HK
              clear ew7
              have v0 := zv0
              have v4 := zv4
              have cw := zcw
              have HV := Lib.hid zHV
              have HK := Lib.hid zHK
              clear zv0 zv4 zcw zHV zHK
              generalize Sha.two v = tw at *
              go_wp2
              have HSZ4 : Hid (w4.heap.size = w3.heap.size + 1) := HS4.out
              go_region_law (refine step_copy_splice rfl _ _ _ _ rfl 62 uU32s sU32 (some ⟨w3.heap.size, 1, none⟩) (some ⟨w3.heap.size, 0, none⟩) 7 7 7 8 rfl rfl w3.heap.size 1 (u32s v) _ HV.out (u32s (v.take 7)) (copy_len v HL8.out) (fun _ => ⟨rfl, _, rfl, fun j x hx => copy_src v HL8.out HV.out j x hx⟩) (copy_fit v HL8.out) (u32s_one _) w3.heap.size _ (Below.refl _ _) (Nat.le_refl _) ?_; intro w8 hg8 hb8)
              clear v0 v4 cw
              all_goals
                have HV8 : Hid (w8.heap[w3.heap.size]? = some (Obj.cells (u32s (wnth v 0 :: v.take 7) ++ []).toArray 64 (0, 0))) := by
                  have h := hg8.out
                  rw [copy_gives v HL8.out] at h
                  rw [List.append_nil]
                  exact h
                have hl8 : (wnth v 0 :: v.take 7).length = 8 := by rw [List.length_cons, List.length_take, HL8.out]; rfl
                have HK8 : Hid (Kept2 w3.heap.size w3.heap.size w4 w8) := kept_below HS4.out HK.out.drew hb8
                have c4 := u32_cell _ (k := 4) (by rw [hl8]; decide) [] HV8.out
                have c0 := u32_cell _ (k := 0) (by rw [hl8]; decide) [] HV8.out
                have f4 : w8.frozen? ⟨w3.heap.size, 4, none⟩ = false := by simp [World.frozen?, HV8.out]
                have f0 : w8.frozen? ⟨w3.heap.size, 0, none⟩ = false := by simp [World.frozen?, HV8.out]
                rw [copy_three v HL8.out] at c4
                have HL9 := Lib.hid hl8
                clear hl8 hg8 hb8
                go_wp2
                go_roundw
                case rel => exact ⟨t + 1, by omega, by go_num, by rw [add_u32, add_u32, HNX.out, ← HRG.out]; have h1 := u32_set _ (k := 4) (by rw [HL9.out]; decide) [] (wnth v 3 + on) HV8.out; have h2 := u32_set _ (k := 0) (by rw [List.length_set, HL9.out]; decide) [] (on + tw) h1; rw [List.append_nil] at h2; exact h2, (HK8.out.put _ _).put _ _⟩
                case measure => simp [intOf]; omega
            · obtain rfl : t = 64 := by omega
              rw [show ((64 : Nat) : Int) = (64 : Int) from rfl]
              have HBS : Hid (B < w4.heap.size ∧ w4.heap.size = w3.heap.size + 1) := ⟨by have := HK4.out.size; omega, HS4.out⟩
              obtain ⟨w9, hw9⟩ : ∃ V, V = wr := ⟨wr, rfl⟩
              subst hw9
              have HV9 : Hid (w9.heap[w3.heap.size]? = some (Obj.cells (u32s v ++ []).toArray 64 (0, 0))) := by rw [List.append_nil]; exact HV.out
              have HB9 := Lib.hid (HK.out.block' HB4.out (by omega) (by omega))
              have HK9 := Lib.hid (kept_mid HK4.out HK.out (by have := HK4.out.size; omega))
              have hBV : w3.heap.size ≠ B := by omega
              have HBV := Lib.hid hBV
              clear hBV
              go_wp2
              go_loopw [170] (fun j wr => ∃ i : Nat, i ≤ 8 ∧ j = .int .i64 i ∧ wr.heap[B]? = some (.cells (u32s (addTo st v i) ++ r).toArray T (0, 0)) ∧ Kept2 B B w9 wr) (fun j _ => 8 - (intOf j).toNat)
              case atStart => exact ⟨0, by omega, rfl, HB9.out, Kept2.refl _ _ _⟩
              case round =>
                obtain ⟨i, hi, rfl, hS, hK⟩ := hrel
                have HS' := Lib.hid hS
                have HK' := Lib.hid hK
                clear hS hK
                have HLA := Lib.hid (Sha.addTo_len st v i)
                have HAX : Hid (addTo st v (i + 1) = (addTo st v i).set i (wnth (addTo st v i) i + wnth v i)) := rfl
                by_cases hlt : i < 8
                · generalize addTo st v i = S at *
                  have cs := u32_cell S (k := i) (by rw [HLA.out, HST.out]; exact hlt) r HS'.out
                  have fs : wr.frozen? ⟨B, i, none⟩ = false := by simp [World.frozen?, HS'.out]
                  have cv := u32_cell v (k := i) (by rw [HL8.out]; exact hlt) [] (HK'.out.block' HV9.out HBV.out HBV.out)
                  have p8 : (i : Int) < 8 := by omega
                  go_wp2
                  go_still_tail 11, (by kernel_rfl)
                  change wpList _ _ _ _ _ wr.drew
                  have cs2 : wr.drew.cell? ⟨B, i, none⟩ = some (uw (wnth S i)) := cs
                  have fs2 : wr.drew.frozen? ⟨B, i, none⟩ = false := fs
                  have HS2 : Hid (wr.drew.heap[B]? = some (.cells (u32s S ++ r).toArray T (0, 0)) ∧ Kept2 B B w9 wr.drew) := ⟨HS'.out, HK'.out.drew⟩
                  clear cs fs cv
                  generalize wr.drew = w10 at *
                  go_wp2
                  go_roundw
                  case rel => exact ⟨i + 1, by omega, by go_num, by rw [add_u32, HAX.out]; exact u32_set S (k := i) (by rw [HLA.out, HST.out]; exact hlt) r (wnth S i + wnth v i) HS2.out.1, HS2.out.2.put _ _⟩
                  case measure => simp [intOf]; omega
                · obtain rfl : i = 8 := by omega
                  go_wp2
                  go_end0
                  exact ⟨rfl, by rw [HFD.out, HVE.out]; exact HS'.out, HK9.out.trans HK'.out⟩
end Go.Proofs.YtalbdcpbdedfiaaDoor
