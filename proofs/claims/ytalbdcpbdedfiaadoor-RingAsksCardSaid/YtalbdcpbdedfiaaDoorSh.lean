/- Walks: the reference's padded. -/
import Derived.Test.YtalbdcpbdedfiaaDoorSg
namespace Go.Proofs.YtalbdcpbdedfiaaDoor
open Go.RowKit
open Sha (W wnth feed feeds pad out outB)

def tailTo (n k : Nat) : List UInt8 := (List.range k).map (fun i => UInt8.ofNat (n * 8 / 2 ^ (56 - 8 * i) % 256))
theorem tailTo_len (n k : Nat) : (tailTo n k).length = k := by simp [tailTo]
theorem tailTo_snoc (n k : Nat) : tailTo n (k + 1) = tailTo n k ++ [UInt8.ofNat (n * 8 / 2 ^ (56 - 8 * k) % 256)] := by
  unfold tailTo
  rw [List.range_succ, List.map_append]
  rfl
theorem bytes_push (q : ByteArray) (c : UInt8) (l : List UInt8) (k : Nat) (h : bytesOf q = l ++ List.replicate k 0) (hc : c = 0) : bytesOf (q ++ ⟨#[c]⟩) = l ++ List.replicate (k + 1) 0 := by
  rw [bytesOf_append, h, hc, List.append_assoc, List.replicate_succ']
  rfl
set_option maxRecDepth 100000 in
set_option maxHeartbeats 2000000 in
theorem Padded_any (s : ByteArray) (hs : s.size < 1152921504606846976) (w : World) :
    Calls Tryd.prog 37 #[.string s] w fun e w' => ∃ r : ByteArray, e = .returned (.string r) ∧ bytesOf r = bytesOf s ++ pad s.size ∧ Below w.heap.size w w' := by
  have hq0 : bytesOf (s ++ ⟨#[128]⟩) = (bytesOf s ++ [128]) ++ List.replicate 0 0 := by rw [bytesOf_append]; simp; rfl
  have HQ0 := Lib.hid hq0
  have hz : (119 - s.size % 64) % 64 < 64 := Nat.mod_lt _ (by decide)
  clear hq0
  go_enter Tryd.func37, Tryd.ntmps37
  go_wp2
  go_loop [0] (fun x => ∃ (q : ByteArray) (k : Nat), k ≤ (119 - s.size % 64) % 64 ∧ x = .string q ∧ bytesOf q = (bytesOf s ++ [128]) ++ List.replicate k 0) (fun x => s.size + 128 - strLen x)
  case atStart => exact ⟨_, 0, by omega, rfl, HQ0.out⟩
  case round =>
    obtain ⟨q, k, hk, rfl, hq⟩ := hrel
    have hql : q.size = s.size + 1 + k := by
      rw [← bytesOf_len q, hq, List.length_append, List.length_append, bytesOf_len, List.length_replicate]; rfl
    have HQ := Lib.hid hq
    have HQL := Lib.hid hql
    have hqb : q.size < 2305843009213693952 := by omega
    clear hq hql
    by_cases hlt : k < (119 - s.size % 64) % 64
    · have t1 : ((q.size : Int) % 64 != 56) = true := by rw [bne_iff_ne]; have := HQL.out; omega
      have HNX := Lib.hid (bytes_push q 0 _ k HQ.out rfl)
      go_wp2
      go_round
      case rel => exact ⟨_, k + 1, by omega, rfl, HNX.out⟩
      case measure =>
        have h1 := HQL.out
        have h2 : (q ++ ⟨#[0]⟩ : ByteArray).size = q.size + 1 := by rw [ByteArray.size_append]; rfl
        show s.size + 128 - (q ++ ⟨#[0]⟩ : ByteArray).size < s.size + 128 - q.size
        omega
    · obtain ⟨z, hz'⟩ : ∃ z, (119 - s.size % 64) % 64 = z := ⟨_, rfl⟩
      have hkz : k = z := by omega
      have t1 : ((q.size : Int) % 64 != 56) = false := by rw [bne_eq_false_iff_eq]; have := HQL.out; omega
      have HZ := Lib.hid hz'
      have HKZ := Lib.hid hkz
      clear hkz hz'
      go_wp2
      go_loopw [4, 5] (fun v i wr => ∃ k : Nat, k ≤ 8 ∧ i = .int .i64 (7 - (k : Int)) ∧ wr.ownsRow w.heap.size 5 1 v k (u8s (tailTo s.size k)) ∧ Below w.heap.size w wr) (fun _ i _ => (intOf i + 1).toNat)
      case atStart => exact ⟨0, by omega, rfl, World.ownsRow_nil _ _ _ _, Below.refl _ _⟩
      case round =>
        obtain ⟨j, hj, rfl, hown, hb⟩ := hrel
        have hsz := hb.size
        by_cases hlt8 : j < 8
        · have sh0 : (0 : Int) ≤ 8 * (7 - (j : Int)) := by omega
          go_wp2_with (at_builtin; refine wpList_append1 rfl _ _ _ rfl w.heap.size _ (.int .u8 0) 1 1 uU8s infoU8 rfl (by decide) wr u4 _ _ rfl (by exact hown) _ rfl rfl (by simp [Value.oneCell']) (by omega) (by simp only [maxLen]; omega) hsz ?_; intro v' w4 hown1 hg1 hb1 hne1)
          have HSN : Hid (u8s (tailTo s.size (j + 1)) = u8s (tailTo s.size j) ++ #[Value.int IntKind.u8 ((s.size : Int) * 8 / 2 ^ (8 * (7 - j)) % 256)].toList) := by
            show u8s _ = _
            rw [tailTo_snoc, show 56 - 8 * j = 8 * (7 - j) by omega, pad_val s.size (8 * (7 - j))]
            simp [u8s, u8v]
          go_roundw
          case rel => exact ⟨j + 1, by omega, by go_num, by rw [HSN.out]; exact hown1, hb.trans hb1.bel⟩
          case measure => simp [intOf]; omega
        · obtain rfl : j = 8 := by omega
          obtain ⟨g, c, rfl, hg, _⟩ := own_form hown (by omega)
          have hcv : (convert 82 9 (.slice (some ⟨g, 0, none⟩) 8 c)).run Tryd.prog wr = .ok (.string ⟨(tailTo s.size 8).toArray⟩) wr := by
            have h := run_convert_bytes_back (P := Tryd.prog) wr 82 9 5 ⟨g, 0, none⟩ c (tailTo s.size 8) uU8s uU8 uStr (fun j hj => by
              have ha : (⟨g, 0, none⟩ : Addr).add j = ⟨g, j, none⟩ := by unfold Addr.add; split <;> simp_all
              rw [ha, World.ownsRow.cellAt hown j (by rw [tailTo_len] at hj; omega)]
              simp only [u8s, List.getElem?_map, List.getElem?_eq_getElem hj, Option.map_some]
              rfl)
            rw [tailTo_len] at h
            exact h
          clear hown
          generalize hts : (⟨(tailTo s.size 8).toArray⟩ : ByteArray) = ts at *
          have HTS := Lib.hid hts
          have htl : ts.size = 8 := by rw [← hts]; exact tailTo_len s.size 8
          clear hts
          go_wp2
          go_ret
          exact ⟨_, rfl, by rw [bytesOf_append, HQ.out, HKZ.out, ← HZ.out, ← HTS.out, List.append_assoc, List.append_assoc]; simp [Sha.pad, bytesOf, tailTo], hb⟩
end Go.Proofs.YtalbdcpbdedfiaaDoor
