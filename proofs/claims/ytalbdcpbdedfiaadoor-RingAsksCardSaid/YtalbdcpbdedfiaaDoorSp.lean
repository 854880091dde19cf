/- Plain law: the sums of layer 1, in words of 32 bits and lists alone. -/
namespace Go.Proofs.YtalbdcpbdedfiaaDoor.Sha

abbrev W := BitVec 32
def rotr (x : W) (n : Nat) : W := (x >>> n) ||| (x <<< (32 - n))
def sg0 (x : W) : W := rotr x 7 ^^^ rotr x 18 ^^^ (x >>> 3)
def sg1 (x : W) : W := rotr x 17 ^^^ rotr x 19 ^^^ (x >>> 10)
def bs0 (x : W) : W := rotr x 2 ^^^ rotr x 13 ^^^ rotr x 22
def bs1 (x : W) : W := rotr x 6 ^^^ rotr x 11 ^^^ rotr x 25
def ch (e f g : W) : W := (e &&& f) ^^^ (~~~e &&& g)
def maj (a b c : W) : W := (a &&& b) ^^^ (a &&& c) ^^^ (b &&& c)
/-- the k-th word of a list -/
def wnth (l : List W) (k : Nat) : W := l.getD k 0
/-- the words of a block, behind n steps -/
def sched (m : List W) : Nat → List W
  | 0 => m
  | n + 1 => sched m n ++ [wnth (sched m n) n + wnth (sched m n) (n + 9) + sg0 (wnth (sched m n) (n + 1)) + sg1 (wnth (sched m n) (n + 14))]
theorem sched_len (m : List W) (h : m.length = 16) : ∀ n, (sched m n).length = n + 16
  | 0 => by rw [sched, h]
  | n + 1 => by
    have := sched_len m h n
    simp [sched, this]
def one (v : List W) (k w : W) : W := wnth v 7 + bs1 (wnth v 4) + ch (wnth v 4) (wnth v 5) (wnth v 6) + k + w
def two (v : List W) : W := bs0 (wnth v 0) + maj (wnth v 0) (wnth v 1) (wnth v 2)
def rnd (v : List W) (k w : W) : List W := [one v k w + two v, wnth v 0, wnth v 1, wnth v 2, wnth v 3 + one v k w, wnth v 4, wnth v 5, wnth v 6]
theorem rnd_len (v : List W) (k w : W) : (rnd v k w).length = 8 := rfl
def rnds (v ks ws : List W) : Nat → List W
  | 0 => v
  | t + 1 => rnd (rnds v ks ws t) (wnth ks t) (wnth ws t)
theorem rnds_len (v ks ws : List W) (h : v.length = 8) : ∀ t, (rnds v ks ws t).length = 8
  | 0 => h
  | _ + 1 => rnd_len _ _ _
def addTo (s v : List W) : Nat → List W
  | 0 => s
  | i + 1 => (addTo s v i).set i (wnth (addTo s v i) i + wnth v i)
theorem addTo_len (s v : List W) : ∀ i, (addTo s v i).length = s.length
  | 0 => rfl
  | i + 1 => by rw [addTo, List.length_set, addTo_len s v i]
/-- a word of four bytes -/
def be (l : List UInt8) (i : Nat) : W := BitVec.ofNat 32 ((l.getD i 0).toNat * 16777216 + (l.getD (i + 1) 0).toNat * 65536 + (l.getD (i + 2) 0).toNat * 256 + (l.getD (i + 3) 0).toNat)
def words (l : List UInt8) : Nat → List W
  | 0 => []
  | i + 1 => words l i ++ [be l (4 * i)]
theorem words_len (l : List UInt8) : ∀ i, (words l i).length = i
  | 0 => rfl
  | i + 1 => by rw [words, List.length_append, words_len l i]; rfl
/-- a block taken in -/
def feed (ks s : List W) (b : List UInt8) : List W := addTo s (rnds s ks (sched (words b 16) 48) 64) 8
theorem feed_len (ks s : List W) (b : List UInt8) (h : s.length = 8) : (feed ks s b).length = 8 := by rw [feed, addTo_len, h]
/-- n blocks taken in -/
def feeds (ks s : List W) (b : List UInt8) : Nat → List W
  | 0 => s
  | n + 1 => feed ks (feeds ks s b n) ((b.drop (64 * n)).take 64)
theorem feeds_len (ks s : List W) (b : List UInt8) (h : s.length = 8) : ∀ n, (feeds ks s b n).length = 8
  | 0 => h
  | n + 1 => feed_len _ _ _ (feeds_len ks s b h n)
theorem feeds_append (ks s : List W) (a b : List UInt8) : ∀ n, 64 * n ≤ a.length → feeds ks s (a ++ b) n = feeds ks s a n
  | 0, _ => rfl
  | n + 1, h => by
    rw [feeds, feeds, feeds_append ks s a b n (by omega), List.drop_append_of_le_length (by omega), List.take_append_of_le_length (by rw [List.length_drop]; omega)]
theorem feeds_add (ks s : List W) (b : List UInt8) (n : Nat) : ∀ m, feeds ks s b (n + m) = feeds ks (feeds ks s b n) (b.drop (64 * n)) m
  | 0 => rfl
  | m + 1 => by
    show feed ks (feeds ks s b (n + m)) _ = _
    rw [feeds_add ks s b n m, feeds, List.drop_drop, show 64 * n + 64 * m = 64 * (n + m) by omega]; rfl
/-- what stands behind a text -/
def pad (n : Nat) : List UInt8 := [128] ++ List.replicate ((119 - n % 64) % 64) 0 ++ (List.range 8).map (fun i => UInt8.ofNat (n * 8 / 2 ^ (56 - 8 * i) % 256))
theorem pad_len (n : Nat) : (pad n).length = 9 + (119 - n % 64) % 64 := by simp [pad]; omega
theorem pad_whole (n : Nat) : (n + (pad n).length) % 64 = 0 := by rw [pad_len]; omega
/-- the byte i of a state -/
def outB (s : List W) (i : Nat) : UInt8 := UInt8.ofNat ((wnth s (i / 4) >>> (24 - 8 * (i % 4))).toNat % 256)
def out (s : List W) : List UInt8 := (List.range 32).map (outB s)
/-- a text's sum -/
def sum (ks s0 : List W) (l : List UInt8) : List UInt8 := out (feeds ks s0 (l ++ pad l.length) ((l.length + (pad l.length).length) / 64))
/-- begun with a text, ended with what stands behind it: the same -/
theorem sum_split (ks s0 : List W) (l : List UInt8) :
    feeds ks (feeds ks s0 l (l.length / 64)) (l.drop (64 * (l.length / 64)) ++ pad l.length) ((l.length - 64 * (l.length / 64) + (pad l.length).length) / 64) = feeds ks s0 (l ++ pad l.length) ((l.length + (pad l.length).length) / 64) := by
  have h1 : 64 * (l.length / 64) ≤ l.length := Nat.mul_div_le _ _
  have e := feeds_add ks s0 (l ++ pad l.length) (l.length / 64) ((l.length - 64 * (l.length / 64) + (pad l.length).length) / 64)
  rw [feeds_append ks s0 l _ _ h1, List.drop_append_of_le_length h1] at e
  rw [← e]
  congr 1
  omega
/-! ### words by shifts and sums -/
theorem or_add (i a b : Nat) (h : b < 2 ^ i) : a * 2 ^ i ||| b = a * 2 ^ i + b := by
  rw [Nat.mul_comm, ← Nat.two_pow_add_eq_or_of_lt h]
theorem be_nat (a b c d : Nat) (hb : b < 256) (hc : c < 256) (hd : d < 256) : a * 16777216 ||| b * 65536 ||| c * 256 ||| d = a * 16777216 + b * 65536 + c * 256 + d := by
  have e1 : a * 16777216 ||| b * 65536 = (a * 256 + b) * 65536 := by
    have := or_add 24 a (b * 65536) (by omega)
    simp only [Nat.reducePow] at this
    rw [this]; omega
  have e2 : (a * 256 + b) * 65536 ||| c * 256 = ((a * 256 + b) * 256 + c) * 256 := by
    have := or_add 16 (a * 256 + b) (c * 256) (by omega)
    simp only [Nat.reducePow] at this
    rw [this]; omega
  have e3 : ((a * 256 + b) * 256 + c) * 256 ||| d = (((a * 256 + b) * 256 + c) * 256) + d := by
    have := or_add 8 ((a * 256 + b) * 256 + c) d (by omega)
    simp only [Nat.reducePow] at this
    rw [this]
  rw [e1, e2, e3]; omega
end Go.Proofs.YtalbdcpbdedfiaaDoor.Sha
