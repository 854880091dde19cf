/- General words: what a call leaves of the world ('Bel'), rows of numbers, arrays of numbers. No program. -/
import Derived.WalkKit
import Derived.WalkSpells
import Derived.WalkLawsBesides
import Derived.Maps.AppendAt
import Derived.Lib.Hide
import Derived.Deep.LoopGhost
import Derived.Handy
import Derived.Sort.Grow
import Derived.Deep.Draws
namespace Go.Proofs.YtalbdcpbdedfiaaDoor
open Go.RowKit

/-! ### draws are never given back -/
theorem ask_drawn {α : Type} : ∀ (q : Ask α) (w : World), w.drawn ≤ (w.ask q).2.drawn
  | .done _, w => by simp [World.ask]
  | .ask what range k, w => by
    unfold World.ask
    simp only
    split
    · exact ask_drawn _ w
    · have := ask_drawn (k ((Question.extern what range).cut (w.tape w.drawn (Question.extern what range)))) { w with drawn := w.drawn + 1 }
      simp only at this
      omega
theorem sys_drawn (w : World) (c : Sys) : w.drawn ≤ (w.sys c).2.drawn := by
  have := ask_drawn (Kernel.perform c w.os) w
  unfold World.sys
  split
  · exact Nat.le_refl _
  · rename_i r os w' h
    rw [h] at this
    exact this
theorem farStore_drawn {P : Program} {w : World} {a : Addr} {v : Value} {at_ : Bool} {w' : World} {l : List Addr} (h : w.farStore P a v at_ = .ok (w', l)) : w'.drawn = w.drawn := by
  unfold World.farStore at h
  split at h
  · rename_i b u _
    split at h
    · rename_i r hr
      injection h with h
      subst h
      unfold World.viewStore at hr
      simp only [bind, Except.bind, pure, Except.pure] at hr
      repeat' (split at hr <;> try (cases hr; done))
      all_goals first | (injection hr with hr; injection hr with h1 h2; rw [← h1]) | skip
    · cases h
  · cases h
theorem run_drawn {α : Type} (P : Program) : ∀ (s : Sem α) (w : World) (a : α) (w' : World), s.run P w = .ok a w' → w.drawn ≤ w'.drawn := by
  intro s
  induction s with
  | pure a => intro w b w' h; simp only [Sem.run] at h; injection h with _ h; rw [h]; exact Nat.le_refl _
  | load m a k ih =>
    intro w b w' h
    simp only [Sem.run] at h
    split at h
    · exact ih _ _ _ _ h
    · split at h
      · exact ih _ _ _ _ h
      · cases h
  | store m a v k ih =>
    intro w b w' h
    have aux : ∀ v : Value, (match w.cell? a with
        | some _ => if w.frozen? a then Result.halt (.unsupported (.unsafePointer "a write to bytes that a string shares")) w else k.run P (w.setCell a v)
        | none => match w.farStore P a v (m == Mode.atomic) with
          | .ok (w, _) => k.run P w
          | .error h => .halt h w) = .ok b w' → w.drawn ≤ w'.drawn := by
      intro v h
      split at h
      · split at h
        · cases h
        · exact ih (w.setCell a v) _ _ h
      · split at h
        · rename_i w2 l hf
          have := farStore_drawn hf
          have := ih _ _ _ h
          omega
        · cases h
    cases v <;> first | exact aux _ h | exact absurd h (by simp [Sem.run])
  | new o k ih => intro w b w' h; simp only [Sem.run] at h; exact ih _ { w with heap := w.heap.push o } _ _ h
  | shape r k ih => intro w b w' h; simp only [Sem.run] at h; exact ih _ _ _ _ h
  | freeze a n k ih =>
    intro w b w' h
    simp only [Sem.run] at h
    have := ih _ _ _ h
    unfold World.freeze at this
    split at this <;> exact this
  | frozen a k ih => intro w b w' h; simp only [Sem.run] at h; exact ih _ _ _ _ h
  | getObj r k ih =>
    intro w b w' h
    simp only [Sem.run] at h
    split at h
    · cases h
    · exact ih _ _ _ _ h
    · cases h
  | setObj r o k ih =>
    intro w b w' h
    simp only [Sem.run] at h
    split at h
    · cases h
    · exact ih { w with heap := w.heap.setIfInBounds r o } _ _ h
    · cases h
  | choose q k ih =>
    intro w b w' h
    simp only [Sem.run] at h
    split at h
    · exact ih _ _ _ _ h
    · have := ih _ _ _ _ h
      simp only at this
      omega
  | sys c k ih =>
    intro w b w' h
    simp only [Sem.run] at h
    have := ih _ _ _ _ h
    have := sys_drawn w c
    omega
  | program k ih => intro w b w' h; simp only [Sem.run] at h; exact ih _ _ _ _ h
  | mark m k ih => intro w b w' h; simp only [Sem.run] at h; exact ih _ _ _ h
  | halt h0 => intro w b w' h; simp only [Sem.run] at h; cases h

/-! ### 'Bel B w w'': below block B nothing has turned; draws are not given back -/
structure Bel (B : Nat) (w w' : World) : Prop where
  bel : Below B w w'
  drawn : w.drawn ≤ w'.drawn
theorem Bel.refl (B : Nat) (w : World) : Bel B w w := ⟨Below.refl _ _, Nat.le_refl _⟩
theorem Bel.trans {B : Nat} {a b c : World} (h : Bel B a b) (k : Bel B b c) : Bel B a c := ⟨h.bel.trans k.bel, Nat.le_trans h.drawn k.drawn⟩
theorem Bel.mono {B B' : Nat} {w w' : World} (h : Bel B w w') (hB : B' ≤ B) : Bel B' w w' := ⟨h.bel.mono hB, h.drawn⟩
theorem Bel.size {B : Nat} {w w' : World} (h : Bel B w w') : w.heap.size ≤ w'.heap.size := h.bel.size
theorem Bel.drew {B : Nat} {a w : World} (h : Bel B a w) : Bel B a w.drew := ⟨h.bel.drew, Nat.le_trans h.drawn (Nat.le_succ _)⟩
theorem Bel.drewN {B : Nat} {a w : World} (h : Bel B a w) (n : Nat) : Bel B a (w.drewN n) :=
  ⟨⟨h.bel.os, h.bel.tape, h.bel.output, h.bel.size, h.bel.block⟩, Nat.le_trans h.drawn (Nat.le_add_right _ _)⟩
theorem Bel.alloc {B : Nat} {a w : World} (h : Bel B a w) (hB : B ≤ w.heap.size) (o : Obj) : Bel B a (w.alloc o) := ⟨h.bel.alloc hB o, h.drawn⟩
theorem Bel.setCell {B : Nat} {a w : World} (h : Bel B a w) {p : Addr} (hp : B ≤ p.block) (u : Value) : Bel B a (w.setCell p u) := ⟨h.bel.setCell hp u, h.drawn⟩
theorem Bel.cell {B : Nat} {w w' : World} (h : Bel B w w') {p : Addr} (hp : p.block < B) : w'.cell? p = w.cell? p := h.bel.cell hp
theorem Bel.frozen {B : Nat} {w w' : World} (h : Bel B w w') {p : Addr} (hp : p.block < B) : w'.frozen? p = w.frozen? p := h.bel.frozen hp
theorem Bel.block {B : Nat} {w w' : World} (h : Bel B w w') {k : Nat} (hk : k < B) : w'.heap[k]? = w.heap[k]? := h.bel.block k hk
/-- a callee's own world on top of ours -/
theorem Bel.then {B : Nat} {w w1 w2 : World} (h : Bel B w w1) (hB : B ≤ w1.heap.size) (k : Bel w1.heap.size w1 w2) : Bel B w w2 := h.trans (k.mono hB)
theorem Bel.then' {w w1 w2 : World} (h : Bel w.heap.size w w1) (k : Bel w1.heap.size w1 w2) : Bel w.heap.size w w2 := h.then h.size k
theorem Bel.alloc' {w w1 : World} (h : Bel w.heap.size w w1) (o : Obj) : Bel w.heap.size w (w1.alloc o) := h.alloc h.size o
theorem Bel.block' {w w' : World} (h : Bel w.heap.size w w') {k : Nat} {o : Obj} (hk : w.heap[k]? = some o) : w'.heap[k]? = some o := by
  rw [h.block (Array.getElem?_eq_some_iff.1 hk).1]; exact hk
theorem Bel.cell' {w w' : World} (h : Bel w.heap.size w w') {p : Addr} {v : Value} (hc : w.cell? p = some v) : w'.cell? p = some v := by
  rw [h.cell (World.block_lt_of_cell? w p hc)]; exact hc
/-- what was left is the old world, new blocks behind it -/
theorem Bel.grow {w w' : World} (h : Bel w.heap.size w w') : ∃ q os, w' = Go.Sort.grow (w.drewN q) os := by
  refine ⟨w'.drawn - w.drawn, w'.heap.extract w.heap.size w'.heap.size, ?_⟩
  have h1 : w'.heap = w.heap ++ w'.heap.extract w.heap.size w'.heap.size := by
    apply Array.ext
    · simp; have := h.size; omega
    · intro i hi1 hi2
      by_cases hlt : i < w.heap.size
      · have := h.block hlt
        rw [Array.getElem?_eq_getElem hi1, Array.getElem?_eq_getElem hlt] at this
        rw [Array.getElem_append_left hlt]
        exact Option.some.inj this
      · rw [Array.getElem_append_right (by omega)]
        simp
        congr 1
        omega
  have h2 := h.bel.os
  have h3 := h.bel.tape
  have h4 := h.bel.output
  have h5 := h.drawn
  cases w'
  cases w
  simp only [Go.Sort.grow, World.drewN] at *
  subst h2 h3 h4
  simp only [World.mk.injEq, true_and, and_true]
  exact ⟨h1, by omega⟩

/-! ### rows of numbers -/
def ints (xs : List Int) : List Value := xs.map (Value.int .i64)
/-- the k-th number of a list -/
def nth (xs : List Int) (k : Nat) : Int := xs.getD k 0
theorem ints_length (xs : List Int) : (ints xs).length = xs.length := by simp [ints]
theorem ints_append (xs ys : List Int) : ints (xs ++ ys) = ints xs ++ ints ys := by simp [ints]
theorem ints_get (xs : List Int) (i : Nat) (hi : i < xs.length) : (ints xs)[i]? = some (.int .i64 (nth xs i)) := by
  simp [ints, nth, List.getElem?_eq_getElem hi, List.getD_eq_getElem?_getD]
theorem ints_one (y : Int) : ints [y] = [.int .i64 y] := rfl
theorem nth_append_left (xs ys : List Int) (i : Nat) (h : i < xs.length) : nth (xs ++ ys) i = nth xs i := by
  simp [nth, List.getD_eq_getElem?_getD, List.getElem?_append_left h]

/-- a row of numbers that the call owns, in blocks from B on (E: the number of the type int) -/
def OwnI (E B : Nat) (w : World) (v : Value) (xs : List Int) : Prop := w.ownsRow B E 1 v xs.length (ints xs)
/-- a slice of numbers that can be read -/
def RdI (w : World) (v : Value) (xs : List Int) : Prop :=
  ∃ A c, v = .slice A xs.length c ∧ xs.length ≤ maxLen ∧ xs.length ≤ c ∧ (0 < xs.length → ∃ b off, A = some ⟨b, off, none⟩ ∧ ∀ j, j < xs.length → w.cell? ⟨b, off + j, none⟩ = some (.int .i64 (nth xs j)))

theorem OwnI.nil (E B : Nat) (w : World) : OwnI E B w (.slice none 0 0) [] := World.ownsRow_nil _ _ _ _
theorem OwnI.kept {E B : Nat} {w w' : World} {v : Value} {xs : List Int} {row : Option Nat} (h : OwnI E B w v xs) (hg : w.grownBy w' row) (hne : v.ownBlock = none ∨ v.ownBlock ≠ row) : OwnI E B w' v xs := World.ownsRow.kept h hg hne
theorem grownBy_of_below {w w1 : World} (h : Below w.heap.size w w1) (row : Option Nat) : w.grownBy w1 row := ⟨h.os, h.tape, h.output, h.size, fun i hi _ => h.block i hi⟩
theorem OwnI.below {E B : Nat} {w w' : World} {v : Value} {xs : List Int} (h : OwnI E B w v xs) (hb : Below w.heap.size w w') : OwnI E B w' v xs :=
  h.kept (grownBy_of_below hb none) (by cases v.ownBlock <;> simp)
theorem OwnI.alloc {E B : Nat} {w : World} {v : Value} {xs : List Int} (h : OwnI E B w v xs) (o : Obj) : OwnI E B (w.alloc o) v xs := World.ownsRow.alloc h o
theorem OwnI.mono {E B B' : Nat} {w : World} {v : Value} {xs : List Int} (h : OwnI E B w v xs) (hB : B' ≤ B) : OwnI E B' w v xs := by
  obtain ⟨h1, h2⟩ := h
  refine ⟨h1, ?_⟩
  rcases h2 with h2 | ⟨g, cap, cur, e, hb, r⟩
  · exact .inl h2
  · exact .inr ⟨g, cap, cur, e, by omega, r⟩
theorem ownsRow_mono {e size n B B' : Nat} {w : World} {v : Value} {xs : List Value} (h : w.ownsRow B e size v n xs) (hB : B' ≤ B) : w.ownsRow B' e size v n xs := by
  obtain ⟨h1, h2⟩ := h
  refine ⟨h1, ?_⟩
  rcases h2 with h2 | ⟨g, cap, cur, e, hb, r⟩
  · exact .inl h2
  · exact .inr ⟨g, cap, cur, e, by omega, r⟩
theorem OwnI.drewN {E B : Nat} {w : World} {v : Value} {xs : List Int} (h : OwnI E B w v xs) (n : Nat) : OwnI E B (w.drewN n) v xs := h
theorem OwnI.cut {E B c : Nat} {A : Option Addr} {w : World} {xs : List Int} (h : OwnI E B w (.slice A xs.length c) xs) (k : Nat) (hk : k ≤ xs.length) : OwnI E B w (.slice A k c) (xs.take k) := by
  have hl : (xs.take k).length = k := by simp; omega
  rcases h.2 with ⟨e, h0⟩ | ⟨g, cap, cur, e, hb, hh, hn, hm, hs, ht⟩
  · injection e with e1 e2 e3
    subst e1 e3
    obtain rfl : k = 0 := by omega
    exact OwnI.nil _ _ _
  · injection e with e1 e2 e3
    subst e1 e3
    unfold OwnI
    rw [hl]
    refine ⟨by simp [ints_length, hl], .inr ⟨g, c, cur, rfl, hb, hh, by omega, hm, hs, ?_⟩⟩
    have : (cur.toList.take (xs.length * 1)).take k = (ints xs).take k := by rw [ht]
    rw [List.take_take, Nat.mul_one, Nat.min_eq_left hk] at this
    rw [Nat.mul_one, this]
    simp [ints]
theorem take_int (xs : List Int) (n : Int) : xs.take (min n xs.length).toNat = xs.take n.toNat := by
  rcases Int.le_total n xs.length with h | h
  · rw [Int.min_eq_left h]
  · rw [Int.min_eq_right h, Int.toNat_natCast, List.take_of_length_le (Nat.le_refl _), List.take_of_length_le (by omega)]
theorem OwnI.rd {E B : Nat} {w : World} {v : Value} {xs : List Int} (h : OwnI E B w v xs) : RdI w v xs := by
  rcases h.2 with ⟨rfl, h0⟩ | ⟨g, cap, cur, rfl, hb, hh, hn, hm, hs, ht⟩
  · refine ⟨none, 0, by rw [h0], by omega, by omega, fun h => by omega⟩
  · refine ⟨_, cap, rfl, by omega, hn, fun _ => ⟨g, 0, rfl, fun j hj => ?_⟩⟩
    have h2 := World.ownsRow.cells h (g := g) rfl j _ (ints_get xs j hj)
    have ha : (⟨g, 0, none⟩ : Addr).add j = ⟨g, 0 + j, none⟩ := by unfold Addr.add; split <;> simp_all
    rwa [ha] at h2
theorem RdI.below {w w' : World} {v : Value} {xs : List Int} (h : RdI w v xs) (hb : Below w.heap.size w w') : RdI w' v xs := by
  obtain ⟨A, c, rfl, hm, hc, hr⟩ := h
  refine ⟨A, c, rfl, hm, hc, fun h0 => ?_⟩
  obtain ⟨b, off, e, h⟩ := hr h0
  exact ⟨b, off, e, fun j hj => (hb.cell (p := ⟨b, off + j, none⟩) (World.block_lt_of_cell? w _ (h j hj))).trans (h j hj)⟩
theorem RdI.at_ {w : World} {A : Option Addr} {n c : Nat} {xs : List Int} (h : RdI w (.slice A n c) xs) (k : Nat) (hk : k < xs.length) : ∃ b off, A = some ⟨b, off, none⟩ ∧ w.cell? ⟨b, off + k, none⟩ = some (.int .i64 (nth xs k)) := by
  obtain ⟨A', c', e, hm, hc, hr⟩ := h
  injection e with e1 _ _
  subst e1
  obtain ⟨b, off, rfl, hcell⟩ := hr (by omega)
  exact ⟨b, off, rfl, hcell k hk⟩
theorem RdI.alloc {w : World} {v : Value} {xs : List Int} (h : RdI w v xs) (o : Obj) : RdI (w.alloc o) v xs := h.below ((Below.refl _ _).alloc (Nat.le_refl _) o)
theorem RdI.le {w : World} {v : Value} {xs : List Int} (h : RdI w v xs) : xs.length ≤ 9223372036854775807 := by
  obtain ⟨_, _, _, hm, _⟩ := h
  simpa [maxLen] using hm

/-- a row of numbers in a block of the call's own, at whatever place in it -/
def OwnAt (E B : Nat) (w : World) (v : Value) (xs : List Int) : Prop :=
  (v = .slice none 0 0 ∧ xs = []) ∨ ∃ g off cap cur, v = .slice (some ⟨g, off, none⟩) xs.length cap ∧ B ≤ g ∧ w.heap[g]? = some (.cells cur E (0, 0)) ∧ xs.length ≤ cap ∧ cap ≤ maxLen ∧ ∀ j, j < xs.length → cur[off + j]? = some (.int .i64 (nth xs j))
theorem OwnAt.nil (E B : Nat) (w : World) : OwnAt E B w (.slice none 0 0) [] := .inl ⟨rfl, rfl⟩
theorem OwnI.at_ {E B : Nat} {w : World} {v : Value} {xs : List Int} (h : OwnI E B w v xs) : OwnAt E B w v xs := by
  rcases h.2 with ⟨e, h0⟩ | ⟨g, cap, cur, e, hb, hh, hn, hm, hs, ht⟩
  · exact .inl ⟨e, List.eq_nil_of_length_eq_zero h0⟩
  · refine .inr ⟨g, 0, cap, cur, e, hb, hh, hn, hm, fun j hj => ?_⟩
    have h2 := ints_get xs j hj
    rw [← ht, List.getElem?_take_of_lt (by omega), Array.getElem?_toList] at h2
    rw [Nat.zero_add]; exact h2
theorem OwnAt.rd {E B : Nat} {w : World} {v : Value} {xs : List Int} (h : OwnAt E B w v xs) : RdI w v xs := by
  rcases h with ⟨rfl, rfl⟩ | ⟨g, off, cap, cur, rfl, hb, hh, hn, hm, hc⟩
  · exact ⟨none, 0, rfl, by simp, by simp, fun h => by simp at h⟩
  · exact ⟨_, cap, rfl, by omega, hn, fun _ => ⟨g, off, rfl, fun j hj => by rw [cell_of_row _ _ _ _ _ _ hh]; exact hc j hj⟩⟩
theorem OwnAt.kept {E B : Nat} {w w' : World} {v : Value} {xs : List Int} {row : Option Nat} (h : OwnAt E B w v xs) (hg : w.grownBy w' row) (hne : v.ownBlock = none ∨ v.ownBlock ≠ row) : OwnAt E B w' v xs := by
  rcases h with h | ⟨g, off, cap, cur, e, hb, hh, r⟩
  · exact .inl h
  · refine .inr ⟨g, off, cap, cur, e, hb, ?_, r⟩
    rw [hg.block g (Array.getElem?_eq_some_iff.1 hh).1 ?_]; exact hh
    subst e
    rcases hne with hne | hne
    · simp [Value.ownBlock] at hne
    · simpa [Value.ownBlock] using hne
theorem OwnAt.below {E B : Nat} {w w' : World} {v : Value} {xs : List Int} (h : OwnAt E B w v xs) (hb : Below w.heap.size w w') : OwnAt E B w' v xs :=
  h.kept (grownBy_of_below hb none) (by cases v.ownBlock <;> simp)
theorem OwnAt.mono {E B B' : Nat} {w : World} {v : Value} {xs : List Int} (h : OwnAt E B w v xs) (hB : B' ≤ B) : OwnAt E B' w v xs := by
  rcases h with h | ⟨g, off, cap, cur, e, hb, r⟩
  · exact .inl h
  · exact .inr ⟨g, off, cap, cur, e, by omega, r⟩
theorem OwnAt.lt {E B : Nat} {w : World} {v : Value} {xs : List Int} (h : OwnAt E B w v xs) (k : Nat) (hk : v.ownBlock = some k) : B ≤ k ∧ k < w.heap.size := by
  rcases h with ⟨rfl, _⟩ | ⟨g, off, cap, cur, rfl, hb, hh, r⟩
  · simp [Value.ownBlock] at hk
  · have e : g = k := by simpa [Value.ownBlock] using hk
    subst e
    exact ⟨hb, (Array.getElem?_eq_some_iff.1 hh).1⟩
/-- 's[k:]' -/
theorem OwnAt.from_ {E B : Nat} {w : World} {g off cap : Nat} {xs : List Int} (h : OwnAt E B w (.slice (some ⟨g, off, none⟩) xs.length cap) xs) (k : Nat) (hk : k ≤ xs.length) :
    OwnAt E B w (.slice (if cap = k then some ⟨g, off, none⟩ else some ⟨g, off + k, none⟩) (xs.length - k) (cap - k)) (xs.drop k) := by
  rcases h with ⟨e, _⟩ | ⟨g', off', cap', cur, e, hb, hh, hn, hm, hc⟩
  · injection e with e1 _ _; cases e1
  · injection e with e1 _ e3
    injection e1 with e1
    injection e1 with e1 e2
    subst e1 e2 e3
    refine .inr ?_
    by_cases hck : cap = k
    · rw [if_pos hck]
      exact ⟨g, off, cap - k, cur, by rw [List.length_drop], hb, hh, by simp; omega, by omega, fun j hj => by simp at hj; omega⟩
    · rw [if_neg hck]
      refine ⟨g, off + k, cap - k, cur, by rw [List.length_drop], hb, hh, by simp; omega, by omega, fun j hj => ?_⟩
      simp at hj
      rw [Nat.add_assoc, hc (k + j) (by omega)]
      simp [nth, List.getD_eq_getElem?_getD]
theorem Bel.grown {B : Nat} {a w w' : World} {row : Option Nat} (h : Bel B a w) (hg : w.grownBy w' row) (hd : w.drawn ≤ w'.drawn) (hB : B ≤ w.heap.size) (hr : ∀ k, row = some k → B ≤ k) : Bel B a w' :=
  ⟨h.bel.grown hg hB hr, Nat.le_trans h.drawn hd⟩

/-- all but the blocks a and b is as it was -/
structure Kept2 (a b : Nat) (w w' : World) : Prop where
  os : w'.os = w.os
  tape : w'.tape = w.tape
  output : w'.output = w.output
  size : w.heap.size ≤ w'.heap.size
  block : ∀ k, k < w.heap.size → k ≠ a → k ≠ b → w'.heap[k]? = w.heap[k]?
theorem Kept2.refl (a b : Nat) (w : World) : Kept2 a b w w := ⟨rfl, rfl, rfl, Nat.le_refl _, fun _ _ _ _ => rfl⟩
theorem Kept2.trans {a b : Nat} {x y z : World} (h : Kept2 a b x y) (k : Kept2 a b y z) : Kept2 a b x z :=
  ⟨k.os.trans h.os, k.tape.trans h.tape, k.output.trans h.output, Nat.le_trans h.size k.size, fun i hi h1 h2 => (k.block i (Nat.lt_of_lt_of_le hi h.size) h1 h2).trans (h.block i hi h1 h2)⟩
theorem Kept2.of_grown {a b : Nat} {w w' : World} (h : w.grownBy w' (some a)) : Kept2 a b w w' := ⟨h.os, h.tape, h.output, h.size, fun k hk h1 _ => h.block k hk (by simpa using h1)⟩
theorem Kept2.of_below {a b : Nat} {w w' : World} (h : Below w.heap.size w w') : Kept2 a b w w' := ⟨h.os, h.tape, h.output, h.size, fun k hk _ _ => h.block k hk⟩
theorem Kept2.setCell {a b : Nat} {w w' : World} (h : Kept2 a b w w') (j : Nat) (u : Value) : Kept2 a b w (w'.setCell ⟨b, j, none⟩ u) :=
  h.trans ⟨rfl, rfl, rfl, by simp [World.setCell], fun k _ _ h2 => Below.heap_setCell _ _ _ _ h2⟩
theorem Kept2.below {a b B : Nat} {w w' : World} (h : Kept2 a b w w') (hB : B ≤ w.heap.size) (ha : B ≤ a) (hb : B ≤ b) : Below B w w' :=
  ⟨h.os, h.tape, h.output, h.size, fun k hk => h.block k (by omega) (by omega) (by omega)⟩
theorem Kept2.grown {a b : Nat} {w w' : World} (h : Kept2 a b w w') {c : Nat} (hc : w.heap.size ≤ c) (row : Option Nat) {w2 : World} (hg : w'.grownBy w2 row) (hr : ∀ k, row = some k → c ≤ k) : Kept2 a b w w2 :=
  ⟨hg.os.trans h.os, hg.tape.trans h.tape, hg.output.trans h.output, Nat.le_trans h.size hg.size, fun k hk h1 h2 => (hg.block k (Nat.lt_of_lt_of_le hk h.size) (fun e => by have := hr k e.symm; omega)).trans (h.block k hk h1 h2)⟩

theorem Kept2.block' {a b : Nat} {w w' : World} (h : Kept2 a b w w') {k : Nat} {o : Obj} (hk : w.heap[k]? = some o) (h1 : k ≠ a) (h2 : k ≠ b) : w'.heap[k]? = some o :=
  (h.block k (Array.getElem?_eq_some_iff.1 hk).1 h1 h2).trans hk
theorem Kept2.swap {a b : Nat} {w w' : World} (h : Kept2 a b w w') : Kept2 b a w w' := ⟨h.os, h.tape, h.output, h.size, fun k hk h1 h2 => h.block k hk h2 h1⟩
theorem Kept2.one {a b : Nat} {w w' : World} (h : Kept2 a a w w') : Kept2 a b w w' := ⟨h.os, h.tape, h.output, h.size, fun k hk h1 _ => h.block k hk h1 h1⟩
theorem OwnI.kept2 {E B a b : Nat} {w w' : World} {v : Value} {xs : List Int} (h : OwnI E B w v xs) (hk : Kept2 a b w w') (ha : a < B) (hb : b < B) : OwnI E B w' v xs := by
  obtain ⟨h1, h2⟩ := h
  refine ⟨h1, ?_⟩
  rcases h2 with h2 | ⟨g, cap, cur, e, hg, hh, r⟩
  · exact .inl h2
  · exact .inr ⟨g, cap, cur, e, hg, hk.block' hh (by omega) (by omega), r⟩

/-! ### append -/
section
variable {P : Program}
/-- 'append(s, x)', one element of 'size' cells: what 'buildSlice' laid is the last block. -/
theorem wpList_append1 {ops : Array Oper} {rest : List Oper} {o : Oper} {a : Act} {Q : Exit → Act → World → Prop} (hgd : o.guard = none) (s x : Operand) (t : TypeId)
    (ho : o.op = .call { callee := .builtin .append, args := #[s, x], argTypes := #[t, t] })
    (base : Nat) (e : TypeId) (z : Value) (size bytes : Nat) (ht : P.underlying t = some (.slice e)) (hE : (P.info? e).map (fun i => (i.zero, i.size, i.bytes)) = some (some z, size, bytes)) (hzs : z.cells.size = size) (hsz : 0 < size)
    (w : World) (v : Value) (n : Nat) (xs : List Value) (hs : a.eval s = v) (hown : w.ownsRow base e size v n xs)
    (news : Array Value) (hx : a.eval x = .slice (some ⟨w.heap.size, 0, none⟩) 1 1) (hl : news.size = size) (h1 : ∀ u ∈ news.toList, u.oneCell' = true)
    (hbytes : (n + 1) * bytes ≤ 140737488355328) (h63 : n + 1 ≤ maxLen) (hbase : base ≤ w.heap.size)
    (h : ∀ v' w', w'.ownsRow base e size v' (n + 1) (xs ++ news.toList) → w.grownBy w' v.ownBlock → Bel base w w' → v' ≠ .slice none 0 0 → wpList P ops Q rest (a.put o.dst v') w') : wpList P ops Q (o :: rest) a (w.alloc (.cells news e)) := by
  obtain ⟨i, hi, hz, hsize, hby⟩ := info_parts hE
  refine wpList_plain hgd fun K hK => ?_
  have hnews : ∀ j u, news.toList[j]? = some u → (w.alloc (.cells news e)).cell? ((⟨w.heap.size, 0, none⟩ : Addr).add j) = some u := by
    intro j u hu
    have ha : (⟨w.heap.size, 0, none⟩ : Addr).add j = ⟨w.heap.size, j, none⟩ := by unfold Addr.add; split <;> simp_all
    rw [ha, cell_of_row _ w.heap.size j news e (0, 0) (heap_alloc_new w _)]
    simpa using hu
  obtain ⟨v', w', hr, h2, h3, h4⟩ := run_append_own (P := P) (w.alloc (.cells news e)) base t o.type e i z size bytes ht hi hz hsize hby hzs hsz v n xs (World.ownsRow.alloc hown _) ⟨w.heap.size, 0, none⟩ 1 1 news.toList (by simp [hl]) hnews h1 h63 hbytes (by simp; omega)
  have hd := run_drawn P _ _ _ _ hr
  unfold Oper.wp execOp
  simp only [ho, resolve, invoke, builtin, Sem.run_bind, Sem.run_pure, Result.andThen_ok, List.map_toArray, List.map_cons, List.map_nil, hs, hx, hr]
  have hg : w.grownBy w' v.ownBlock := ⟨h3.os, h3.tape, h3.output, by have := h3.size; simp at this; omega, fun k hk hne => by
    rw [h3.block k (by simp; omega) hne]
    exact Below.heap_alloc w _ k hk⟩
  exact hK _ _ (h v' w' h2 hg ((Bel.refl base w).grown hg hd hbase (fun k hk => (World.ownsRow.lt hown k hk).1)) (fun e => by have := h4.1 e; omega))
/-- The same inside a region that draws its order ('go_region_law'). -/
theorem step_append1 {ops : Array Oper} {o : Oper} {a : Act} {K : Act → World → Prop} {Q : Exit → Act → World → Prop} {E : Prop} (hgd : o.guard = none) (s x : Operand) (t : TypeId)
    (ho : o.op = .call { callee := .builtin .append, args := #[s, x], argTypes := #[t, t] })
    (base : Nat) (e : TypeId) (z : Value) (size bytes : Nat) (ht : P.underlying t = some (.slice e)) (hE : (P.info? e).map (fun i => (i.zero, i.size, i.bytes)) = some (some z, size, bytes)) (hzs : z.cells.size = size) (hsz : 0 < size)
    (w : World) (v : Value) (n : Nat) (xs : List Value) (hs : a.eval s = v) (hown : w.ownsRow base e size v n xs)
    (news : Array Value) (W : World) (hW : W = w.alloc (.cells news e)) (hx : a.eval x = .slice (some ⟨w.heap.size, 0, none⟩) 1 1) (hl : news.size = size) (h1 : ∀ u ∈ news.toList, u.oneCell' = true)
    (hbytes : (n + 1) * bytes ≤ 140737488355328) (h63 : n + 1 ≤ maxLen) (hbase : base ≤ w.heap.size)
    (hK : ∀ v' w', w'.ownsRow base e size v' (n + 1) (xs ++ news.toList) → w.grownBy w' v.ownBlock → Bel base w w' → v' ≠ .slice none 0 0 → K (a.put o.dst v') w') :
    if Region.wanted o (yielded ops a.tmps) = true then Oper.wp P o a W K Q else E := by
  subst hW
  obtain ⟨i, hi, hz, hsize, hby⟩ := info_parts hE
  rw [if_pos (by simp [Region.wanted, hgd])]
  have hnews : ∀ j u, news.toList[j]? = some u → (w.alloc (.cells news e)).cell? ((⟨w.heap.size, 0, none⟩ : Addr).add j) = some u := by
    intro j u hu
    have ha : (⟨w.heap.size, 0, none⟩ : Addr).add j = ⟨w.heap.size, j, none⟩ := by unfold Addr.add; split <;> simp_all
    rw [ha, cell_of_row _ w.heap.size j news e (0, 0) (heap_alloc_new w _)]
    simpa using hu
  obtain ⟨v', w', hr, h2, h3, h4⟩ := run_append_own (P := P) (w.alloc (.cells news e)) base t o.type e i z size bytes ht hi hz hsize hby hzs hsz v n xs (World.ownsRow.alloc hown _) ⟨w.heap.size, 0, none⟩ 1 1 news.toList (by simp [hl]) hnews h1 h63 hbytes (by simp; omega)
  have hd := run_drawn P _ _ _ _ hr
  unfold Oper.wp execOp
  simp only [ho, resolve, invoke, builtin, Sem.run_bind, Sem.run_pure, Result.andThen_ok, List.map_toArray, List.map_cons, List.map_nil, hs, hx, hr]
  have hg : w.grownBy w' v.ownBlock := ⟨h3.os, h3.tape, h3.output, by have := h3.size; simp at this; omega, fun k hk hne => by
    rw [h3.block k (by simp; omega) hne]
    exact Below.heap_alloc w _ k hk⟩
  exact hK _ _ h2 hg ((Bel.refl base w).grown hg hd hbase (fun k hk => (World.ownsRow.lt hown k hk).1)) (fun e => by have := h4.1 e; omega)
/-- 'append(s, y)', a number. -/
theorem wpList_append_int {ops : Array Oper} {rest : List Oper} {o : Oper} {a : Act} {Q : Exit → Act → World → Prop} (hgd : o.guard = none) (s x : Operand) (t : TypeId)
    (ho : o.op = .call { callee := .builtin .append, args := #[s, x], argTypes := #[t, t] })
    (base : Nat) (e : TypeId) (ht : P.underlying t = some (.slice e)) (hE : (P.info? e).map (fun i => (i.zero, i.size, i.bytes)) = some (some (.int .i64 0), 1, 8))
    (w : World) (v : Value) (xs : List Int) (hs : a.eval s = v) (hown : OwnI e base w v xs)
    (y : Int) (hx : a.eval x = .slice (some ⟨w.heap.size, 0, none⟩) 1 1)
    (hn : xs.length < 17592186044416) (hbase : base ≤ w.heap.size)
    (h : ∀ v' w', OwnI e base w' v' (xs ++ [y]) → w.grownBy w' v.ownBlock → Bel base w w' → v' ≠ .slice none 0 0 → wpList P ops Q rest (a.put o.dst v') w') : wpList P ops Q (o :: rest) a (w.alloc (.cells #[.int .i64 y] e)) :=
  wpList_append1 hgd s x t ho base e (.int .i64 0) 1 8 ht hE rfl (by decide) w v xs.length (ints xs) hs hown #[.int .i64 y] hx rfl (by simp [Value.oneCell']) (by omega) (by simp only [maxLen]; omega) hbase
    fun v' w' h2 h3 h4 h5 => h v' w' (by unfold OwnI; rw [ints_append, ints_one]; simpa using h2) h3 h4 h5
end

/-! ### 's[k:]' -/
section
variable {P : Program}
theorem run_sizeOf {e n : Nat} (hi : (P.info? e).map (·.size) = some n) (w : World) : (sizeOf e).run P w = .ok n w := by
  cases hq : P.info? e with
  | none => simp [hq] at hi
  | some i0 => simp [hq] at hi; simp [sizeOf, typeInfo, hq, hi]
theorem run_slice_from {t e size : Nat} (ht : P.underlying t = some (.slice e)) (hs : (P.info? e).map (·.size) = some size) (A : Option Addr) (n c k : Nat) (hk : k ≤ n) (w : World) :
    (Instr.slice t (.slice A n c) (some (.int .i64 k)) none none).run P w = .ok (.slice (if c = k then A else A.map (·.add (k * size))) (n - k) (c - k)) w := by
  have ht' : P.underlying t = some (.slice (P.elem t)) := by rw [ht]; simp [Program.elem, ht]
  have he : P.elem t = e := by simp [Program.elem, ht]
  rw [run_slice_l w t A n c ht' .i64 k (by omega) (by omega), he, run_sizeOf hs]
  simp [Result.andThen, sliced]
theorem slice_from_at {t e : Nat} (ht : P.underlying t = some (.slice e)) (hs : (P.info? e).map (·.size) = some 1) {E B : Nat} {w : World} {v : Value} {xs : List Int} (h : OwnAt E B w v xs) (k : Nat) (hk : k ≤ xs.length) :
    ∃ A c V, v = .slice A xs.length c ∧ (∀ W, (Instr.slice t (.slice A xs.length c) (some (.int .i64 k)) none none).run P W = .ok V W) ∧ OwnAt E B w V (xs.drop k) ∧ V.ownBlock = v.ownBlock := by
  rcases h with ⟨rfl, rfl⟩ | ⟨g, off, cap, cur, rfl, r⟩
  · obtain rfl : k = 0 := by simpa using hk
    exact ⟨none, 0, .slice none 0 0, rfl, fun W => by rw [run_slice_from ht hs none _ 0 0 (by simp)]; simp, OwnAt.nil _ _ _, rfl⟩
  · have h : OwnAt E B w (.slice (some ⟨g, off, none⟩) xs.length cap) xs := .inr ⟨g, off, cap, cur, rfl, r⟩
    refine ⟨some ⟨g, off, none⟩, cap, _, rfl, fun W => by rw [run_slice_from ht hs _ _ cap k hk], ?_, ?_⟩
    · have := h.from_ k hk
      by_cases hc : cap = k
      · rw [if_pos hc] at this ⊢; exact this
      · rw [if_neg hc] at this ⊢
        have ha : (⟨g, off, none⟩ : Addr).add k = ⟨g, off + k, none⟩ := by unfold Addr.add; split <;> simp_all
        simpa [ha] using this
    · by_cases hc : cap = k
      · rw [if_pos hc]; rfl
      · rw [if_neg hc]
        have ha : (⟨g, off, none⟩ : Addr).add k = ⟨g, off + k, none⟩ := by unfold Addr.add; split <;> simp_all
        simp [Value.ownBlock, ha]
theorem slice_from_rd {t e : Nat} (ht : P.underlying t = some (.slice e)) (hs : (P.info? e).map (·.size) = some 1) {w : World} {v : Value} {xs : List Int} (h : RdI w v xs) (k : Nat) (hk : k ≤ xs.length) :
    ∃ A c V, v = .slice A xs.length c ∧ (∀ W, (Instr.slice t (.slice A xs.length c) (some (.int .i64 k)) none none).run P W = .ok V W) ∧ RdI w V (xs.drop k) := by
  obtain ⟨A, c, rfl, hm, hc, hr⟩ := h
  refine ⟨A, c, _, rfl, fun W => by rw [run_slice_from ht hs _ _ c k hk], ?_⟩
  refine ⟨_, _, by rw [List.length_drop], by simp; omega, by simp; omega, fun h0 => ?_⟩
  simp at h0
  obtain ⟨b, off, rfl, hcell⟩ := hr (by omega)
  rw [if_neg (by omega)]
  have ha : (⟨b, off, none⟩ : Addr).add (k * 1) = ⟨b, off + k, none⟩ := by unfold Addr.add; split <;> simp_all
  refine ⟨b, off + k, by simp only [Option.map_some, ha], fun j hj => ?_⟩
  simp at hj
  rw [Nat.add_assoc, hcell (k + j) (by omega)]
  simp [nth, List.getD_eq_getElem?_getD]
end

/-! ### arrays of numbers -/
section
variable {P : Program}
theorem run_index_arr (t e : TypeId) (n : Nat) (h : P.underlying t = some (.array n e)) (hs : P.underlying e = some (.int .i64)) (hi : (P.info? e).map (·.size) = some 1)
    (xs : List Int) (hx : xs.length = n) (i : Int) (h0 : 0 ≤ i) (h1 : i < n) (w : World) :
    (Instr.index t (.agg (ints xs).toArray) (.int .i64 i)).run P w = .ok (.int .i64 (nth xs i.toNat)) w := by
  obtain ⟨i, rfl⟩ := Int.eq_ofNat_of_zero_le h0
  have hg := ints_get xs i (by omega)
  have hsz : ∀ w, (sizeOf e).run P w = .ok 1 w := run_sizeOf hi
  have hag : ∀ w, (isAgg e).run P w = .ok false w := by
    intro w; unfold isAgg; rw [Sem.run_bind, run_underlying hs w]; rfl
  have h2 : i < n := by omega
  simp [Instr.index, run_underlying h, asIntOf, part, h2, hsz, hag, hg]
/-- a whole array loaded out of its block -/
theorem wpList_load_arr {ops : Array Oper} {rest : List Oper} {o : Oper} {a : Act} {w : World} {Q : Exit → Act → World → Prop} (hgd : o.guard = none) (ty : TypeId) (x : Operand) (ho : o.op = .load ty x)
    (g : Nat) (hx : a.eval x = .pointer (some ⟨g, 0, none⟩)) (t : TypeId) (xs : List Int) (n : Nat) (hn : xs.length = n) (hg : w.heap[g]? = some (.cells (ints xs).toArray t (0, 0)))
    (e : TypeId) (hu : P.underlying ty = some (.array n e)) (hi : (P.info? ty).map (·.size) = some n)
    (h : wpList P ops Q rest (a.put o.dst (.agg (ints xs).toArray)) w) : wpList P ops Q (o :: rest) a w :=
  wpList_load_row hgd ty x ho g hx t _ _ _ hg hu rfl (by rw [hi]; simp [ints_length, hn]) h
/-- a whole array stored into its block -/
theorem wpList_store_arr {ops : Array Oper} {rest : List Oper} {o : Oper} {a : Act} {w : World} {Q : Exit → Act → World → Prop} (hgd : o.guard = none) (ty : TypeId) (x y : Operand) (ho : o.op = .store ty x y)
    (g : Nat) (xs : List Int) (hx : a.eval x = .pointer (some ⟨g, 0, none⟩)) (hy : a.eval y = .agg (ints xs).toArray)
    (t : TypeId) (ys : List Int) (n : Nat) (hxs : xs.length = n) (hys : ys.length = n) (hg : w.heap[g]? = some (.cells (ints ys).toArray t (0, 0))) (hi : (P.info? ty).map (·.size) = some n)
    (h : ∀ w', w'.heap[g]? = some (.cells (ints xs).toArray t (0, 0)) → Kept2 g g w w' → wpList P ops Q rest (a.put o.dst undef) w') : wpList P ops Q (o :: rest) a w := by
  refine wpList_store_row hgd ty x y ho g (ints xs).toArray hx hy t _ hg (by rw [hi]; simp [ints_length, hxs]) (by simp [ints_length, hxs, hys]) (by simp [ints, Value.oneCell']) (h _ (setRow_heap w g _ _ t _ hg) ⟨rfl, rfl, rfl, by simp, fun k _ h1 _ => setRow_other w g k _ h1⟩)
theorem results_cell_arr {fn : Func} {p : Tmp} {ty : TypeId} (h : fn.results = #[.cell p ty]) (tmps : Array Value) (w : World) (g : Nat) (t : TypeId) (xs : List Int) (n : Nat) (hn : xs.length = n)
    (hp : tmps.getD p undef = .pointer (some ⟨g, 0, none⟩)) (hg : w.heap[g]? = some (.cells (ints xs).toArray t (0, 0))) (e : TypeId) (hu : P.underlying ty = some (.array n e)) (hi : (P.info? ty).map (·.size) = some n) :
    (results fn tmps).run P w = .ok (.agg (ints xs).toArray) w :=
  results_cell_row h tmps w g t _ _ _ hp hg hu rfl (by rw [hi]; simp [ints_length, hn])
end
end Go.Proofs.YtalbdcpbdedfiaaDoor
