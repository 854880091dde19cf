/- Words: a map from numbers to numbers that the call makes. No program. -/
import Derived.Test.YtalbdcpbdedfiaaDoorMk
import Derived.Maps.OwnOps
import Derived.Maps.Views
namespace Go.Proofs.YtalbdcpbdedfiaaDoor
open Go.RowKit Go.Maps

/-- a number of 64 bits -/
def WF (x : Int) : Prop := -9223372036854775808 ≤ x ∧ x ≤ 9223372036854775807
theorem WF.wf {x : Int} (h : WF x) : (Lit.int .i64 x).wf = true := WalkArith.wf_i64 h
def upd (f : Int → Int) (x y : Int) : Int → Int := fun z => if z = x then y else f z
theorem upd_same (f : Int → Int) (x y : Int) : upd f x y x = y := if_pos rfl
theorem upd_other (f : Int → Int) (x y z : Int) (h : z ≠ x) : upd f x y z = f z := if_neg h

section
variable {P : Program}
/-- block b is a map of at most n entries; of a key x it tells f x (0, where it has none); K: the number of the type int -/
def MapI (P : Program) (K : TypeId) (w : World) (b n : Nat) (f : Int → Int) : Prop :=
  ∃ D : DataW Unit, w.ownsMap P K (plainElem P K) b n D ∧ IsMap D ∧ ∀ x, WF x → D.atKey (.int .i64 x) (.lit (.int .i64 0)) = .lit (.int .i64 (f x))
theorem MapI.made (K : TypeId) (w : World) : MapI P K (w.alloc (.map #[] 0)) w.heap.size 0 (fun _ => 0) :=
  ⟨.map [], World.ownsMap_made w P K _, ⟨_, rfl⟩, fun _ _ => rfl⟩
theorem MapI.lt {K : TypeId} {w : World} {b n : Nat} {f : Int → Int} (h : MapI P K w b n f) : b < w.heap.size := by
  obtain ⟨D, ho, _⟩ := h
  exact ho.lt
theorem MapI.kept {K : TypeId} {w w' : World} {b n : Nat} {f : Int → Int} (h : MapI P K w b n f) (e : w'.heap[b]? = w.heap[b]?) : MapI P K w' b n f := by
  obtain ⟨D, ⟨es, clock, hb, F, hs, hD⟩, r⟩ := h
  exact ⟨D, ⟨es, clock, e.trans hb, F, hs, hD⟩, r⟩
theorem MapI.noCell {K : TypeId} {w : World} {b n : Nat} {f : Int → Int} (h : MapI P K w b n f) (o : Nat) : w.cell? ⟨b, o, none⟩ = none := by
  obtain ⟨D, ⟨es, clock, hb, _⟩, r⟩ := h
  simp [World.cell?, hb]
theorem MapI.lookup {K T : TypeId} {w : World} {b n : Nat} {f : Int → Int} (h : MapI P K w b n f) (hK : P.underlying K = some (.int .i64)) (hT : P.underlying T = some (.map K K)) (hz : (zeroValue K).run P w = .ok (.int .i64 0) w) (x : Int) (hx : WF x) :
    (Instr.lookup T (.map (some b)) (.int .i64 x) false).run P w = .ok (.int .i64 (f x)) w := by
  obtain ⟨D, ho, hm, hf⟩ := h
  obtain ⟨c, hrun, hat, _⟩ := ho.lookup_int (int_keyed hK) hT hK hz (keyOf_int_mk hK hx.wf)
  rw [hf x hx] at hat
  injection hat with hat
  injection hat with _ hat
  rw [hrun, hat]
theorem MapI.update {K T : TypeId} {w : World} {b n : Nat} {f : Int → Int} (h : MapI P K w b n f) (hK : P.underlying K = some (.int .i64)) (hT : P.underlying T = some (.map K K)) (hn : n < maxLen) (x y : Int) (hx : WF x) (hy : WF y) :
    ∃ w', (Instr.mapUpdate T (.map (some b)) (.int .i64 x) (.int .i64 y)).run P w = .ok () w' ∧ MapI P K w' b (n + 1) (upd f x y) ∧ w.grownBy w' (some b) ∧ w.drawn ≤ w'.drawn := by
  obtain ⟨D, ho, hm, hf⟩ := h
  obtain ⟨w', hrun, ho', hg⟩ := ho.update (int_keyed hK) hT hn (keyOf_int_mk hK hx.wf) (plainElem_int hK hy.wf)
  refine ⟨w', hrun, ⟨_, ho', ?_, fun z hz => ?_⟩, hg, run_drawn P _ _ _ _ hrun⟩
  · obtain ⟨es, rfl⟩ := hm
    exact ⟨_, rfl⟩
  · by_cases e : z = x
    · subst e
      rw [upd_same, atKey_put_same hm (by exact trivial)]
    · rw [upd_other _ _ _ _ e, atKey_put_other (by simpa using e)]
      exact hf z hz
end
end Go.Proofs.YtalbdcpbdedfiaaDoor
