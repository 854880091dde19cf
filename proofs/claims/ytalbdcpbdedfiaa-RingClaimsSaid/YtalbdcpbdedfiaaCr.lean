/- Proves the statement RingClaimsSaid: whatever the owners, the members and the other owners, the law RingClaims returns true, and the input reads as it did. No condition. (The frame began as a print of proof-skeleton.mjs; the walk is RingClaims_any.) -/
import Derived.Test.YtalbdcpbdedfiaaRows
import Derived.Test.YtalbdcpbdedfiaaCf
import Derived.SizedLaws
import Derived.WalkKit
import Derived.ProofKit
import Derived.OpenShut
import Derived.ShutString
import Derived.ChangeOld
import Derived.Below
namespace Go.Proofs.Ytalbdcpbdedfiaa.ringClaims
open Go.ChangeShapes Go.WideShapes Go.ChangeAt Go.RowKit
open Go.ChangeMaps (open_string shut_string)
set_option linter.unusedVariables false

theorem own : ownKnob Try.prog.godebug = none := by kernel_rfl
theorem laidOut : laidOutB Try.prog = true := by kernel_rfl

/-- a slice of integers that came in: nil, or a row of cells -/
def IsRow (k : IntKind) (w : World) (a : Option Addr) (len cap : Nat) (zs : List Int) : Prop :=
  (a = none ∧ len = 0 ∧ cap = 0 ∧ zs = []) ∨
  ∃ x, a = some x ∧ len ≤ cap ∧ cap ≤ maxLen ∧ zs.length = cap ∧ (∀ i, i < zs.length → w.cell? (x.add i) = some (.int k (zs.getD i 0))) ∧ ∀ n ∈ zs, (Lit.int k n).wf = true

theorem IsRow.rdi {w : World} {a : Option Addr} {len cap : Nat} {zs : List Int} (h : IsRow .i64 w a len cap zs) : ∃ xs, xs.length = len ∧ RdI w (.slice a len cap) xs ∧ ∀ x ∈ xs, WF x := by
  rcases h with ⟨rfl, rfl, rfl, rfl⟩ | ⟨x, rfl, hl, hm, hz, hc, hw⟩
  · exact ⟨[], rfl, ⟨none, 0, rfl, Nat.zero_le _, Nat.le_refl _, fun h => absurd h (Nat.lt_irrefl _)⟩, fun x hx => by cases hx⟩
  · have hlen : (zs.take len).length = len := by rw [List.length_take]; omega
    refine ⟨zs.take len, hlen, ⟨some x, cap, by rw [hlen], by omega, by omega, fun h => ?_⟩, fun y hy => bounds_i64 (hw y (List.mem_of_mem_take hy))⟩
    have h0 := hc 0 (by omega)
    rw [Addr.add_zero'] at h0
    have hs : x.spot = none := by
      unfold World.cell? at h0
      split at h0
      · split at h0
        · cases h0
        · rename_i hs
          cases hx : x.spot with
          | none => rfl
          | some _ => rw [hx] at hs; exact absurd rfl hs
      · cases h0
    obtain ⟨b, off, sp⟩ := x
    obtain rfl : sp = none := hs
    refine ⟨b, off, rfl, fun j hj => ?_⟩
    have h1 := hc j (by omega)
    rw [Addr.add_lit] at h1
    rw [h1]
    congr 2
    simp [nth, List.getD_eq_getElem?_getD, show j < len by omega]
/-- an array of owners that came in -/
theorem open_owners {H : Type} {enc : TypeId × Value → H} {w : World} {base : Nat} {spare : Nat → Bool} {held : Bool} {v : Value} {d : DataW H} {p : List MemPlace} (h : DataW.Trod enc Try.prog w base spare held 23 v d p) :
    ∃ o : List Int, o.length = 8 ∧ (∀ j, j < 8 → WF (nth o j)) ∧ v = .agg (ints o).toArray := by
  obtain ⟨fuel, hf⟩ := h
  obtain ⟨rs, m, rfl, -, hcs, hrs, hel⟩ := DataW.trod_array uOwners hf
  rw [show Try.prog.cellsOf 23 = 8 from by kernel_rfl] at hcs
  have hv : v = .agg v.cells := by
    cases v <;> first | rfl | (simp [Value.cells] at hcs)
  have hi : Try.prog.cellsOf 3 = 1 := by kernel_rfl
  have key : ∀ i, i < 8 → ∃ n : Int, v.cells.toList[i]? = some (.int .i64 n) ∧ WF n := fun i hi8 => by
    have h1 := hel i hi8
    rw [hi, Nat.mul_one] at h1
    have hlt : i < rs.length := by omega
    rw [List.getElem?_eq_getElem hlt] at h1
    obtain ⟨n, e, -, hw⟩ := DataW.trod_int uInt h1
    refine ⟨n, ?_, bounds_i64 hw⟩
    have h2 := congrArg (fun l => l[0]?) e
    simpa [List.getElem?_take, List.getElem?_drop] using h2
  refine ⟨v.cells.toList.map intOf, by rw [List.length_map]; exact hcs, fun j hj => ?_, ?_⟩
  · obtain ⟨n, e, hw⟩ := key j hj
    have : nth (v.cells.toList.map intOf) j = n := by simp only [nth, List.getD_eq_getElem?_getD, List.getElem?_map, e, Option.map_some, Option.getD_some]; rfl
    rw [this]; exact hw
  · have hl : ints (v.cells.toList.map intOf) = v.cells.toList := by
      unfold ints
      rw [List.map_map]
      refine (List.map_congr_left (g := id) (fun x hx => ?_)).trans (List.map_id _)
      obtain ⟨i, hi8, e⟩ := List.mem_iff_getElem.1 hx
      obtain ⟨n, e2, _⟩ := key i (by omega)
      rw [List.getElem?_eq_getElem hi8, e] at e2
      injection e2 with e2
      subst e2
      rfl
    rw [hl]
    exact hv
/-! ### the walk: RingClaims_any -/
theorem walk (o : List Int) (ho : o.length = 8) (hoW : ∀ j, j < 8 → WF (nth o j)) (a1 : Option Addr) (len1 cap1 : Nat) (z1 : List Int) (d : List Int) (hd : d.length = 8) (w : World) (w1 : IsRow .i64 w a1 len1 cap1 z1) (hn : len1 * 8 ≤ 140737488351232) :
    Calls Try.prog 3 #[.agg (ints o).toArray, .slice a1 len1 cap1, .agg (ints d).toArray] w fun e w' => e = .returned (.bool true) ∧ Below w.heap.size w w' := by
  obtain ⟨xs, rfl, hr, hw⟩ := w1.rdi
  exact RingClaims_any o ho hoW _ xs d hd w hr hw hn

/-! ### the row's step -/
set_option maxRecDepth 100000 in
theorem lifted (os : Os) (started : os.Started) (H : Type) (enc : TypeId × Value → H) :
    ReturnsInHanded {} Try.checked os 3 .any (Rows.ringClaimsSpec.pre6 enc Try.prog Try.f3 Rows.ringClaimsRow.domain false) (Rows.ringClaimsSpec.post enc Try.prog Try.f3 false true false false) := by
  refine returnsInHanded_of_change_sized (C := Try.checked) own started (by kernel_rfl) Try.func3
    (ChangeSpec.witness6 (enc := enc) (C := Try.checked) false ⟨#[], #[.agg #[.int .i64 0, .int .i64 0, .int .i64 0, .int .i64 0, .int .i64 0, .int .i64 0, .int .i64 0, .int .i64 0], .slice none 0 0, .agg #[.int .i64 0, .int .i64 0, .int .i64 0, .int .i64 0, .int .i64 0, .int .i64 0, .int .i64 0, .int .i64 0]], []⟩ 8 (by kernel_rfl) (by kernel_rfl) (by kernel_rfl) (by kernel_rfl)) ?_
  intro W base args ds gs before hval0 hW hcnd hsz _
  have hval : ∀ (j : Nat) t v, Try.f3.params[j]? = some t → args[j]? = some v → Value.okWide Try.prog W .any base t v := hval0
  have hW' := hW
  obtain ⟨p, q, hA0, hV, rfl, hfz, hnd⟩ := hW
  have hA : DataW.TrodAll enc Try.prog W 0 (fun _ => true) true Try.f3.params.toList args.toList ds p := hA0
  rw [Try.params3] at hA hval hsz
  obtain ⟨v0, vs0, d0, ds0, p0, q0, hargs, rfl, rfl, h0, r0⟩ := trodAll_cons hA
  obtain ⟨v1, vs1, d1, ds1, p1, q1, rfl, rfl, rfl, h1, r1⟩ := trodAll_cons r0
  obtain ⟨v2, vs2, d2, ds2, p2, q2, rfl, rfl, rfl, h2, r2⟩ := trodAll_cons r1
  obtain ⟨rfl, rfl, rfl⟩ := trodAll_nil r2
  obtain rfl : args = #[v0, v1, v2] := by cases args; simp_all
  obtain ⟨rfl, rfl⟩ := trodVars_none hV
  have k0 := h0
  have lt0 : ∀ x ∈ p0, x.block < W.heap.size := by obtain ⟨m, hm⟩ := k0; exact DataW.trod_lt m _ _ _ hm
  obtain ⟨o, ho, hoW, rfl⟩ := open_owners h0
  obtain ⟨a1, len1, cap1, rfl⟩ := okWide_slice Try.underlying24 (hval 1 24 v1 rfl rfl)
  have k1 := h1
  have lt1 : ∀ x ∈ p1, x.block < W.heap.size := by obtain ⟨m, hm⟩ := k1; exact DataW.trod_lt m _ _ _ hm
  obtain ⟨z1, w1, n1⟩ : ∃ zs, IsRow .i64 W a1 len1 cap1 zs ∧ len1 * 8 ≤ 140737488351232 := by
    obtain ⟨fuel, hf⟩ := h1
    rcases open_ints Try.underlying24 Try.underlying3 (by kernel_rfl) hf with ⟨hcs, _⟩ | ⟨x, l, c, zs, hcs, _, hl, hm, hz, hx, hcell, hwz⟩
    · simp [Value.cells] at hcs
      obtain ⟨rfl, rfl, rfl⟩ := hcs
      exact ⟨[], .inl ⟨rfl, rfl, rfl, rfl⟩, by omega⟩
    · simp [Value.cells] at hcs
      obtain ⟨rfl, rfl, rfl⟩ := hcs
      have hz' : zs.length = cap1 := by simpa using hz
      have hd := congrArg Prod.fst hx
      have hs := sized_slice hsz (j := 1) (t := 24) rfl (congrArg some hd) Try.underlying24
      have hb : Try.checked.prog.bytesOf 3 = 8 := by kernel_rfl
      have hr : reachBytes = 140737488351232 := by decide
      rw [hb, hr] at hs
      simp only [lits, List.length_map, List.length_take, List.length_drop] at hs
      exact ⟨zs, .inr ⟨_, rfl, hl, hm, hz', hcell, hwz⟩, by omega⟩
  have k2 := h2
  have lt2 : ∀ x ∈ p2, x.block < W.heap.size := by obtain ⟨m, hm⟩ := k2; exact DataW.trod_lt m _ _ _ hm
  obtain ⟨d, hd, _, rfl⟩ := open_owners h2
  clear hA0 hval0
  refine (walk o ho hoW a1 len1 cap1 z1 d hd W w1 n1).mono fun e W' ⟨he, bel⟩ => ?_
  subst he
  exact ⟨_, rfl, _, _, _, [], _, [], hW', trodAll_mk1 (shut_bool Try.underlying4 _), (trodAll_cons_mk (Below.trod laidOut (by kernel_rfl) (of_decide_eq_true (by kernel_rfl)) k0 bel lt0) (trodAll_cons_mk (Below.trod laidOut (by kernel_rfl) (of_decide_eq_true (by kernel_rfl)) k1 bel lt1) (trodAll_cons_mk (Below.trod laidOut (by kernel_rfl) (of_decide_eq_true (by kernel_rfl)) k2 bel lt2) trodAll_mk0))), rfl, bel.frame _, fun h => by cases h⟩

theorem over : Rows.ringClaimsRow.holds Try.pinned (OpenSpec.ofChange Rows.ringClaimsSpec) :=
  OpenClaim.holds_of_wide 3 Try.f3 rfl rfl rfl rfl rfl rfl rfl ⟨rfl, rfl, rfl, rfl, rfl⟩ rfl rfl rfl rfl rfl (by kernel_rfl) Try.func3 (by kernel_rfl)
    (of_decide_eq_true (by kernel_rfl)) (by unfold Func.isWrapper; first | (rw [if_pos (by decide +kernel)]; kernel_rfl) | (rw [if_neg (by decide +kernel)]; exact ⟨rfl, rfl⟩))
    (fun os started H enc _ => lifted os started H enc)

/-- the statement -/
theorem proved : Rows.RingClaimsSaid := over
#print axioms proved
end Go.Proofs.Ytalbdcpbdedfiaa.ringClaims
