/- Proves the statement RingAsksSaid and its tied card: whatever the owners, the ask and the key, the law RingAsks returns true, and the input reads as it did. (The walk is RingAsks_any.) -/
import Derived.Test.YtalbdcpbdedfiaaDoorCards
import Derived.Test.YtalbdcpbdedfiaaDoorTie
import Derived.Test.YtalbdcpbdedfiaaDoorQd
import Derived.SizedLaws
import Derived.WalkKit
import Derived.ProofKit
import Derived.OpenShut
import Derived.ShutString
import Derived.ChangeOld
import Derived.Below
import Derived.Deep.DeepHandedRow
import Derived.Deep.Strs
import Derived.Lib.LaidTab
namespace Go.Proofs.YtalbdcpbdedfiaaDoor.ringAsks
open Go.ChangeShapes Go.WideShapes Go.ChangeAt Go.RowKit
open Go.ChangeMaps (open_string shut_string)
set_option linter.unusedVariables false

theorem own : ownKnob Tryd.prog.godebug = none := by kernel_rfl
theorem laidOut : laidOutB Tryd.prog = true := by kernel_rfl

/-! ### the constants -/
def zsTab : List Int := kTab.map fun b => (b.toNat : Int)
theorem gTab : Tryd.prog.globalNamed "murmuration/sha.constants" = some 0 := by kernel_rfl
theorem gTabType : (Tryd.prog.globals[0]?).map (·.type) = some 70 := by kernel_rfl
theorem cTab : Tryd.prog.cellsOf 70 = 64 := by kernel_rfl
theorem cWord : Tryd.prog.cellsOf 62 = 1 := by kernel_rfl
theorem laid_is : (Rows.ringAsksRow.laid : List (String × DataW Unit)) = [("murmuration/sha.constants", Lib.tabData .u32 zsTab)] := by kernel_rfl
theorem table {W : World} (h : laidMetH Tryd.prog Rows.ringAsksRow.laid W) : Lib.TabIs Tryd.prog W "murmuration/sha.constants" .u32 zsTab := by
  rw [laid_is] at h
  exact Lib.tabIs_of_head (rest := []) gTab gTabType Tryd.underlying70 Tryd.underlying62 cWord cTab h
theorem tab_at {W : World} (h : laidMetH Tryd.prog Rows.ringAsksRow.laid W) : ∀ j, j < 64 → W.cell? ⟨0, j, none⟩ = some (uw (Sha.wnth kTab j)) := fun j hj => by
  have h1 := (table h).cell gTab j (show j < zsTab.length by rw [show zsTab.length = 64 from by kernel_rfl]; exact hj)
  rw [h1]
  have h64 : kTab.length = 64 := by kernel_rfl
  unfold zsTab uw Sha.wnth
  simp [List.getD_eq_getElem?_getD, show j < kTab.length by omega]

/-- a slice of integers that came in: nil, or a row of cells -/
def IsRow (k : IntKind) (w : World) (a : Option Addr) (len cap : Nat) (zs : List Int) : Prop :=
  (a = none ∧ len = 0 ∧ cap = 0 ∧ zs = []) ∨
  ∃ x, a = some x ∧ len ≤ cap ∧ cap ≤ maxLen ∧ zs.length = cap ∧ (∀ i, i < zs.length → w.cell? (x.add i) = some (.int k (zs.getD i 0))) ∧ ∀ n ∈ zs, (Lit.int k n).wf = true

theorem IsRow.rdi {w : World} {a : Option Addr} {len cap : Nat} {zs : List Int} (h : IsRow .i64 w a len cap zs) : ∃ xs, xs.length = len ∧ RdI w (.slice a len cap) xs := by
  rcases h with ⟨rfl, rfl, rfl, rfl⟩ | ⟨x, rfl, hl, hm, hz, hc, hw⟩
  · exact ⟨[], rfl, ⟨none, 0, rfl, Nat.zero_le _, Nat.le_refl _, fun h => absurd h (Nat.lt_irrefl _)⟩⟩
  · have hlen : (zs.take len).length = len := by rw [List.length_take]; omega
    refine ⟨zs.take len, hlen, ⟨some x, cap, by rw [hlen], by omega, by omega, fun h => ?_⟩⟩
    have h0 := hc 0 (by omega)
    rw [Addr.add_zero'] at h0
    have hs : x.spot = none := by
      unfold World.cell? at h0
      split at h0
      · split at h0
        · cases h0
        · rename_i hs
          cases hx : x.spot with
          | none => rfl
          | some _ => rw [hx] at hs; exact absurd rfl hs
      · cases h0
    obtain ⟨b, off, sp⟩ := x
    obtain rfl : sp = none := hs
    refine ⟨b, off, rfl, fun j hj => ?_⟩
    have h1 := hc j (by omega)
    rw [Addr.add_lit] at h1
    rw [h1]
    congr 2
    simp [nth, List.getD_eq_getElem?_getD, show j < len by omega]
set_option maxRecDepth 100000 in
/-- an array of owners that came in -/
theorem open_owners {H : Type} {enc : TypeId × Value → H} {w : World} {base : Nat} {spare : Nat → Bool} {held : Bool} {v : Value} {d : DataW H} {p : List MemPlace} (h : DataW.Trod enc Tryd.prog w base spare held 23 v d p) :
    ∃ o : List Int, o.length = 8 ∧ (∀ j, j < 8 → WF (nth o j)) ∧ v = .agg (ints o).toArray := by
  obtain ⟨fuel, hf⟩ := h
  obtain ⟨rs, m, rfl, -, hcs, hrs, hel⟩ := DataW.trod_array uOwners hf
  rw [show Tryd.prog.cellsOf 23 = 8 from by kernel_rfl] at hcs
  have hv : v = .agg v.cells := by
    cases v <;> first | rfl | (simp [Value.cells] at hcs)
  have hi : Tryd.prog.cellsOf 3 = 1 := by kernel_rfl
  have key : ∀ i, i < 8 → ∃ n : Int, v.cells.toList[i]? = some (.int .i64 n) ∧ WF n := fun i hi8 => by
    have h1 := hel i hi8
    rw [hi, Nat.mul_one] at h1
    have hlt : i < rs.length := by omega
    rw [List.getElem?_eq_getElem hlt] at h1
    obtain ⟨n, e, -, hw⟩ := DataW.trod_int uInt h1
    refine ⟨n, ?_, bounds_i64 hw⟩
    have h2 := congrArg (fun l => l[0]?) e
    simpa [List.getElem?_take, List.getElem?_drop] using h2
  refine ⟨v.cells.toList.map intOf, by rw [List.length_map]; exact hcs, fun j hj => ?_, ?_⟩
  · obtain ⟨n, e, hw⟩ := key j hj
    have : nth (v.cells.toList.map intOf) j = n := by simp only [nth, List.getD_eq_getElem?_getD, List.getElem?_map, e, Option.map_some, Option.getD_some]; rfl
    rw [this]; exact hw
  · have hl : ints (v.cells.toList.map intOf) = v.cells.toList := by
      unfold ints
      rw [List.map_map]
      refine (List.map_congr_left (g := id) (fun x hx => ?_)).trans (List.map_id _)
      obtain ⟨i, hi8, e⟩ := List.mem_iff_getElem.1 hx
      obtain ⟨n, e2, _⟩ := key i (by omega)
      rw [List.getElem?_eq_getElem hi8, e] at e2
      injection e2 with e2
      subst e2
      rfl
    rw [hl]
    exact hv
set_option maxRecDepth 100000 in
/-- an ask that came in -/
theorem open_ask {H : Type} {enc : TypeId × Value → H} {w : World} {base : Nat} {held : Bool} {v : Value} {d : DataW H} {ps : List MemPlace} (h : DataW.Trod enc Tryd.prog w base (fun _ => true) held 26 v d ps) :
    ∃ (p n : Int) (a : Option Addr) (len cap : Nat) (zs : List Int), WF p ∧ WF n ∧ IsRow .i64 w a len cap zs ∧ v = .agg #[.int .i64 p, .int .i64 n, .slice a len cap] := by
  obtain ⟨fuel, hf⟩ := h
  obtain ⟨y0, y1, y2, m, -, hcs, h0, h1, h2⟩ := Deep.trod_struct3 Tryd.underlying26 hf
  rw [show Tryd.prog.cellsOf 26 = 3 from by kernel_rfl] at hcs
  have hv : v = .agg v.cells := by
    cases v <;> first | rfl | (simp [Value.cells] at hcs)
  have hi : Tryd.prog.cellsOf 3 = 1 := by kernel_rfl
  have hs : Tryd.prog.cellsOf 24 = 1 := by kernel_rfl
  generalize hcl : v.cells.toList = cl at *
  match cl, hcs with
  | [c0, c1, c2], _ =>
    rw [hi] at h0 h1
    rw [hs] at h2
    obtain ⟨p, e0, -, w0⟩ := DataW.trod_int uInt h0
    obtain ⟨n, e1, -, w1⟩ := DataW.trod_int uInt h1
    simp at e0 e1
    subst e0 e1
    have hv3 : v = .agg #[.int .i64 p, .int .i64 n, c2] := by rw [hv, ← Array.toArray_toList (xs := v.cells), hcl]
    rcases open_ints Tryd.underlying24 Tryd.underlying3 (by kernel_rfl) h2 with ⟨e2, _⟩ | ⟨x, l, c, zs, e2, _, hl, hm, hz, hx, hcell, hwz⟩
    · simp at e2
      subst e2
      exact ⟨p, n, none, 0, 0, [], bounds_i64 w0, bounds_i64 w1, .inl ⟨rfl, rfl, rfl, rfl⟩, hv3⟩
    · simp at e2
      subst e2
      exact ⟨p, n, some x, l, c, zs, bounds_i64 w0, bounds_i64 w1, .inr ⟨_, rfl, hl, hm, by simpa using hz, hcell, hwz⟩, hv3⟩

/-! ### the row's step -/
set_option maxRecDepth 100000 in
theorem contract (H : Type) (enc : TypeId × Value → H) (W : World) (base : Nat) (args : Array Value) (ds gs : List (DataW H)) (before : List MemPlace)
    (hval : ∀ (j : Nat) t v, Tryd.f3.params[j]? = some t → args[j]? = some v → Value.okWide Tryd.prog W .any base t v)
    (hW : DataW.Whole enc Tryd.prog Tryd.f3.params.toList Rows.ringAsksSpec.vars false W args.toList ds gs before)
    (hsz : (DataW.weightsEach Tryd.prog (Tryd.f3.params.toList ++ (OpenSpec.ofChange Rows.ringAsksSpec).bare.plain.varTypes Tryd.prog) (ds ++ gs)).all (· ≤ reachBytes) = true)
    (hL : laidMetH Tryd.prog Rows.ringAsksRow.laid W) :
    Calls Tryd.prog 3 args W fun e W' => ∃ v, e = .returned v ∧ Rows.ringAsksSpec.post enc Tryd.prog Tryd.f3 false true false false W args v W' := by
  have hW' := hW
  obtain ⟨p, q, hA0, hV, rfl, hfz, hnd⟩ := hW
  have hA : DataW.TrodAll enc Tryd.prog W 0 (fun _ => true) true Tryd.f3.params.toList args.toList ds p := hA0
  rw [Tryd.params3] at hA hval hsz
  obtain ⟨v0, vs0, d0, ds0, p0, q0, hargs, rfl, rfl, h0, r0⟩ := trodAll_cons hA
  obtain ⟨v1, vs1, d1, ds1, p1, q1, rfl, rfl, rfl, h1, r1⟩ := trodAll_cons r0
  obtain ⟨v2, vs2, d2, ds2, p2, q2, rfl, rfl, rfl, h2, r2⟩ := trodAll_cons r1
  obtain ⟨rfl, rfl, rfl⟩ := trodAll_nil r2
  obtain rfl : args = #[v0, v1, v2] := by cases args; simp_all
  obtain ⟨rfl, rfl⟩ := trodVars_none hV
  have k0 := h0
  have lt0 : ∀ x ∈ p0, x.block < W.heap.size := by obtain ⟨m, hm⟩ := k0; exact DataW.trod_lt m _ _ _ hm
  obtain ⟨o, ho, hoW, rfl⟩ := open_owners h0
  have k1 := h1
  have lt1 : ∀ x ∈ p1, x.block < W.heap.size := by obtain ⟨m, hm⟩ := k1; exact DataW.trod_lt m _ _ _ hm
  obtain ⟨pp, nn, a1, len1, cap1, z1, hpp, hnn, w1, rfl⟩ := open_ask h1
  have k2 := h2
  have lt2 : ∀ x ∈ p2, x.block < W.heap.size := by obtain ⟨m, hm⟩ := k2; exact DataW.trod_lt m _ _ _ hm
  obtain ⟨key, rfl, rfl, rfl, hkm⟩ := open_string Tryd.underlying9 (hval 2 9 v2 rfl rfl) h2
  have hk : key.size < 1152921504606846976 := by
    have h3 := sized_string hsz (j := 2) (t := 9) (bytes := key.data.toList) rfl rfl
    have hr : reachBytes = 140737488351232 := by decide
    rw [hr] at h3
    have : key.data.toList.length = key.size := Array.length_toList
    omega
  obtain ⟨xs, hxl, hr⟩ := w1.rdi
  clear hA0
  refine (RingAsks_any o ho pp nn hpp hnn _ xs key W hr hk (tab_at hL)).mono fun e W' ⟨he, bel⟩ => ?_
  subst he
  exact ⟨_, rfl, _, _, _, [], _, [], hW', trodAll_mk1 (shut_bool Tryd.underlying4 _), (trodAll_cons_mk (Below.trod laidOut (by kernel_rfl) (of_decide_eq_true (by kernel_rfl)) k0 bel lt0) (trodAll_cons_mk (Below.trod laidOut (by kernel_rfl) (of_decide_eq_true (by kernel_rfl)) k1 bel lt1) (trodAll_cons_mk (Below.trod laidOut (by kernel_rfl) (of_decide_eq_true (by kernel_rfl)) k2 bel lt2) trodAll_mk0))), rfl, bel.frame _, fun h => by cases h⟩

/-- a world for the witness: the settled one, the constants in their block -/
noncomputable def laidWorld (os : Os) : World :=
  { World.holding Tryd.prog os ⟨#[], #[], []⟩ with heap := (World.holding Tryd.prog os ⟨#[], #[], []⟩).heap.modify 0 fun
      | .cells _ t frozen => .cells (zsTab.map fun z => Value.int .u32 z).toArray t frozen
      | o => o }
def wargs : Array Value := #[.agg #[.int .i64 0, .int .i64 0, .int .i64 0, .int .i64 0, .int .i64 0, .int .i64 0, .int .i64 0, .int .i64 0], .agg #[.int .i64 0, .int .i64 0, .slice none 0 0], .string ⟨#[]⟩]
theorem laid_met (os : Os) : laidMet Tryd.prog Rows.ringAsksRow.laid ((laidWorld os).forCall (fun _ _ => 0) ⟨#[], wargs, []⟩).memory :=
  laidMet_of_run' 8 (by kernel_rfl) (by kernel_rfl)
theorem reads (os : Os) {H : Type} (enc : TypeId × Value → H) : ∃ places, DataW.whole enc Tryd.prog ((laidWorld os).forCall (fun _ _ => 0) ⟨#[], wargs, []⟩).memory Tryd.f3.params.toList Rows.ringAsksSpec.vars false wargs.toList 8 = some ([.agg [.lit (.int .i64 0), .lit (.int .i64 0), .lit (.int .i64 0), .lit (.int .i64 0), .lit (.int .i64 0), .lit (.int .i64 0), .lit (.int .i64 0), .lit (.int .i64 0)], .agg [.lit (.int .i64 0), .lit (.int .i64 0), .nil], .lit (.string [])], [], places) :=
  ⟨[], by kernel_rfl⟩

set_option maxRecDepth 100000 in
theorem lifted (os : Os) (started : os.Started) (H : Type) (enc : TypeId × Value → H) (F : Stop.Interp) :
    ReturnsInHanded {} Tryd.checked os 3 .any ((OpenSpec.ofChange Rows.ringAsksSpec).preRow enc Tryd.prog Tryd.f3 Rows.ringAsksRow.domain false Rows.ringAsksRow.laid) (((OpenSpec.ofChange Rows.ringAsksSpec).at F).post enc Tryd.prog Tryd.f3 false true false false) := by
  obtain ⟨places, hx⟩ := reads os enc
  refine returnsInHanded_of_row (C := Tryd.checked) (s := OpenSpec.ofChange Rows.ringAsksSpec) own started (by kernel_rfl) Tryd.func3
    (witness_row_at (enc := enc) (C := Tryd.checked) false (laidWorld os) wargs rfl (by kernel_rfl) (by kernel_rfl) (by kernel_rfl)
      (OpenSpec.preRow_of_cond 8 hx (by kernel_rfl) (fun k hk => by cases hk) (by kernel_rfl) (laid_met os))) ?_
  intro W base args ds gs before hval hW _ _ hsz hL _ _
  exact contract H enc W base args ds gs before hval hW hsz hL

/-- the row -/
theorem said : Rows.RingAsksSaid :=
  OpenClaim.holds_of_cond 3 Tryd.f3 rfl rfl rfl rfl rfl rfl rfl ⟨rfl, rfl, rfl, rfl, rfl⟩ rfl rfl rfl rfl rfl (by kernel_rfl) Tryd.func3 (by kernel_rfl)
    (of_decide_eq_true (by kernel_rfl)) (by unfold Func.isWrapper; first | (rw [if_pos (by decide +kernel)]; kernel_rfl) | (rw [if_neg (by decide +kernel)]; exact ⟨rfl, rfl⟩))
    (fun os started H enc _ F => by rw [OpenClaim.pre_eq_preRow]; exact lifted os started H enc F)

theorem plain (f : FuncId) (fn : Func) (hf : Tryd.pinned.checked.prog.funcNamed "murmuration/murmurationlaw11.RingAsks" = some f) (hfn : Tryd.pinned.checked.prog.funcs[f]? = some fn) :
    false = Tryd.pinned.checked.prog.looks [] ∧ ∀ (j : Nat) t, fn.params[j]? = some t → Tryd.pinned.checked.prog.wantsStandIn t = false := by
  obtain rfl : f = 3 := Option.some.inj ((show Tryd.prog.funcNamed "murmuration/murmurationlaw11.RingAsks" = some 3 by kernel_rfl).symm.trans hf) |>.symm
  obtain rfl : fn = Tryd.f3 := (Option.some.inj (Tryd.func3.symm.trans hfn)).symm
  refine ⟨by kernel_rfl, fun j t ht => ?_⟩
  rw [Tryd.params3] at ht
  have hm := Array.mem_of_getElem? ht
  simp at hm
  rcases hm with rfl | rfl | rfl
  · exact (show Tryd.prog.wantsStandIn 23 = false by kernel_rfl)
  · exact (show Tryd.prog.wantsStandIn 26 = false by kernel_rfl)
  · exact (show Tryd.prog.wantsStandIn 9 = false by kernel_rfl)

/-- the card -/
theorem proved : Rows.RingAsksCardSaid :=
  Claim7.holds_tied_plain_at .later [] _ _ _ _ said (fun _ h => by cases h) (by kernel_rfl) (fun _ h => by cases h) ringAsks_row_tie rfl ⟨rfl, rfl⟩ (by kernel_rfl) rfl plain (by kernel_rfl)
#print axioms proved
end Go.Proofs.YtalbdcpbdedfiaaDoor.ringAsks
