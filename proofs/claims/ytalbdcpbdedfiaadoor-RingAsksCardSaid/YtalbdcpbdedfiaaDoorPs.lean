/- Plain law: who is asked in another's place, as the document counts. -/
import Derived.Test.YtalbdcpbdedfiaaDoorPt
namespace Go.Proofs.YtalbdcpbdedfiaaDoor

/-- behind k primaries: the targets, and who stands in already -/
def slopR (first rest ups : List Int) : Nat → List (Int × Int) × List Int
  | 0 => ([], [])
  | k + 1 => if ups.contains (nth first k) then ((slopR first rest ups k).1 ++ [(nth first k, nth first k)], (slopR first rest ups k).2) else
    match rest.find? (fun y => ups.contains y && !(slopR first rest ups k).2.contains y) with
    | none => slopR first rest ups k
    | some y => ((slopR first rest ups k).1 ++ [(y, nth first k)], (slopR first rest ups k).2 ++ [y])
theorem slopR_up (first rest ups : List Int) (k : Nat) (h : ups.contains (nth first k) = true) : slopR first rest ups (k + 1) = ((slopR first rest ups k).1 ++ [(nth first k, nth first k)], (slopR first rest ups k).2) := by
  show (if _ then _ else _) = _
  rw [if_pos h]
theorem slopR_none (first rest ups : List Int) (k : Nat) (h : ups.contains (nth first k) = false) (hn : rest.find? (fun y => ups.contains y && !(slopR first rest ups k).2.contains y) = none) : slopR first rest ups (k + 1) = slopR first rest ups k := by
  show (if _ then _ else _) = _
  rw [if_neg (by rw [h]; decide), hn]
theorem slopR_some (first rest ups : List Int) (k : Nat) (h : ups.contains (nth first k) = false) (y : Int) (hn : rest.find? (fun y => ups.contains y && !(slopR first rest ups k).2.contains y) = some y) : slopR first rest ups (k + 1) = ((slopR first rest ups k).1 ++ [(y, nth first k)], (slopR first rest ups k).2 ++ [y]) := by
  show (if _ then _ else _) = _
  rw [if_neg (by rw [h]; decide), hn]
theorem slopR_le (first rest ups : List Int) (k : Nat) : (slopR first rest ups k).1.length ≤ k ∧ (slopR first rest ups k).2.length ≤ k := by
  induction k with
  | zero => simp [slopR]
  | succ k ih =>
    unfold slopR
    split
    · simp; omega
    · split
      · omega
      · simp; omega
/-- the first that is ready, in a list of those that are to be tried -/
theorem find_first (rest : List Int) (p : Int → Bool) (j : Nat) (hj : j < rest.length) (h : ∀ i, i < j → p (nth rest i) = false) (hp : p (nth rest j) = true) : rest.find? p = some (nth rest j) := by
  rw [List.find?_eq_some_iff_getElem]
  refine ⟨hp, j, hj, (nth_get rest j hj).symm, fun i hi => ?_⟩
  have := h i hi
  rw [nth_get rest i (by omega)] at this
  rw [this]; rfl
theorem find_never (rest : List Int) (p : Int → Bool) (h : ∀ i, i < rest.length → p (nth rest i) = false) : rest.find? p = none := by
  rw [List.find?_eq_none]
  intro x hx
  obtain ⟨i, hi, rfl⟩ := mem_nth hx
  rw [h i hi]; decide
theorem slop_same (first rest ups : List Int) (hn : rest.Nodup) : ∀ k,
    (slopR first rest ups k).1 = (slopTo first (rest.filter fun x => !(!ups.contains x)) ups k).1 ∧ (rest.filter fun x => !(!ups.contains x)) = (slopR first rest ups k).2 ++ (slopTo first (rest.filter fun x => !(!ups.contains x)) ups k).2
  | 0 => ⟨rfl, rfl⟩
  | k + 1 => by
    obtain ⟨h1, h2⟩ := slop_same first rest ups hn k
    have hnF : (rest.filter fun x => !(!ups.contains x)).Nodup := hn.filter _
    generalize hF : (rest.filter fun x => !(!ups.contains x)) = F at *
    by_cases hu : ups.contains (nth first k) = true
    · rw [slopR_up _ _ _ _ hu, slopTo_up _ _ _ _ hu]
      exact ⟨by rw [h1], h2⟩
    · rw [Bool.not_eq_true] at hu
      have hfind : rest.find? (fun y => ups.contains y && !(slopR first rest ups k).2.contains y) = (slopTo first F ups k).2.head? := by
        have e1 : rest.find? (fun y => ups.contains y && !(slopR first rest ups k).2.contains y) = F.find? (fun y => !(slopR first rest ups k).2.contains y) := by
          rw [← hF, List.find?_filter]
          congr 1
          funext a
          simp
        rw [e1]
        generalize (slopR first rest ups k).2 = U at *
        generalize (slopTo first F ups k).2 = R at *
        rw [h2] at hnF ⊢
        rw [List.find?_append]
        have e2 : U.find? (fun y => !U.contains y) = none := by
          rw [List.find?_eq_none]
          intro x hx
          simp [hx]
        rw [e2, Option.none_or]
        cases R with
        | nil => rfl
        | cons y t =>
          have hy : y ∉ U := fun hm => (List.nodup_append.1 hnF).2.2 y hm y (List.mem_cons_self ..) rfl
          rw [List.find?_cons_of_pos (by simpa using hy)]
          rfl
      cases hR : (slopTo first F ups k).2 with
      | nil =>
        rw [hR] at hfind h2
        rw [slopR_none _ _ _ _ hu hfind, slopTo_none _ _ _ _ hu hR]
        exact ⟨h1, h2⟩
      | cons y t =>
        rw [hR] at hfind h2
        rw [slopR_some _ _ _ _ hu y hfind, slopTo_some _ _ _ _ hu y t hR]
        exact ⟨by rw [h1], by rw [h2]; simp⟩
theorem walkTo_nodup (o : List Int) (p : Int) : ∀ k, (walkTo o p k).Nodup
  | 0 => List.nodup_nil
  | k + 1 => by
    have ih := walkTo_nodup o p k
    unfold walkTo
    split
    · rename_i h
      rw [List.nodup_append]
      refine ⟨ih, by simp, fun a ha b hb => ?_⟩
      simp at hb
      subst hb
      intro e
      subst e
      exact h.2 (by simpa using ha)
    · exact ih
/-- the document's -/
def slopD (o : List Int) (p n : Int) (ups : List Int) : List (Int × Int) := (slopR (primL o p n) ((walkTo o p 8).drop (primL o p n).length) ups (primL o p n).length).1
theorem slopD_eq (o : List Int) (p n : Int) (ups : List Int) : slopD o p n ups = slopL o p n ups :=
  (slop_same (primL o p n) ((walkTo o p 8).drop (primL o p n).length) ups ((walkTo_nodup o p 8).sublist (List.drop_sublist _ _)) _).1
end Go.Proofs.YtalbdcpbdedfiaaDoor
