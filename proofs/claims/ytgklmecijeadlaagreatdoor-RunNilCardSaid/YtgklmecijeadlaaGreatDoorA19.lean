import Derived.Test.YtgklmecijeadlaaGreatDoorA18
set_option linter.unusedSimpArgs false
set_option linter.unusedVariables false
set_option linter.unusedSectionVars false
namespace Go.Proofs.YtgklmecijeadlaaGreatDoor.Ab

/-! ### results -/
def resF (A : Array Value) : ResultVar → Sem Value
  | .tmp t => pure (A.getD t undef)
  | .cell a t => do loadVar t (← asAddr (A.getD a undef))

theorem results_eq (F : Func) (vs : Array Value) : results F vs = (do
    let r ← F.results.toList.mapM (resF vs)
    pure (if h : r.toArray.size = 1 then r.toArray[0] else .tuple r.toArray)) := by
  unfold results
  rw [Array.mapM_eq_mapM_toList, bind_map_left]
  congr 1

section
variable {T : Tab} {P : Program} (hT : TabOk T P) {C : Hand} {K : Nat → Prop} {W : World}
include hT

theorem run_loadVar {E : Env} {σ : St} {w : World} (S : Sim T K W E σ w) {t : TypeId} {p r : AV} {v : Value} (h : loadA T σ t p = some r) (hr : Rel E p v) :
    ∃ x, (do loadVar t (← asAddr v) : Sem Value).run P w = .ok x w ∧ Rel E r x := by
  have h0 := h
  unfold loadA at h0
  cases hrow : σ.row p with
  | none => rw [hrow] at h0; cases h0
  | some q =>
    obtain ⟨c, off⟩ := q
    obtain ⟨b, o, cs, te, fz, B⟩ := behind S hrow hr
    obtain ⟨x, hx, hrx⟩ := loadA_ok hT S h hr
    refine ⟨x, ?_, hrx⟩
    rw [B.p] at hx ⊢
    rw [← hx]
    rfl

theorem resA_ok {E : Env} {σ : St} {w : World} (S : Sim T K W E σ w) {tmps : List AV} {vs : Array Value} (R : RelL E tmps vs) : ∀ (l : List ResultVar) (r : List AV), resA T σ tmps l = some r →
    ∃ xs, (l.mapM (resF vs)).run P w = .ok xs w ∧ r.length = xs.length ∧ ∀ (i : Nat) (a : AV), r[i]? = some a → ∃ v, xs[i]? = some v ∧ Rel E a v := by
  intro l
  induction l with
  | nil => intro r h; cases h; exact ⟨[], rfl, rfl, fun i a h => by simp at h⟩
  | cons x l ih =>
    intro r h
    have key : ∀ {a : AV} {r' : List AV} {v : Value}, (resF vs x).run P w = .ok v w → Rel E a v → resA T σ tmps l = some r' → r = a :: r' → ∃ xs, ((x :: l).mapM (resF vs)).run P w = .ok xs w ∧ r.length = xs.length ∧ ∀ (i : Nat) (a : AV), r[i]? = some a → ∃ v, xs[i]? = some v ∧ Rel E a v := by
      intro a r' v hv hr hr' he
      obtain ⟨xs, h1, h2, h3⟩ := ih r' hr'
      refine ⟨v :: xs, ?_, by rw [he]; simp [h2], ?_⟩
      · rw [List.mapM_cons]
        simp [hv, h1]
      · intro i a' hi
        rw [he] at hi
        cases i with
        | zero => simp at hi; subst hi; exact ⟨v, rfl, hr⟩
        | succ i => simp at hi; obtain ⟨v', h4, h5⟩ := h3 i a' hi; exact ⟨v', by simpa using h4, h5⟩
    cases x with
    | tmp t =>
      simp only [resA] at h
      split at h
      · rename_i a r' ha hr'
        cases h
        obtain ⟨v, hv, hr⟩ := relL_get R ha
        refine key (v := v) ?_ hr hr' rfl
        simp only [resF, Array.getD_eq_getD_getElem?, hv]
        rfl
      · cases h
    | cell p t =>
      simp only [resA] at h
      split at h
      · rename_i q hq
        split at h
        · rename_i a r' ha hr'
          cases h
          obtain ⟨v, hv, hr⟩ := relL_get R hq
          obtain ⟨x, hx, hrx⟩ := run_loadVar hT S ha hr
          refine key (v := x) ?_ hrx hr' rfl
          simp only [resF, Array.getD_eq_getD_getElem?, hv, Option.getD_some]
          exact hx
        · cases h
      · cases h

theorem resultsA_ok {E : Env} {σ : St} {w : World} (S : Sim T K W E σ w) {tmps : List AV} {vs : Array Value} (R : RelL E tmps vs) {F : Func} {a : AV} (h : resultsA T σ F tmps = some a) :
    ∃ v, (results F vs).run P w = .ok v w ∧ Rel E a v := by
  unfold resultsA at h
  have key : ∀ l, resA T σ tmps F.results.toList = some l → ∃ xs : List Value, (results F vs).run P w = .ok (if h : xs.toArray.size = 1 then xs.toArray[0] else .tuple xs.toArray) w ∧ l.length = xs.length ∧ ∀ (i : Nat) (a : AV), l[i]? = some a → ∃ v, xs[i]? = some v ∧ Rel E a v := by
    intro l hl
    obtain ⟨xs, h1, h2, h3⟩ := resA_ok hT S R _ l hl
    refine ⟨xs, ?_, h2, h3⟩
    rw [results_eq]
    simp [h1]
  split at h
  · rename_i v hl
    cases h
    obtain ⟨xs, h1, h2, h3⟩ := key _ hl
    obtain ⟨x, hx, hr⟩ := h3 0 a rfl
    match xs, h2, hx, h1 with
    | [y], _, hx, h1 => simp at hx; subst hx; exact ⟨y, h1, hr⟩
  · rename_i l hne hl
    cases h
    obtain ⟨xs, h1, h2, h3⟩ := key _ hl
    have hs : ¬ xs.toArray.size = 1 := by
      intro h
      have : l.length = 1 := by rw [h2]; simpa using h
      match l, this with
      | [y], _ => exact hne y rfl
    rw [dif_neg hs] at h1
    refine ⟨_, h1, .tuple (by simp [h2]) ?_⟩
    intro i a ha
    obtain ⟨v, hv, hr⟩ := h3 i a ha
    have : gd xs.toArray i = v := gd_of (by simpa using hv)
    rw [this]; exact hr
  · cases h
end
end Go.Proofs.YtgklmecijeadlaaGreatDoor.Ab
