import Derived.Test.YtgklmecijeadlaaGreatDoorA16
set_option linter.unusedSimpArgs false
set_option linter.unusedVariables false
set_option linter.unusedSectionVars false
namespace Go.Proofs.YtgklmecijeadlaaGreatDoor.Ab

/-! ### frames -/
inductive DefsRel (E : Env) : List (AV × List AV) → List Deferred → Prop
  | nil : DefsRel E [] []
  | cons {g : AV} {args : List AV} {d : Deferred} {l : List (AV × List AV)} {ds : List Deferred} : DefRel E g args d → DefsRel E l ds → DefsRel E ((g, args) :: l) (d :: ds)

structure ActRel (E : Env) (a : AA) (A : Act) : Prop where
  tmps : RelL E a.tmps A.tmps
  defers : DefsRel E a.defers A.defers

theorem DefRel.mono {E E' : Env} {g : AV} {args : List AV} {d : Deferred} (h : DefRel E g args d) (hl : E.le E') : DefRel E' g args d := by
  obtain ⟨fn, first, cap, vs, h1, h2, rfl⟩ := h
  exact ⟨fn, first, cap, vs, h1.mono hl, h2.mono hl, rfl⟩
theorem DefsRel.mono {E E' : Env} {l : List (AV × List AV)} {ds : List Deferred} (h : DefsRel E l ds) (hl : E.le E') : DefsRel E' l ds := by
  induction h with
  | nil => exact .nil
  | cons h1 _ ih => exact .cons (h1.mono hl) ih
theorem ActRel.mono {E E' : Env} {a : AA} {A : Act} (h : ActRel E a A) (hl : E.le E') : ActRel E' a A := ⟨h.tmps.mono hl, h.defers.mono hl⟩

theorem rel_undef {E : Env} : Rel E undefA undef := .tuple rfl (fun i a h => by simp at h)

theorem RelL.set {E : Env} {c : List AV} {cs : Array Value} (h : RelL E c cs) {i : Nat} {a : AV} {v : Value} (hr : Rel E a v) : RelL E (c.set i a) (cs.setIfInBounds i v) := by
  refine ⟨by simp [h.len], ?_⟩
  intro j b hb
  have hj : j < c.length := by
    rcases Nat.lt_or_ge j c.length with h' | h'
    · exact h'
    · rw [List.getElem?_eq_none (by simpa using h')] at hb; cases hb
  by_cases hij : i = j
  · subst hij
    rw [List.getElem?_set_self hj] at hb
    cases hb
    have : gd (cs.setIfInBounds i v) i = v := gd_of (by rw [Array.getElem?_setIfInBounds_self_of_lt (by rw [← h.len]; exact hj)])
    rw [this]; exact hr
  · rw [List.getElem?_set_ne hij] at hb
    have : gd (cs.setIfInBounds i v) j = gd cs j := by
      unfold gd
      rw [Array.getD_eq_getD_getElem?, Array.getD_eq_getD_getElem?, Array.getElem?_setIfInBounds_ne hij]
    rw [this]; exact h.at_ j b hb

theorem ActRel.put {E : Env} {a : AA} {A : Act} (h : ActRel E a A) {d : Option Nat} {v : AV} {vv : Value} (hr : Rel E v vv) : ActRel E (a.put d v) (A.put d vv) := by
  cases d with
  | none => exact h
  | some d => exact ⟨h.tmps.set hr, h.defers⟩

theorem ActRel.junk {E : Env} {A : Act} : ∀ {ops : List Oper} {a : AA}, ActRel E a A → ActRel E (junkAll ops a) A := by
  intro ops
  induction ops with
  | nil => intro a h; exact h
  | cons o l ih =>
    intro a h
    refine ih ?_
    cases hd : o.dst with
    | none => exact h
    | some d =>
      refine ⟨⟨by simp [AA.put, h.tmps.len], ?_⟩, h.defers⟩
      intro j b hb
      simp only [AA.put] at hb
      by_cases hij : d = j
      · subst hij
        have hj : d < a.tmps.length := by
          rcases Nat.lt_or_ge d a.tmps.length with h' | h'
          · exact h'
          · rw [List.getElem?_eq_none (by simpa using h')] at hb; cases hb
        rw [List.getElem?_set_self hj] at hb
        cases hb
        exact .junk
      · rw [List.getElem?_set_ne hij] at hb
        exact h.tmps.at_ j b hb

theorem relL_get {E : Env} {c : List AV} {cs : Array Value} (h : RelL E c cs) {i : Nat} {a : AV} (ha : c[i]? = some a) : ∃ v, cs[i]? = some v ∧ Rel E a v := by
  have hi : i < cs.size := by
    rw [← h.len]
    rcases Nat.lt_or_ge i c.length with h' | h'
    · exact h'
    · rw [List.getElem?_eq_none h'] at ha; cases ha
  exact ⟨gd cs i, gd_lt hi, h.at_ i a ha⟩

theorem wanted_ok {E : Env} {ops : Array Oper} {tmps : List AV} {vs : Array Value} (h : RelL E tmps vs) {o : Oper} {b : Bool} (hw : wantedA ops.toList tmps o = some b) : Region.wanted o (yielded ops vs) = b := by
  unfold wantedA at hw
  unfold Region.wanted
  split at hw
  · rename_i hg; cases hw; rw [hg]
  · rename_i j want hg
    rw [hg]
    simp only
    unfold yielded
    rw [Array.getElem?_toList] at hw
    cases hp : ops[j]? with
    | none => rw [hp] at hw; cases hw; rfl
    | some p =>
      rw [hp] at hw
      simp only [Option.bind_some] at hw ⊢
      cases hd : p.dst with
      | none => rw [hd] at hw; cases hw; rfl
      | some d =>
        rw [hd] at hw
        simp only [Option.bind_some] at hw ⊢
        split at hw
        · rename_i b' ha
          cases hw
          obtain ⟨v, hv, hr⟩ := relL_get h ha
          cases hr
          rw [hv]
          cases b' <;> cases want <;> rfl
        · rename_i ha
          cases hw
          obtain ⟨v, hv, hr⟩ := relL_get h ha
          cases hr
          rw [hv]
          rfl
        · cases hw

/-! ### how code leaves -/
def ExRel (E : Env) : Ex → Exit → Prop
  | .norm, .normal => True
  | .exit i, .exit j => i = j
  | .ret, .ret => True
  | .pan v, .panic ch => ∃ vv, ch = [{ v := vv, recovered := false }] ∧ Rel E v vv
  | _, _ => False

theorem ExRel.mono {E E' : Env} {e : Ex} {x : Exit} (h : ExRel E e x) (hl : E.le E') : ExRel E' e x := by
  cases e <;> cases x <;> first | exact h | (obtain ⟨vv, h1, h2⟩ := h; exact ⟨vv, h1, h2.mono hl⟩)

def Out (T : Tab) (K : Nat → Prop) (W : World) (E : Env) (Q : Exit → Act → World → Prop) (e : Ex) (a : AA) (σ : St) : Prop :=
  ∀ E' A' w' x, E.le E' → Sim T K W E' σ w' → ActRel E' a A' → ExRel E' e x → Q x A' w'

theorem Out.mono {T : Tab} {K : Nat → Prop} {W : World} {E E' : Env} {Q : Exit → Act → World → Prop} {e : Ex} {a : AA} {σ : St} (h : Out T K W E Q e a σ) (hl : E.le E') : Out T K W E' Q e a σ :=
  fun E2 A' w' x h1 => h E2 A' w' x (hl.trans h1)

/-- how an operation goes on -/
def Kont (T : Tab) (K : Nat → Prop) (W : World) (E : Env) (next : Act → World → Prop) (Q : Exit → Act → World → Prop) (e : Ex) (a : AA) (σ : St) : Prop :=
  ∀ E' A' w', E.le E' → Sim T K W E' σ w' → ActRel E' a A' → match e with
    | .norm => next A' w'
    | .pan v => ∀ vv, Rel E' v vv → Q (.panic [{ v := vv, recovered := false }]) A' w'
    | _ => False

section
variable {T : Tab} {P : Program} (hT : TabOk T P) {C : Hand} (hC : HandOk T P C) {K : Nat → Prop} {W : World}
include hT hC

theorem evA {E : Env} {σ : St} {w : World} (S : Sim T K W E σ w) {a : AA} {A : Act} (R : ActRel E a A) : EvRel E (evalA T a.tmps) A.eval := evRel R.tmps S.glob

theorem stepOp_wp {E : Env} {σ : St} {w : World} (S : Sim T K W E σ w) {a a' : AA} {A : Act} (R : ActRel E a A) {ops : Array Oper} {o : Oper} {e : Ex} {s : Option St}
    (h : stepOp T C ops.toList o a σ = some (e, a', s)) {next : Act → World → Prop} {Q : Exit → Act → World → Prop} (k : Kont T K W E next Q e a' (s.getD σ)) :
    (Region.wanted o (yielded ops A.tmps) = true ∧ o.wp P A w next Q) ∨ (Region.wanted o (yielded ops A.tmps) = false ∧ next (A.put o.dst undef) w) := by
  unfold stepOp at h
  split at h
  · rename_i hw
    refine .inl ⟨wanted_ok R.tmps hw, ?_⟩
    have hev := evA hT hC S R
    split at h
    · rename_i v s' hs
      cases h
      exact stepA_ok hT hC S hs hev (fun v' w' E' hl S' hr => k E' _ w' hl S' ((R.mono hl).put hr))
    · rename_i s' hs
      cases h
      exact stepA_ok hT hC S hs hev (fun w' E' hl S' => k E' _ w' hl S' ((R.mono hl).put rel_undef))
    · rename_i f args s' hs
      cases h
      refine stepA_ok hT hC S hs hev (fun d w' E' hl S' hd => k E' _ w' hl S' ?_)
      exact ActRel.put (a := { a with defers := (f, args) :: a.defers }) (A := { A with defers := d :: A.defers }) ⟨(R.mono hl).tmps, .cons hd (R.mono hl).defers⟩ rel_undef
    · rename_i v s' hs
      cases h
      exact stepA_ok hT hC S hs hev (fun v' w' E' hl S' hr => k E' A w' hl S' (R.mono hl) v' hr)
    · cases h
  · rename_i hw
    cases h
    exact .inr ⟨wanted_ok R.tmps hw, k E _ w (Env.le.refl E) S (R.put rel_undef)⟩
  · cases h

theorem stepOp_ok {E : Env} {σ : St} {w : World} (S : Sim T K W E σ w) {a a' : AA} {A : Act} (R : ActRel E a A) {ops : Array Oper} {o : Oper} {e : Ex} {s : Option St} {i : Nat} (hi : ops[i]? = some o)
    (h : stepOp T C ops.toList o a σ = some (e, a', s)) {next : Act → World → Prop} {Q : Exit → Act → World → Prop} (k : Kont T K W E next Q e a' (s.getD σ)) :
    wpOp P ops Q i next A w := by
  unfold wpOp
  rw [hi]
  rcases stepOp_wp hT hC S R h k with ⟨hw, h1⟩ | ⟨hw, h1⟩
  · simp only [hw, if_true]; exact .inl h1
  · simp only [hw, Bool.false_eq_true, if_false]; exact h1

theorem stepOp_ex {ops : List Oper} {o : Oper} {a a' : AA} {σ : St} {e : Ex} {s : Option St} (h : stepOp T C ops o a σ = some (e, a', s)) : e = .norm ∨ ∃ v, e = .pan v := by
  unfold stepOp at h
  split at h
  · split at h <;> first | (cases h; exact .inl rfl) | (cases h; exact .inr ⟨_, rfl⟩) | cases h
  · cases h; exact .inl rfl
  · cases h

theorem runOps_ok {ops : Array Oper} {Q : Exit → Act → World → Prop} : ∀ (l : List Oper) (i : Nat), ops.toList.drop i = l → ∀ {E : Env} {σ : St} {w : World} (_ : Sim T K W E σ w) {a a' : AA} {A : Act} (_ : ActRel E a A) {e : Ex} {σ' : St},
    runOps T C ops.toList l a σ = some (e, a', σ') → Out T K W E Q e a' σ' → wpOps P ops Q (List.range' i l.length) A w := by
  intro l
  induction l with
  | nil =>
    intro i hd E σ w S a a' A R e σ' h k
    cases h
    exact k E A w .normal (Env.le.refl E) S R trivial
  | cons o l ih =>
    intro i hd E σ w S a a' A R e σ' h k
    have hi : ops[i]? = some o := by
      have := congrArg (·[0]?) hd
      simp only [List.getElem?_drop, Nat.add_zero, List.getElem?_cons_zero] at this
      rw [← Array.getElem?_toList]; exact this
    have hd' : ops.toList.drop (i + 1) = l := by
      have := congrArg (List.drop 1) hd
      simpa [List.drop_drop, Nat.add_comm] using this
    rw [List.length_cons, List.range'_succ, wpOps_cons]
    simp only [runOps] at h
    cases hs : stepOp T C ops.toList o a σ with
    | none => rw [hs] at h; cases h
    | some r =>
      obtain ⟨e1, a1, s⟩ := r
      rw [hs] at h
      refine stepOp_ok hT hC S R hi hs ?_
      rcases stepOp_ex hT hC hs with rfl | ⟨v, rfl⟩
      · intro E' A' w' hl S' R'
        exact ih (i + 1) hd' S' R' h (k.mono hl)
      · cases h
        intro E' A' w' hl S' R' vv hr
        exact k E' A' w' _ hl S' R' ⟨vv, rfl, hr⟩

/-- a region in its order -/
theorem region_ok {ops : Array Oper} {id : Nat} {Q : Exit → Act → World → Prop} {E : Env} {σ : St} {w : World} (S : Sim T K W E σ w) {a a' : AA} {A : Act} (R : ActRel E a A) {e : Ex} {σ' : St}
    (h : regA T C ops false a σ = some (e, a', σ')) (k : Out T K W E Q e a' σ') : (Code.region id ops false).wp P Q A w := by
  refine wp_region ?_
  have := runOps_ok hT hC (Q := Q) ops.toList 0 rfl S R h k
  rw [List.range_eq_range']
  simpa using this
end
end Go.Proofs.YtgklmecijeadlaaGreatDoor.Ab
