import Derived.Test.YtgklmecijeadlaaGreatDoorA19
set_option linter.unusedSimpArgs false
set_option linter.unusedVariables false
set_option linter.unusedSectionVars false
namespace Go.Proofs.YtgklmecijeadlaaGreatDoor.Ab

/-! ### deferred functions -/
def PanRel (E : Env) : Pan → FrameMode → Prop
  | .no, m => m = .returning
  | .pan v, m => ∃ vv, m = .panicking [{ v := vv, recovered := false }] ∧ Rel E v vv
  | .done, m => ∃ vv, m = .panicking [{ v := vv, recovered := true }]

theorem PanRel.mono {E E' : Env} {u : Pan} {m : FrameMode} (h : PanRel E u m) (hl : E.le E') : PanRel E' u m := by
  cases u with
  | no => exact h
  | pan v => obtain ⟨vv, h1, h2⟩ := h; exact ⟨vv, h1, h2.mono hl⟩
  | done => exact h

def OutS (T : Tab) (K : Nat → Prop) (W : World) (E : Env) (c0 : Frame) (cs : List Frame) (Q : Exit → Act → List Frame → World → Prop) (e : Ex) (a : AA) (σ : St) (u : Pan) : Prop :=
  ∀ E' A' w' x m, E.le E' → Sim T K W E' σ w' → ActRel E' a A' → ExRel E' e x → PanRel E' u m → Q x A' ({ c0 with mode := m } :: cs) w'

theorem OutS.mono {T : Tab} {K : Nat → Prop} {W : World} {E E' : Env} {c0 : Frame} {cs : List Frame} {Q : Exit → Act → List Frame → World → Prop} {e : Ex} {a : AA} {σ : St} {u : Pan} (h : OutS T K W E c0 cs Q e a σ u) (hl : E.le E') : OutS T K W E' c0 cs Q e a σ u :=
  fun E2 A' w' x m h1 => h E2 A' w' x m (hl.trans h1)

theorem wpOpsS_cons {P : Program} {ops : Array Oper} {Q : Exit → Act → List Frame → World → Prop} {i : Nat} {rest : List Nat} {A : Act} {cs : List Frame} {w : World} {o : Oper} (hi : ops[i]? = some o)
    (h : (Region.wanted o (yielded ops A.tmps) = true ∧ o.wp P A w (fun A' w' => wpOpsS P ops Q rest A' cs w') (fun e A' w' => Q e A' cs w')) ∨ (Region.wanted o (yielded ops A.tmps) = false ∧ wpOpsS P ops Q rest (A.put o.dst undef) cs w)) :
    wpOpsS P ops Q (i :: rest) A cs w := by
  simp only [wpOpsS, hi]
  rcases h with ⟨hw, h⟩ | ⟨hw, h⟩
  · rw [if_pos hw]
    unfold Oper.wp at h
    generalize (execOp A.eval o).run P w = r at h ⊢
    split
    · exact h.elim
    · exact h
  · simp only [hw, Bool.false_eq_true, if_false]; exact h

section
variable {T : Tab} {P : Program} (hT : TabOk T P) {C : Hand} (hC : HandOk T P C) {K : Nat → Prop} {W : World}
include hT hC

theorem runOpsD_ok {c0 : Frame} {cs : List Frame} {ops : Array Oper} {Q : Exit → Act → List Frame → World → Prop} : ∀ (l : List Oper) (i : Nat), ops.toList.drop i = l → ∀ {E : Env} {σ : St} {w : World} (_ : Sim T K W E σ w) {a a' : AA} {A : Act} (_ : ActRel E a A) {e : Ex} {σ' : St} {u u' : Pan} {m : FrameMode} (_ : PanRel E u m),
    runOpsD T C ops.toList l a σ u = some (e, a', σ', u') → OutS T K W E c0 cs Q e a' σ' u' → wpOpsS P ops Q (List.range' i l.length) A ({ c0 with mode := m } :: cs) w := by
  intro l
  induction l with
  | nil =>
    intro i hd E σ w S a a' A R e σ' u u' m hm h k
    cases h
    exact k E A w .normal m (Env.le.refl E) S R trivial hm
  | cons o l ih =>
    intro i hd E σ w S a a' A R e σ' u u' m hm h k
    have hi : ops[i]? = some o := by
      have := congrArg (·[0]?) hd
      simp only [List.getElem?_drop, Nat.add_zero, List.getElem?_cons_zero] at this
      rw [← Array.getElem?_toList]; exact this
    have hd' : ops.toList.drop (i + 1) = l := by
      have := congrArg (List.drop 1) hd
      simpa [List.drop_drop, Nat.add_comm] using this
    rw [List.length_cons, List.range'_succ]
    simp only [runOpsD] at h
    split at h
    · rename_i args ats hop
      split at h
      · rename_i hw
        have hwt := wanted_ok R.tmps hw
        have hrun : (execOp A.eval o).run P w = .ok .recover w := by
          unfold execOp; rw [hop]; rfl
        simp only [wpOpsS, hi]
        rw [if_pos hwt, hrun]
        simp only
        split at h
        · rename_i v
          obtain ⟨vv, rfl, hr⟩ := hm
          simp only [recoverD]
          exact ih (i + 1) hd' S (R.put hr) (u := .done) ⟨vv, rfl⟩ h k
        · rename_i hne
          have hn : recoverD ({ c0 with mode := m } :: cs) = none := by
            cases u with
            | no => cases hm; rfl
            | pan v => exact absurd rfl (hne v)
            | done => obtain ⟨vv, rfl⟩ := hm; rfl
          rw [hn]
          simp only
          exact ih (i + 1) hd' S (R.put .nilif) hm h k
      · rename_i hw
        refine wpOpsS_cons hi (.inr ⟨wanted_ok R.tmps hw, ?_⟩)
        exact ih (i + 1) hd' S (R.put rel_undef) hm h k
      · cases h
    · cases hs : stepOp T C ops.toList o a σ with
      | none => rw [hs] at h; cases h
      | some r =>
        obtain ⟨e1, a1, s⟩ := r
        rw [hs] at h
        refine wpOpsS_cons hi (stepOp_wp hT hC S R hs ?_)
        rcases stepOp_ex hT hC hs with rfl | ⟨v, rfl⟩
        · intro E' A' w' hl S' R'
          exact ih (i + 1) hd' S' R' (hm.mono hl) h (k.mono hl)
        · cases h
          intro E' A' w' hl S' R' vv hr
          exact k E' A' w' _ m hl S' R' ⟨vv, rfl, hr⟩ (hm.mono hl)

def CodeD (T : Tab) (P : Program) (C : Hand) (K : Nat → Prop) (W : World) (c : Code) : Prop :=
  ∀ (c0 : Frame) (cs : List Frame) (E : Env) (σ : St) (w : World) (a a' : AA) (A : Act) (e : Ex) (σ' : St) (u u' : Pan) (m : FrameMode) (Q : Exit → Act → List Frame → World → Prop), Sim T K W E σ w → ActRel E a A → PanRel E u m →
    execD T C c a σ u = some (e, a', σ', u') → OutS T K W E c0 cs Q e a' σ' u' → c.wpS P Q A ({ c0 with mode := m } :: cs) w

theorem outS_then {c0 : Frame} {cs : List Frame} {E : Env} {next : Act → List Frame → World → Prop} {Q : Exit → Act → List Frame → World → Prop} {e : Ex} {a : AA} {σ : St} {u : Pan} (h : OutS T K W E c0 cs Q e a σ u) (he : e ≠ .norm) : OutS T K W E c0 cs (Exit.thenS next Q) e a σ u := by
  intro E' A' w' x m hl S' R' hx hm
  have := h E' A' w' x m hl S' R' hx hm
  cases x <;> first | exact this | exact absurd rfl (ex_not hx he)

theorem codeD (hR : RegOk T P C K W) : ∀ c, CodeD T P C K W c := by
  intro c
  have plain : ∀ c, (∀ a σ u, execD T C c a σ u = (execA T C c a σ).map fun r => (r.1, r.2.1, r.2.2, u)) → CodeD T P C K W c := by
    intro c hc c0 cs E σ w a a' A e σ' u u' m Q S R hm h k
    rw [hc] at h
    cases hx : execA T C c a σ with
    | none => rw [hx] at h; cases h
    | some r =>
      rw [hx] at h
      cases h
      refine wpS_of_wp (codeOk hT hR c E σ w a r.2.1 A r.1 r.2.2 _ S R hx ?_)
      intro E' A' w' x hl S' R' hx'
      exact k E' A' w' x m hl S' R' hx' (hm.mono hl)
  induction c with
  | seq x y ihx ihy =>
    intro c0 cs E σ w a a' A e σ' u u' m Q S R hm h k
    refine wpS_seq ?_
    simp only [execD] at h
    cases hx : execD T C x a σ u with
    | none => rw [hx] at h; cases h
    | some r =>
      obtain ⟨e1, a1, σ1, u1⟩ := r
      rw [hx] at h
      refine ihx c0 cs E σ w a a1 A e1 σ1 u u1 m _ S R hm hx ?_
      cases e1 with
      | norm =>
        intro E' A' w' x' m' hl S' R' hx' hm'
        cases ex_norm hx'
        exact ihy c0 cs E' σ1 w' a1 a' A' e σ' u1 u' m' Q S' R' hm' h (k.mono hl)
      | exit i => cases h; exact outS_then hT hC k (by simp)
      | ret => cases h; exact outS_then hT hC k (by simp)
      | pan v => cases h; exact outS_then hT hC k (by simp)
  | cond c x y ihx ihy =>
    intro c0 cs E σ w a a' A e σ' u u' m Q S R hm h k
    simp only [execD] at h
    split at h
    · rename_i t hc
      have hr := evRel R.tmps S.glob c _ hc
      generalize hv : A.eval c = v at hr
      cases hr
      refine wpS_cond hv ?_
      cases t with
      | true => exact ihx c0 cs E σ w a a' A e σ' u u' m Q S R hm h k
      | false => exact ihy c0 cs E σ w a a' A e σ' u u' m Q S R hm h k
    · cases h
  | region id ops draw =>
    cases draw with
    | true => exact plain _ (fun _ _ _ => rfl)
    | false =>
      intro c0 cs E σ w a a' A e σ' u u' m Q S R hm h k
      refine wpS_region ?_
      have := runOpsD_ok hT hC (Q := Q) (c0 := c0) (cs := cs) ops.toList 0 rfl S R hm h k
      rw [List.range_eq_range']
      simpa using this
  | _ => exact plain _ (fun _ _ _ => rfl)

theorem frame_rel {E : Env} {F : Func} {args : List AV} {vs : Array Value} (h : RelL E args vs) : ActRel E (frame F args) { tmps := vs ++ Array.replicate (F.ntmps - vs.size) undef, defers := [] } := by
  refine ⟨?_, .nil⟩
  unfold frame
  rw [h.len]
  refine relL_append h ⟨by simp, ?_⟩
  intro i a ha
  rw [List.getElem?_replicate] at ha
  split at ha
  · rename_i hi
    cases ha
    have : gd (Array.replicate (F.ntmps - vs.size) undef) i = undef := gd_of (by rw [Array.getElem?_replicate, if_pos hi])
    rw [this]; exact rel_undef
  · cases ha

theorem run_enter {f : FuncId} {F : Func} {c : Code} (hf : T.fn f = some F) (hb : F.body = some c) (vs : Array Value) (w : World) : (callFunc f vs).run P w = .ok (.enter f vs) w := by
  obtain ⟨h1, h2⟩ := hT.fn f F hf
  have h3 : F.name ≠ "runtime.NumGoroutine" := by simpa using h2
  simp [callFunc, h1, h3, hb]

def ModeRel (E : Env) : Option AV → FrameMode → Prop
  | none, m => m = .returning
  | some v, m => ∃ vv, m = .panicking [{ v := vv, recovered := false }] ∧ Rel E v vv

def panOf : Option AV → Pan := fun u => match u with
  | some v => .pan v
  | none => .no

/-- the end of the deferred calls -/
def Fin (T : Tab) (P : Program) (K : Nat → Prop) (W : World) (E : Env) (F : Func) (tmps : Array Value) (R : Ending → World → Prop) (u : Option AV) (σ : St) : Prop :=
  ∀ E' w', E.le E' → Sim T K W E' σ w' → match u with
    | none => ∃ v, (results F tmps).run P w' = .ok v w' ∧ R (.returned v) w'
    | some v => ∀ vv, Rel E' v vv → R (.panicked [{ v := vv, recovered := false }]) w'

theorem leaveA_ok (hR : RegOk T P C K W) {F : Func} {tmps : Array Value} {Q : Ending → World → Prop} : ∀ (l : List (AV × List AV)) (ds : List Deferred) (u u' : Option AV) (m : FrameMode) (E : Env) (σ σ' : St) (w : World), DefsRel E l ds → ModeRel E u m → Sim T K W E σ w →
    leaveA T C l u σ = some (u', σ') → Fin T P K W E F tmps Q u' σ' → Leaves P F tmps Q ds m w := by
  intro l
  induction l with
  | nil =>
    intro ds u u' m E σ σ' w hd hm S h k
    cases hd
    cases h
    have := k E w (Env.le.refl E) S
    cases u with
    | none => cases hm; exact this
    | some v => obtain ⟨vv, rfl, hr⟩ := hm; exact this vv hr
  | cons p l ih =>
    intro ds u u' m E σ σ' w hd hm S h k
    obtain ⟨g, args⟩ := p
    cases hd with
    | @cons _ _ d _ ds hd hds =>
    obtain ⟨fn, first, cap, vs, hg, hargs, rfl⟩ := hd
    simp only [leaveA] at h
    split at h
    · rename_i f args' ht
      obtain ⟨first', cap', hv, hrl⟩ := target_ok ht hg hargs
      cases hv
      split at h
      · rename_i F' hF
        split at h
        · rename_i c hc
          have hmr : m ≠ .run := by
            cases u with
            | none => cases hm; simp
            | some v => obtain ⟨vv, rfl, _⟩ := hm; simp
          have hp : PanRel E (panOf u) m := by
            cases u with
            | none => exact hm
            | some v => exact hm
          have main : ∀ (e : Ex) (a' : AA) (σ1 : St) (u1 : Pan), execD T C c (frame F' args') σ (panOf u) = some (e, a', σ1, u1) → (e = .norm ∨ e = .ret) →
              (match a'.defers, resultsA T σ1 F' a'.tmps with | [], some _ => leaveA T C l (match u1 with | .pan v => some v | _ => none) σ1 | _, _ => none) = some (u', σ') → Leaves P F tmps Q ({ target := .fn (.func f) cap, args := first ++ vs } :: ds) m w := by
            intro e a' σ1 u1 hx he h
            split at h
            · rename_i x y hdf hres
              refine leaves_cons hmr (run_enter hT hC hF hc _ w) ?_
              refine callsD_of_wpS (hT.fn f F' hF).1 hc ?_
              intro c0 cs hc0
              have hfr : (c0 :: cs) = ({ c0 with mode := m } :: cs) := by subst hc0; rfl
              rw [hfr]
              refine codeD hT hC hR c c0 cs E σ w (frame F' args') a' _ e σ1 _ u1 m _ S (frame_rel hT hC hrl) hp hx ?_
              intro E' A' w' x' m' hl S' R' hx' hm'
              have hd0 : A'.defers = [] := by
                have := R'.defers
                rw [hdf] at this
                generalize A'.defers = q at this
                cases this; rfl
              obtain ⟨v, hv, hr⟩ := resultsA_ok hT S' R'.tmps hres
              have hleaves : Leaves P F tmps Q ds (settle m') w' := by
                refine ih ds _ u' (settle m') E' σ1 σ' w' (hds.mono hl) ?_ S' h (fun E2 w2 h2 => k E2 w2 (hl.trans h2))
                cases u1 with
                | no => cases hm'; rfl
                | pan v => obtain ⟨vv, rfl, hr⟩ := hm'; exact ⟨vv, rfl, hr⟩
                | done => obtain ⟨vv, rfl⟩ := hm'; rfl
              rcases he with rfl | rfl
              · cases x' <;> first | exact hx'.elim | exact ⟨hd0, m', rfl, v, hv, hleaves⟩
              · cases x' <;> first | exact hx'.elim | exact ⟨hd0, m', rfl, v, hv, hleaves⟩
            · cases h
          split at h
          · rename_i a' σ1 u1 hx
            exact main _ a' σ1 u1 hx (.inl rfl) h
          · rename_i a' σ1 u1 hx
            exact main _ a' σ1 u1 hx (.inr rfl) h
          · cases h
        · cases h
      · cases h
    · cases h
end
end Go.Proofs.YtgklmecijeadlaaGreatDoor.Ab
