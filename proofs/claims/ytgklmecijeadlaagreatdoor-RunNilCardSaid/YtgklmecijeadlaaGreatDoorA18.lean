import Derived.Test.YtgklmecijeadlaaGreatDoorA17
import Derived.Scope
set_option linter.unusedSimpArgs false
set_option linter.unusedVariables false
set_option linter.unusedSectionVars false
namespace Go.Proofs.YtgklmecijeadlaaGreatDoor.Ab

/-- a loop that goes round a number of times -/
theorem wp_loop_nat {P : Program} {Q : Exit → Act → World → Prop} {c : Code} (I : Nat → Act → World → Prop) (round : ∀ n a w, I n a w → c.wp P (Exit.then (fun a' w' => ∃ m, m < n ∧ I m a' w') Q) a w) :
    ∀ (n : Nat) (a : Act) (w : World), I n a w → (Code.loop c).wp P Q a w := by
  intro n a w h0 b k cs
  have key : ∀ n a w, I n a w → ∃ e a' w', Q e a' w' ∧ Arrives P (lone (b.at a (.code c :: .inLoop c :: k)) cs w) b k cs e a' w' := by
    intro n
    induction n using Nat.strongRecOn with
    | _ n ih =>
      intro a w hI
      obtain ⟨e, a1, w1, hq, harr⟩ := round n a w hI b (.inLoop c :: k) cs
      cases e with
      | normal =>
        obtain ⟨m, hm, hI1⟩ := hq
        obtain ⟨e2, a2, w2, hq2, harr2⟩ := ih m hm a1 w1 hI1
        exact ⟨e2, a2, w2, hq2, .of_steps (Steps.trans harr (.one step_inLoop)) harr2⟩
      | exit id => exact ⟨_, a1, w1, hq, .pass (x := .inLoop c) rfl (fun _ _ => .inl (by simp)) harr⟩
      | goto l => exact ⟨_, a1, w1, hq, .pass (x := .inLoop c) rfl (fun _ _ => .inl (by simp)) harr⟩
      | ret => exact ⟨_, a1, w1, hq, .pass (x := .inLoop c) rfl (fun _ _ => .inl (by simp)) harr⟩
      | panic ch => exact ⟨_, a1, w1, hq, .pass (x := .inLoop c) rfl (fun _ _ => .inl (by simp)) harr⟩
      | outgrown => exact ⟨_, a1, w1, hq, .pass (x := .inLoop c) rfl (fun _ _ => .inl (by simp)) harr⟩
  obtain ⟨e, a', w', hq, harr⟩ := key n a w h0
  exact ⟨e, a', w', hq, .of_steps (.one step_loop) harr⟩

def RegOk (T : Tab) (P : Program) (C : Hand) (K : Nat → Prop) (W : World) : Prop :=
  ∀ (id : Nat) (ops : Array Oper) (draw : Bool) (E : Env) (σ : St) (w : World) (a a' : AA) (A : Act) (e : Ex) (σ' : St) (Q : Exit → Act → World → Prop), Sim T K W E σ w → ActRel E a A →
    regA T C ops draw a σ = some (e, a', σ') → Out T K W E Q e a' σ' → (Code.region id ops draw).wp P Q A w

def CodeOk (T : Tab) (P : Program) (C : Hand) (K : Nat → Prop) (W : World) (c : Code) : Prop :=
  ∀ (E : Env) (σ : St) (w : World) (a a' : AA) (A : Act) (e : Ex) (σ' : St) (Q : Exit → Act → World → Prop), Sim T K W E σ w → ActRel E a A →
    execA T C c a σ = some (e, a', σ') → Out T K W E Q e a' σ' → c.wp P Q A w

theorem ex_norm {E : Env} {x : Exit} (h : ExRel E .norm x) : x = .normal := by cases x <;> first | rfl | exact h.elim
theorem ex_not {E : Env} {e : Ex} {x : Exit} (h : ExRel E e x) (he : e ≠ .norm) : x ≠ .normal := by
  rintro rfl; cases e <;> first | exact he rfl | exact h.elim

section
variable {T : Tab} {P : Program} {C : Hand} {K : Nat → Prop} {W : World}

theorem out_then {E : Env} {next : Act → World → Prop} {Q : Exit → Act → World → Prop} {e : Ex} {a : AA} {σ : St} (h : Out T K W E Q e a σ) (he : e ≠ .norm) : Out T K W E (Exit.then next Q) e a σ := by
  intro E' A' w' x hl S' R' hx
  have := h E' A' w' x hl S' R' hx
  cases x <;> first | exact this | exact absurd rfl (ex_not hx he)

theorem iter_ok {x : Code} (ih : CodeOk T P C K W x) {Q : Exit → Act → World → Prop} {e : Ex} {a' : AA} {σ' : St} (n : Nat) {E : Env} {σ : St} {w : World} {a : AA} {A : Act} (S : Sim T K W E σ w) (R : ActRel E a A)
    (h : iterA (execA T C x) n a σ = some (e, a', σ')) (k : Out T K W E Q e a' σ') : (Code.loop x).wp P Q A w := by
  refine wp_loop_nat (fun n A w => ∃ E σ a, Sim T K W E σ w ∧ ActRel E a A ∧ iterA (execA T C x) n a σ = some (e, a', σ') ∧ Out T K W E Q e a' σ') ?_ n A w ⟨E, σ, a, S, R, h, k⟩
  rintro n A w ⟨E, σ, a, S, R, h, k⟩
  cases n with
  | zero => cases h
  | succ n =>
    simp only [iterA] at h
    cases hx : execA T C x a σ with
    | none => rw [hx] at h; cases h
    | some r =>
      obtain ⟨e1, a1, σ1⟩ := r
      rw [hx] at h
      refine ih E σ w a a1 A e1 σ1 _ S R hx ?_
      cases e1 with
      | norm =>
        intro E' A' w' x' hl S' R' hx'
        cases ex_norm hx'
        exact ⟨n, Nat.lt_succ_self n, E', σ1, a1, S', R', h, k.mono hl⟩
      | exit i => cases h; exact out_then k (by simp)
      | ret => cases h; exact out_then k (by simp)
      | pan v => cases h; exact out_then k (by simp)

theorem codeOk (hT : TabOk T P) (hR : RegOk T P C K W) : ∀ c, CodeOk T P C K W c := by
  intro c
  induction c with
  | skip => intro E σ w a a' A e σ' Q S R h k; cases h; exact wp_skip (k E A w .normal (Env.le.refl E) S R trivial)
  | label l => intro E σ w a a' A e σ' Q S R h k; cases h; exact wp_label (k E A w .normal (Env.le.refl E) S R trivial)
  | region id ops draw => intro E σ w a a' A e σ' Q S R h k; exact hR id ops draw E σ w a a' A e σ' Q S R h k
  | seq x y ihx ihy =>
    intro E σ w a a' A e σ' Q S R h k
    refine wp_seq ?_
    simp only [execA] at h
    cases hx : execA T C x a σ with
    | none => rw [hx] at h; cases h
    | some r =>
      obtain ⟨e1, a1, σ1⟩ := r
      rw [hx] at h
      refine ihx E σ w a a1 A e1 σ1 _ S R hx ?_
      cases e1 with
      | norm =>
        intro E' A' w' x' hl S' R' hx'
        cases ex_norm hx'
        exact ihy E' σ1 w' a1 a' A' e σ' Q S' R' h (k.mono hl)
      | exit i => cases h; exact out_then k (by simp)
      | ret => cases h; exact out_then k (by simp)
      | pan v => cases h; exact out_then k (by simp)
  | cond c x y ihx ihy =>
    intro E σ w a a' A e σ' Q S R h k
    simp only [execA] at h
    split at h
    · rename_i t hc
      have hr := evRel R.tmps S.glob c _ hc
      generalize hv : A.eval c = v at hr
      cases hr
      refine wp_cond hv ?_
      cases t with
      | true => exact ihx E σ w a a' A e σ' Q S R h k
      | false => exact ihy E σ w a a' A e σ' Q S R h k
    · cases h
  | block id x ihx =>
    intro E σ w a a' A e σ' Q S R h k
    refine wp_block ?_
    simp only [execA] at h
    cases hx : execA T C x a σ with
    | none => rw [hx] at h; cases h
    | some r =>
      obtain ⟨e1, a1, σ1⟩ := r
      rw [hx] at h
      refine ihx E σ w a a1 A e1 σ1 _ S R hx ?_
      intro E' A' w' x' hl S' R' hx'
      cases e1 with
      | norm => cases h; cases ex_norm hx'; exact k E' A' w' .normal hl S' R' trivial
      | exit i =>
        cases x' <;> try exact hx'.elim
        rename_i j
        have hij : i = j := hx'
        subst hij
        simp only [nbeq] at h
        by_cases hi : i = id
        · subst hi
          simp only [decide_true, cond_true] at h
          cases h
          simp only [Exit.inBlock, if_true]
          exact k E' A' w' .normal hl S' R' trivial
        · simp only [hi, decide_false, cond_false] at h
          cases h
          simp only [Exit.inBlock, hi, if_false]
          exact k E' A' w' (.exit i) hl S' R' rfl
      | ret =>
        cases h
        cases x' <;> try exact hx'.elim
        exact k E' A' w' .ret hl S' R' trivial
      | pan v =>
        cases h
        cases x' <;> try exact hx'.elim
        exact k E' A' w' (.panic _) hl S' R' hx'
  | loop x ihx => intro E σ w a a' A e σ' Q S R h k; exact iter_ok ihx rounds S R h k
  | scope x ihx =>
    intro E σ w a a' A e σ' Q S R h k
    refine wp_scope_straight (ihx E σ w a a' A e σ' _ S R h ?_)
    intro E' A' w' x' hl S' R' hx'
    have := k E' A' w' x' hl S' R' hx'
    cases x' <;> first | exact this | (cases e <;> exact hx'.elim)
  | exit id => intro E σ w a a' A e σ' Q S R h k; cases h; exact wp_exit (k E A w (.exit id) (Env.le.refl E) S R rfl)
  | ret => intro E σ w a a' A e σ' Q S R h k; cases h; exact wp_ret (k E A w .ret (Env.le.refl E) S R trivial)
  | _ => intro E σ w a a' A e σ' Q S R h k; cases h
end
end Go.Proofs.YtgklmecijeadlaaGreatDoor.Ab
