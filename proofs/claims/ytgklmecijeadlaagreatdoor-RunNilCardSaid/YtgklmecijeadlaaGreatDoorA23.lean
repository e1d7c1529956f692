import Derived.Test.YtgklmecijeadlaaGreatDoorA22
import Derived.Orders
set_option linter.unusedSimpArgs false
set_option linter.unusedVariables false
set_option linter.unusedSectionVars false
namespace Go.Proofs.YtgklmecijeadlaaGreatDoor.Ab

/-! ### an operation sees its operands alone -/
theorem evals_congr {ev ev' : Operand → Option AV} : ∀ (l : List Operand), (∀ x ∈ l, ev x = ev' x) → evals ev l = evals ev' l
  | [], _ => rfl
  | x :: l, h => by
    simp only [evals]
    rw [h x (List.mem_cons_self ..), evals_congr l (fun y hy => h y (List.mem_cons_of_mem _ hy))]
theorem evalPs_congr {ev ev' : Operand → Option AV} : ∀ (l : List (Nat × Operand)), (∀ x ∈ l, ev x.2 = ev' x.2) → evalPs ev l = evalPs ev' l
  | [], _ => rfl
  | x :: l, h => by
    simp only [evalPs]
    rw [h x (List.mem_cons_self ..), evalPs_congr l (fun y hy => h y (List.mem_cons_of_mem _ hy))]
theorem evalO_congr {ev ev' : Operand → Option AV} : ∀ (o : Option Operand), (∀ x ∈ o.toArray.toList, ev x = ev' x) → evalO ev o = evalO ev' o
  | none, _ => rfl
  | some x, h => by simp only [evalO]; rw [h x (by simp)]

theorem stepA_congr {T : Tab} {C : Hand} {ev ev' : Operand → Option AV} (o : Oper) (σ : St) (h : ∀ x ∈ o.op.operands.toList, ev x = ev' x) : stepA T C ev o σ = stepA T C ev' o σ := by
  obtain ⟨dst, op, type, pos, after, guard⟩ := o
  cases op <;> simp only [Op.operands] at h <;> simp only [stepA]
  case build t ps => rw [evalPs_congr ps.toList (fun x hx => h x.2 (by simp; exact ⟨x.1, by simpa using hx⟩))]
  case buildSlice t n ps => rw [evalPs_congr ps.toList (fun x hx => h x.2 (by simp; exact ⟨x.1, by simpa using hx⟩))]
  case makeFunc fn a b => rw [evals_congr a.toList (fun x hx => h x (by simp; exact .inl (by simpa using hx))), evals_congr b.toList (fun x hx => h x (by simp; exact .inr (by simpa using hx)))]
  case makeMap t r =>
    cases r with
    | none => rfl
    | some r => simp only; rw [h r (by simp)]
  case slice t x lo hi mx =>
    rw [h x (by simp), evalO_congr lo (fun y hy => h y (by simp at hy ⊢; simp [hy])), evalO_congr hi (fun y hy => h y (by simp at hy ⊢; simp [hy])), evalO_congr mx (fun y hy => h y (by simp at hy ⊢; simp [hy]))]
  case call c =>
    have ha : evals ev c.args.toList = evals ev' c.args.toList := evals_congr _ (fun x hx => h x (by simp only [Call.operands]; simp; first | exact .inr (by simpa using hx) | exact .inl (by simpa using hx)))
    cases hc : c.callee with
    | value f => simp only [ha]; rw [h f (by simp [Call.operands, hc])]
    | invoke r m => simp only [ha]; rw [h r (by simp [Call.operands, hc])]
    | builtin b => simp only [ha]
  case defer c =>
    have ha : evals ev c.args.toList = evals ev' c.args.toList := evals_congr _ (fun x hx => h x (by simp only [Call.operands]; simp; first | exact .inr (by simpa using hx) | exact .inl (by simpa using hx)))
    cases hc : c.callee with
    | value f => simp only [ha]; rw [h f (by simp [Call.operands, hc])]
    | invoke r m => rfl
    | builtin b => rfl
  case next x str =>
    cases str with
    | true => simp only; rw [h x (by simp)]
    | false => rfl
  all_goals first
    | rfl
    | (simp only [List.mem_cons, List.not_mem_nil, or_false, forall_eq_or_imp, forall_eq] at h; simp only [h])

open Classical in
noncomputable def restr (o : Oper) (ev : Operand → Option AV) : Operand → Option AV := fun x => if x ∈ o.op.operands.toList then ev x else none

theorem called_not_defer {r : Option (ER × St)} {g : AV} {args : List AV} {s : Option St} : called r ≠ some (.defer g args, s) := by
  intro h
  unfold called at h
  split at h <;> cases h
theorem one_not_defer {r : Option AV} {g : AV} {args : List AV} {s : Option St} : one r ≠ some (.defer g args, s) := by
  intro h; obtain ⟨a, _, e⟩ := one_some h; cases e
theorem two_not_defer {r : Option (AV × Option St)} {g : AV} {args : List AV} {s : Option St} : two r ≠ some (.defer g args, s) := by
  intro h; obtain ⟨a, _, _, e⟩ := two_some h; cases e
theorem three_not_defer {r : Option (AV × St)} {g : AV} {args : List AV} {s : Option St} : three r ≠ some (.defer g args, s) := by
  intro h; obtain ⟨a, _, _, e⟩ := three_some h; cases e
theorem skp_not_defer {r : Option St} {g : AV} {args : List AV} {s : Option St} : skp r ≠ some (.defer g args, s) := by
  intro h; obtain ⟨_, _, e⟩ := skp_some h; cases e
theorem builtinA_not_defer {T : Tab} {C : Hand} {σ : St} {b : Builtin} {ts : List TypeId} {rt : TypeId} {xs : List AV} {g : AV} {args : List AV} {s : Option St} : builtinA T C σ b ts rt xs ≠ some (.defer g args, s) := by
  intro h
  unfold builtinA at h
  simp only [Bool.cond_eq_ite] at h
  repeat' split at h
  all_goals first
    | exact one_not_defer h
    | exact two_not_defer h
    | exact three_not_defer h
    | cases h

theorem stepA_not_defer {T : Tab} {C : Hand} {ev : Operand → Option AV} {o : Oper} {σ : St} {g : AV} {args : List AV} {s : Option St} (hd : isDefer o = false) : stepA T C ev o σ ≠ some (.defer g args, s) := by
  intro h
  unfold stepA at h
  split at h
  all_goals try simp only [Bool.cond_eq_ite] at h
  all_goals try (repeat' split at h)
  all_goals first
    | (cases h; done)
    | exact one_not_defer h
    | exact two_not_defer h
    | exact three_not_defer h
    | exact skp_not_defer h
    | exact called_not_defer h
    | exact builtinA_not_defer h
    | (simp_all [isDefer]; done)

theorem valAt_put {E : Env} {o : Oper} {a : AA} {v : AV} {vv : Value} (h : Rel E v vv) : Rel E (valAt o (a.put o.dst v)) vv := by
  unfold valAt
  cases hd : o.dst with
  | none => exact .junk
  | some d =>
    simp only [AA.put]
    by_cases hl : d < a.tmps.length
    · rw [List.getD_eq_getElem?_getD, List.getElem?_set_self hl]; exact h
    · rw [List.getD_eq_getElem?_getD, List.getElem?_eq_none (by simpa using hl)]; exact .junk

section
variable {T : Tab} {P : Program} (hT : TabOk T P) {C : Hand} (hC : HandOk T P C) {K : Nat → Prop} {W : World}
include hT hC

/-- an operation, where only its operands are known -/
theorem stepOpD_ok {E : Env} {σ : St} {w : World} (S : Sim T K W E σ w) {a a' : AA} {A : Act} {ops : Array Oper} {o : Oper} {e : Ex} {s : Option St} {i : Nat} (hi : ops[i]? = some o)
    (hops : ∀ x, x ∈ o.op.operands.toList → ∀ v, evalA T a.tmps x = some v → Rel E v (A.eval x)) (hwant : ∀ bb, wantedA ops.toList a.tmps o = some bb → Region.wanted o (yielded ops A.tmps) = bb) (hnd : isDefer o = false)
    (h : stepOp T C ops.toList o a σ = some (e, a', s)) {next : Act → World → Prop} {Q : Exit → Act → World → Prop}
    (kn : e = .norm → ∀ E' w' vv, E.le E' → Sim T K W E' (s.getD σ) w' → Rel E' (valAt o a') vv → next (A.put o.dst vv) w')
    (kp : ∀ v, e = .pan v → ∀ E' w' vv, E.le E' → Sim T K W E' (s.getD σ) w' → Rel E' v vv → Q (.panic [{ v := vv, recovered := false }]) A w') : wpOp P ops Q i next A w := by
  unfold wpOp
  rw [hi]
  simp only
  unfold stepOp at h
  split at h
  · rename_i hw
    rw [if_pos (hwant _ hw)]
    refine .inl ?_
    have hcong : ∀ σ, stepA T C (restr o (evalA T a.tmps)) o σ = stepA T C (evalA T a.tmps) o σ := fun σ => stepA_congr o σ (fun x hx => by unfold restr; rw [if_pos hx])
    have hev : EvRel E (restr o (evalA T a.tmps)) A.eval := by
      intro x v hx
      unfold restr at hx
      split at hx
      · rename_i hm; exact hops x hm v hx
      · cases hx
    rw [← hcong] at h
    split at h
    · rename_i v s' hs
      cases h
      exact stepA_ok hT hC S hs hev (fun v' w' E' hl S' hr => kn rfl E' w' v' hl S' (valAt_put hr))
    · rename_i s' hs
      cases h
      exact stepA_ok hT hC S hs hev (fun w' E' hl S' => kn rfl E' w' undef hl S' (valAt_put rel_undef))
    · rename_i f args s' hs
      exact absurd hs (stepA_not_defer hnd)
    · rename_i v s' hs
      cases h
      exact stepA_ok hT hC S hs hev (fun v' w' E' hl S' hr => kp v rfl E' w' v' hl S' hr)
    · cases h
  · rename_i hw
    cases h
    rw [hwant _ hw]
    simp only [Bool.false_eq_true, if_false]
    exact kn rfl E w undef (Env.le.refl E) S (valAt_put rel_undef)
  · cases h
end

/-! ### which operations stand ahead -/
def foldB (acc : List Nat) (es : List Edge) (s : Nat) : Nat := es.foldl (fun s e => bif Region.binds .any e then s ||| 2 ^ e.on ||| acc.getD e.on 0 else s) s

theorem foldB_bit {acc : List Nat} {i : Nat} : ∀ (es : List Edge) (s : Nat), (foldB acc es s).testBit i = true → s.testBit i = true ∨ ∃ e ∈ es, Region.binds .any e = true ∧ (e.on = i ∨ (acc.getD e.on 0).testBit i = true)
  | [], s, h => .inl h
  | e :: es, s, h => by
    simp only [foldB, List.foldl_cons] at h
    rcases foldB_bit es _ h with h | ⟨e', h1, h2⟩
    · cases hb : Region.binds .any e with
      | false => rw [hb] at h; exact .inl h
      | true =>
        rw [hb] at h
        simp only [cond_true, Nat.testBit_or, Bool.or_eq_true] at h
        rcases h with (h | h) | h
        · exact .inl h
        · rw [Nat.testBit_two_pow] at h
          exact .inr ⟨e, List.mem_cons_self .., hb, .inl (by simpa using h)⟩
        · exact .inr ⟨e, List.mem_cons_self .., hb, .inr h⟩
    · exact .inr ⟨e', List.mem_cons_of_mem _ h1, h2⟩

theorem foldB_congr {acc acc' : List Nat} : ∀ (es : List Edge) (s : Nat), (∀ e ∈ es, Region.binds .any e = true → acc.getD e.on 0 = acc'.getD e.on 0) → foldB acc es s = foldB acc' es s
  | [], s, h => rfl
  | e :: es, s, h => by
    simp only [foldB, List.foldl_cons]
    cases hb : Region.binds .any e with
    | false => exact foldB_congr es _ (fun e' he => h e' (List.mem_cons_of_mem _ he))
    | true =>
      simp only [cond_true]
      rw [h e (List.mem_cons_self ..) hb]
      exact foldB_congr es _ (fun e' he => h e' (List.mem_cons_of_mem _ he))

theorem befores_spec : ∀ (l : List Oper) (acc : List Nat), (∀ k, k < acc.length → (befores l acc).getD k 0 = acc.getD k 0) ∧
    ∀ k o, l[k]? = some o → (∀ e ∈ o.after.toList, Region.binds .any e = true → e.on < acc.length + k) → (befores l acc).getD (acc.length + k) 0 = foldB (befores l acc) o.after.toList 0
  | [], acc => ⟨fun _ _ => rfl, fun k o h => by simp at h⟩
  | o :: l, acc => by
    simp only [befores]
    obtain ⟨h1, h2⟩ := befores_spec l (acc ++ [foldB acc o.after.toList 0])
    have hx : ∀ k, k < acc.length → (befores l (acc ++ [foldB acc o.after.toList 0])).getD k 0 = acc.getD k 0 := by
      intro k hk
      rw [h1 k (by simp; omega)]
      simp [List.getElem?_append_left hk]
    refine ⟨hx, ?_⟩
    intro k o' ho he
    cases k with
    | zero =>
      simp at ho
      subst ho
      show (befores l (acc ++ [foldB acc o.after.toList 0])).getD (acc.length + 0) 0 = _
      rw [h1 (acc.length + 0) (by simp)]
      have : (acc ++ [foldB acc o.after.toList 0]).getD (acc.length + 0) 0 = foldB acc o.after.toList 0 := by simp
      rw [this]
      exact foldB_congr _ _ (fun e hm hb => (hx e.on (by simpa using he e hm hb)).symm)
    | succ k =>
      have := h2 k o' (by simpa using ho) (fun e hm hb => by have := he e hm hb; simp; omega)
      simp only [List.length_append, List.length_cons, List.length_nil] at this
      rw [show acc.length + (k + 1) = acc.length + (0 + 1) + k by omega]
      exact this

/-- a bit says: an edge leads there -/
theorem bit_edge {L : List Oper} {j i : Nat} {o : Oper} (ho : L[j]? = some o) (he : ∀ e ∈ o.after.toList, Region.binds .any e = true → e.on < j) (h : bit (befores L []) j i = true) :
    ∃ e ∈ o.after.toList, Region.binds .any e = true ∧ (e.on = i ∨ bit (befores L []) e.on i = true) := by
  have := (befores_spec L []).2 j o ho (fun e hm hb => by simpa using he e hm hb)
  simp only [List.length_nil, Nat.zero_add] at this
  unfold bit at h
  rw [this] at h
  rcases foldB_bit _ _ h with h | h
  · simp at h
  · exact h

/-- done operations are closed under the edges -/
def Closed (L : List Oper) (D : Nat → Prop) : Prop := ∀ j o, L[j]? = some o → D j → ∀ e ∈ o.after.toList, Region.binds .any e = true → D e.on
def Edges (L : List Oper) : Prop := ∀ j o, L[j]? = some o → ∀ e ∈ o.after.toList, Region.binds .any e = true → e.on < j

theorem closed_bit {L : List Oper} {D : Nat → Prop} (hD : Closed L D) (hE : Edges L) : ∀ (j : Nat) {o : Oper}, L[j]? = some o → (∀ e ∈ o.after.toList, Region.binds .any e = true → D e.on) → ∀ {i : Nat}, bit (befores L []) j i = true → D i := by
  intro j
  induction j using Nat.strongRecOn with
  | _ j ih =>
    intro o ho hr i hb
    obtain ⟨e, hm, hbd, h⟩ := bit_edge ho (hE j o ho) hb
    rcases h with rfl | h
    · exact hr e hm hbd
    · have hlt := hE j o ho e hm hbd
      have hlen : e.on < L.length := by
        rcases Nat.lt_or_ge j L.length with h' | h'
        · omega
        · rw [List.getElem?_eq_none h'] at ho; cases ho
      have ho' : L[e.on]? = some L[e.on] := List.getElem?_eq_getElem hlen
      exact ih e.on hlt ho' (hD _ _ ho' (hr e hm hbd)) h
end Go.Proofs.YtgklmecijeadlaaGreatDoor.Ab
