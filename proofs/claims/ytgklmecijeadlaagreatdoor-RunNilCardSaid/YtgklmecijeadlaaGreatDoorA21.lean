import Derived.Test.YtgklmecijeadlaaGreatDoorA20
set_option linter.unusedSimpArgs false
set_option linter.unusedVariables false
set_option linter.unusedSectionVars false
namespace Go.Proofs.YtgklmecijeadlaaGreatDoor.Ab

/-! ### what a run leaves as it was -/
structure Grow (σ σ' : St) : Prop where
  keys : ∃ new old, σ'.blks = new ++ old ∧ old.map (·.1) = σ.blks.map (·.1) ∧ ∀ p ∈ new, σ.next ≤ p.1
  next : σ.next ≤ σ'.next
  log : ∀ s, s ∈ σ.log → s ∈ σ'.log
  same : ∀ s, s < σ.next → s ∉ σ'.log → σ'.get s = σ.get s

theorem Grow.refl {σ : St} : Grow σ σ := ⟨⟨[], σ.blks, rfl, rfl, fun p h => by cases h⟩, Nat.le_refl _, fun _ h => h, fun _ _ _ => rfl⟩

theorem Grow.trans {a b c : St} (h : Grow a b) (h' : Grow b c) : Grow a c := by
  refine ⟨?_, Nat.le_trans h.next h'.next, fun s hs => h'.log s (h.log s hs), fun s hs hl => ?_⟩
  · obtain ⟨n1, o1, e1, k1, f1⟩ := h.keys
    obtain ⟨n2, o2, e2, k2, f2⟩ := h'.keys
    rw [e1, List.map_append] at k2
    obtain ⟨l1, l2, rfl, h3, h4⟩ := List.map_eq_append_iff.1 k2
    refine ⟨n2 ++ l1, l2, by rw [e2, List.append_assoc], by rw [h4, k1], ?_⟩
    intro p hp
    rcases List.mem_append.1 hp with hp | hp
    · exact Nat.le_trans h.next (f2 p hp)
    · have : p.1 ∈ n1.map (·.1) := by rw [← h3]; exact List.mem_map.2 ⟨p, hp, rfl⟩
      obtain ⟨q, hq, e⟩ := List.mem_map.1 this
      rw [← e]; exact f1 q hq
  · rw [h'.same s (Nat.lt_of_lt_of_le hs h.next) hl, h.same s hs (fun hc => hl (h'.log s hc))]

theorem chng_keys {s : Nat} {C : Blk} : ∀ (l : List (Nat × Blk)), (chng l s C).map (·.1) = l.map (·.1)
  | [] => rfl
  | (k, B) :: l => by
    simp only [chng]
    cases Nat.beq k s <;> simp [chng_keys l]

theorem look_chng_ne {s t : Nat} {C : Blk} (h : s ≠ t) : ∀ (l : List (Nat × Blk)), look (chng l s C) t = look l t
  | [] => rfl
  | (k, B) :: l => by
    simp only [chng]
    cases hk : Nat.beq k s with
    | true =>
      have := nbeq_iff.1 hk
      subst this
      have : Nat.beq k t = false := by rw [nbeq]; simp [h]
      simp [look, this]
    | false =>
      simp only [cond_false, look]
      rw [look_chng_ne h l]

theorem Grow.put {σ : St} {s : Nat} {B : Blk} : Grow σ (σ.put s B) := by
  refine ⟨⟨[], (σ.put s B).blks, rfl, chng_keys _, fun p h => by cases h⟩, Nat.le_refl _, fun t h => List.mem_cons_of_mem _ h, ?_⟩
  intro t ht hl
  have : s ≠ t := fun e => hl (by subst e; exact List.mem_cons_self ..)
  exact look_chng_ne this _

theorem Grow.new {σ : St} {B : Blk} : Grow σ (σ.new B) := by
  refine ⟨⟨[(σ.next, B)], σ.blks, rfl, rfl, ?_⟩, Nat.le_succ _, fun t h => h, ?_⟩
  · intro p hp
    simp at hp
    subst hp
    exact Nat.le_refl _
  · intro t ht hl
    rw [get_new, if_neg (Nat.ne_of_gt ht)]

variable {T : Tab} {σ : St}

theorem storeA_grow {t : TypeId} {p v : AV} {s : St} (h : storeA T σ t p v = some s) : Grow σ s := by
  unfold storeA at h
  simp only [Bool.cond_eq_ite] at h
  repeat' split at h
  all_goals first | (cases h; exact .put) | cases h

theorem appendIn_grow {e : TypeId} {s x r : AV} {σ' : Option St} (h : appendIn T σ e s x = some (r, σ')) : Grow σ (σ'.getD σ) := by
  unfold appendIn at h
  simp only [Bool.cond_eq_ite] at h
  repeat' split at h
  all_goals first | (cases h; exact .put) | (cases h; exact .new) | (cases h; exact .refl) | cases h

theorem appendA_grow {ts tx : TypeId} {s x r : AV} {σ' : Option St} (h : appendA T σ ts tx s x = some (r, σ')) : Grow σ (σ'.getD σ) := by
  unfold appendA at h
  split at h
  · exact appendIn_grow h
  · exact appendIn_grow h
  · cases h

theorem copyA_grow {ts : TypeId} {d x r : AV} {s : St} (h : copyA T σ ts d x = some (r, s)) : Grow σ s := by
  unfold copyA at h
  simp only [Bool.cond_eq_ite] at h
  repeat' split at h
  all_goals first | (cases h; exact .put) | (cases h; exact .refl) | cases h

theorem mark1_grow {s : Nat} : Grow σ (σ.mark1 s) := by
  unfold St.mark1
  split
  · exact .put
  · exact .put
  · exact .refl
theorem markAll_grow : ∀ (l : List Nat) {σ : St}, Grow σ (σ.markAll l)
  | [], _ => .refl
  | s :: l, σ => (mark1_grow (s := s)).trans (markAll_grow l)
theorem freeze_grow {v v' : AV} {σ' : St} (h : freeze T σ v = some (v', σ')) : Grow σ σ' := by
  unfold freeze at h
  simp only [Bool.cond_eq_ite] at h
  split at h
  · cases h; exact .refl
  · split at h
    · cases h; exact markAll_grow _
    · cases h

theorem sliceA_grow {t : TypeId} {x r : AV} {lo hi mx : Option AV} {s : Option St} (h : sliceA T σ t x lo hi mx = some (r, s)) : Grow σ (s.getD σ) := by
  unfold sliceA at h
  simp only [Bool.cond_eq_ite] at h
  repeat' split at h
  all_goals first | (cases h; exact .put) | (cases h; exact .new) | (cases h; exact .refl) | cases h | skip
  all_goals simp only [Option.map_eq_some_iff] at h
  all_goals (obtain ⟨a, _, h⟩ := h; cases h; first | exact .refl | exact freeze_grow (by assumption))

theorem buildSliceA_grow {t : TypeId} {n : Nat} {ps : List (Nat × AV)} {r : AV} {s : Option St} (h : buildSliceA T σ t n ps = some (r, s)) : Grow σ (s.getD σ) := by
  unfold buildSliceA at h
  simp only [Bool.cond_eq_ite] at h
  repeat' split at h
  all_goals first | (cases h; exact .put) | (cases h; exact .new) | (cases h; exact .refl) | cases h

theorem makeSliceA_grow {t : TypeId} {l c r : AV} {s : St} (h : makeSliceA T σ t l c = some (r, s)) : Grow σ s := by
  unfold makeSliceA at h
  simp only [Bool.cond_eq_ite] at h
  repeat' split at h
  all_goals first | (cases h; exact .put) | (cases h; exact .new) | (cases h; exact .refl) | cases h

theorem convertA_grow {a b : TypeId} {x r : AV} {s : Option St} (h : convertA T σ a b x = some (r, s)) : Grow σ (s.getD σ) := by
  unfold convertA at h
  simp only [Bool.cond_eq_ite] at h
  repeat' split at h
  all_goals first | (cases h; exact .put) | (cases h; exact .new) | (cases h; exact .refl) | cases h | skip

theorem mapUpdateA_grow {t : TypeId} {m k v : AV} {s : St} (h : mapUpdateA T σ t m k v = some s) : Grow σ s := by
  unfold mapUpdateA at h
  simp only [Bool.cond_eq_ite] at h
  repeat' split at h
  all_goals first | (cases h; exact .put) | (cases h; exact .new) | (cases h; exact .refl) | cases h | skip

def GrowC (C : Hand) : Prop := ∀ f args σ r σ', C f args σ = some (r, σ') → Grow σ σ'

theorem called_grow {C : Hand} (hC : GrowC C) {f : FuncId} {args : List AV} {r : SR} {s : Option St} (h : called (C f args σ) = some (r, s)) : Grow σ (s.getD σ) := by
  cases hc : C f args σ with
  | none => rw [hc] at h; cases h
  | some q =>
    obtain ⟨e, σ'⟩ := q
    rw [hc] at h
    have := hC f args σ e σ' hc
    cases e <;> (cases h; exact this)

theorem builtinA_grow {C : Hand} {b : Builtin} {ts : List TypeId} {rt : TypeId} {args : List AV} {r : SR} {s : Option St} (h : builtinA T C σ b ts rt args = some (r, s)) : Grow σ (s.getD σ) := by
  unfold builtinA at h
  simp only [Bool.cond_eq_ite] at h
  split at h
  · obtain ⟨a, _, e⟩ := one_some h; cases e; exact .refl
  · obtain ⟨a, _, e⟩ := one_some h; cases e; exact .refl
  · obtain ⟨a, s', h1, e⟩ := two_some h; cases e; exact appendA_grow h1
  · obtain ⟨a, s', h1, e⟩ := three_some h; cases e; exact copyA_grow h1
  · obtain ⟨a, _, e⟩ := one_some h; cases e; exact .refl
  · obtain ⟨a, _, e⟩ := one_some h; cases e; exact .refl
  · cases h; exact .refl
  · repeat' split at h
    all_goals first | (cases h; exact .refl) | cases h
  · repeat' split at h
    all_goals first | (cases h; exact .put) | (cases h; exact .refl) | cases h
  · cases h

theorem stepA_grow {C : Hand} (hC : GrowC C) {ev : Operand → Option AV} {o : Oper} {r : SR} {s : Option St} (h : stepA T C ev o σ = some (r, s)) : Grow σ (s.getD σ) := by
  unfold stepA at h
  split at h
  all_goals try simp only [Bool.cond_eq_ite] at h
  all_goals repeat' split at h
  all_goals first
    | (cases h; done)
    | (cases h; exact .refl)
    | (cases h; exact .put)
    | (cases h; exact .new)
    | exact called_grow hC h
    | exact builtinA_grow h
    | (obtain ⟨a, _, e⟩ := one_some h; cases e; exact .refl)
    | (obtain ⟨a, s', h1, e⟩ := two_some h; cases e; exact buildSliceA_grow h1)
    | (obtain ⟨a, s', h1, e⟩ := two_some h; cases e; exact convertA_grow h1)
    | (obtain ⟨a, s', h1, e⟩ := two_some h; cases e; exact sliceA_grow h1)
    | (obtain ⟨a, s', h1, e⟩ := three_some h; cases e; exact makeSliceA_grow h1)
    | (obtain ⟨s', h1, e⟩ := skp_some h; cases e; exact storeA_grow h1)
    | (obtain ⟨s', h1, e⟩ := skp_some h; cases e; exact mapUpdateA_grow h1)

/-! a run of code -/
theorem stepOp_grow {C : Hand} (hC : GrowC C) {ops : List Oper} {o : Oper} {a a' : AA} {e : Ex} {s : Option St} (h : stepOp T C ops o a σ = some (e, a', s)) : Grow σ (s.getD σ) := by
  unfold stepOp at h
  split at h
  · split at h
    · rename_i hs; cases h; exact stepA_grow hC hs
    · rename_i hs; cases h; exact stepA_grow hC hs
    · rename_i hs; cases h; exact stepA_grow hC hs
    · rename_i hs; cases h; exact stepA_grow hC hs
    · cases h
  · cases h; exact .refl
  · cases h

theorem runOps_grow {C : Hand} (hC : GrowC C) {ops : List Oper} : ∀ (l : List Oper) {a a' : AA} {σ σ' : St} {e : Ex}, runOps T C ops l a σ = some (e, a', σ') → Grow σ σ'
  | [], a, a', σ, σ', e, h => by cases h; exact .refl
  | o :: l, a, a', σ, σ', e, h => by
    simp only [runOps] at h
    split at h
    · rename_i hs; exact (stepOp_grow hC hs).trans (runOps_grow hC l h)
    · rename_i hs; cases h; exact stepOp_grow hC hs
    · cases h

theorem runRec_grow {C : Hand} (hC : GrowC C) {ops : List Oper} : ∀ (l : List Oper) {i : Nat} {a a' : AA} {σ σ' : St} {e : Ex} {acc recs : List Rec}, runRec T C ops l i a σ acc = some (e, a', σ', recs) → Grow σ σ'
  | [], i, a, a', σ, σ', e, acc, recs, h => by cases h; exact .refl
  | o :: l, i, a, a', σ, σ', e, acc, recs, h => by
    simp only [runRec] at h
    split at h
    · rename_i hs; exact (stepOp_grow hC hs).trans (runRec_grow hC l h)
    · rename_i hs; cases h; exact stepOp_grow hC hs
    · cases h

theorem regA_grow {C : Hand} (hC : GrowC C) {ops : Array Oper} {draw : Bool} {a a' : AA} {σ σ' : St} {e : Ex} (h : regA T C ops draw a σ = some (e, a', σ')) : Grow σ σ' := by
  unfold regA at h
  cases draw with
  | false => exact runOps_grow hC _ h
  | true =>
    simp only [cond_true] at h
    split at h
    · rename_i hs
      simp only [Bool.cond_eq_ite] at h
      split at h
      · cases h; exact runRec_grow hC _ hs
      · cases h
    · rename_i hs
      simp only [Bool.cond_eq_ite] at h
      split at h
      · cases h; exact runRec_grow hC _ hs
      · cases h
    · cases h

theorem iterA_grow {f : AA → St → Option (Ex × AA × St)} (hf : ∀ a σ e a' σ', f a σ = some (e, a', σ') → Grow σ σ') : ∀ (n : Nat) {a a' : AA} {σ σ' : St} {e : Ex}, iterA f n a σ = some (e, a', σ') → Grow σ σ'
  | 0, a, a', σ, σ', e, h => by cases h
  | n + 1, a, a', σ, σ', e, h => by
    simp only [iterA] at h
    split at h
    · rename_i hs; exact (hf _ _ _ _ _ hs).trans (iterA_grow hf n h)
    · exact hf _ _ _ _ _ h

theorem execA_grow {C : Hand} (hC : GrowC C) : ∀ (c : Code) (a : AA) (σ : St) (e : Ex) (a' : AA) (σ' : St), execA T C c a σ = some (e, a', σ') → Grow σ σ' := by
  intro c
  induction c with
  | skip => intro a σ e a' σ' h; cases h; exact .refl
  | label l => intro a σ e a' σ' h; cases h; exact .refl
  | exit l => intro a σ e a' σ' h; cases h; exact .refl
  | ret => intro a σ e a' σ' h; cases h; exact .refl
  | region id ops draw => intro a σ e a' σ' h; exact regA_grow hC h
  | seq x y ihx ihy =>
    intro a σ e a' σ' h
    simp only [execA] at h
    split at h
    · rename_i hs; exact (ihx _ _ _ _ _ hs).trans (ihy _ _ _ _ _ h)
    · exact ihx _ _ _ _ _ h
  | cond c x y ihx ihy =>
    intro a σ e a' σ' h
    simp only [execA, Bool.cond_eq_ite] at h
    split at h
    · split at h
      · exact ihx _ _ _ _ _ h
      · exact ihy _ _ _ _ _ h
    · cases h
  | block id x ihx =>
    intro a σ e a' σ' h
    simp only [execA, Bool.cond_eq_ite] at h
    split at h
    · rename_i hs
      split at h <;> (cases h; exact ihx _ _ _ _ _ hs)
    · exact ihx _ _ _ _ _ h
  | loop x ihx => intro a σ e a' σ' h; exact iterA_grow ihx _ h
  | scope x ihx => intro a σ e a' σ' h; exact ihx _ _ _ _ _ h
  | _ => intro a σ e a' σ' h; cases h

theorem runOpsD_grow {C : Hand} (hC : GrowC C) {ops : List Oper} : ∀ (l : List Oper) {a a' : AA} {σ σ' : St} {e : Ex} {u u' : Pan}, runOpsD T C ops l a σ u = some (e, a', σ', u') → Grow σ σ'
  | [], a, a', σ, σ', e, u, u', h => by cases h; exact .refl
  | o :: l, a, a', σ, σ', e, u, u', h => by
    simp only [runOpsD] at h
    split at h
    · split at h
      · split at h <;> exact runOpsD_grow hC l h
      · exact runOpsD_grow hC l h
      · cases h
    · split at h
      · rename_i hs; exact (stepOp_grow hC hs).trans (runOpsD_grow hC l h)
      · rename_i hs; cases h; exact stepOp_grow hC hs
      · cases h

theorem execD_grow {C : Hand} (hC : GrowC C) : ∀ (c : Code) (a : AA) (σ : St) (u : Pan) (e : Ex) (a' : AA) (σ' : St) (u' : Pan), execD T C c a σ u = some (e, a', σ', u') → Grow σ σ' := by
  intro c
  have plain : ∀ c, (∀ a σ u, execD T C c a σ u = (execA T C c a σ).map fun r => (r.1, r.2.1, r.2.2, u)) → ∀ (a : AA) (σ : St) (u : Pan) (e : Ex) (a' : AA) (σ' : St) (u' : Pan), execD T C c a σ u = some (e, a', σ', u') → Grow σ σ' := by
    intro c hc a σ u e a' σ' u' h
    rw [hc] at h
    cases hx : execA T C c a σ with
    | none => rw [hx] at h; cases h
    | some r => rw [hx] at h; cases h; exact execA_grow hC c a σ r.1 r.2.1 r.2.2 hx
  induction c with
  | seq x y ihx ihy =>
    intro a σ u e a' σ' u' h
    simp only [execD] at h
    split at h
    · rename_i hs; exact (ihx _ _ _ _ _ _ _ hs).trans (ihy _ _ _ _ _ _ _ h)
    · exact ihx _ _ _ _ _ _ _ h
  | cond c x y ihx ihy =>
    intro a σ u e a' σ' u' h
    simp only [execD, Bool.cond_eq_ite] at h
    split at h
    · split at h
      · exact ihx _ _ _ _ _ _ _ h
      · exact ihy _ _ _ _ _ _ _ h
    · cases h
  | region id ops draw =>
    cases draw with
    | true => exact plain _ (fun _ _ _ => rfl)
    | false => intro a σ u e a' σ' u' h; exact runOpsD_grow hC _ h
  | _ => exact plain _ (fun _ _ _ => rfl)

theorem leaveA_grow {C : Hand} (hC : GrowC C) : ∀ (l : List (AV × List AV)) {u u' : Option AV} {σ σ' : St}, leaveA T C l u σ = some (u', σ') → Grow σ σ'
  | [], u, u', σ, σ', h => by cases h; exact .refl
  | (g, args) :: l, u, u', σ, σ', h => by
    simp only [leaveA] at h
    split at h
    · split at h
      · split at h
        · split at h
          · rename_i hx; split at h
            · exact (execD_grow hC _ _ _ _ _ _ _ _ hx).trans (leaveA_grow hC l h)
            · cases h
          · rename_i hx; split at h
            · exact (execD_grow hC _ _ _ _ _ _ _ _ hx).trans (leaveA_grow hC l h)
            · cases h
          · cases h
        · cases h
      · cases h
    · cases h
end Go.Proofs.YtgklmecijeadlaaGreatDoor.Ab
