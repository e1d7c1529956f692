import Derived.Test.YtgklmecijeadlaaGreatDoorA21
set_option linter.unusedSimpArgs false
set_option linter.unusedVariables false
set_option linter.unusedSectionVars false
namespace Go.Proofs.YtgklmecijeadlaaGreatDoor.Ab

/-! ### what a call made is let go -/
theorem BlkRel.noRef {T : Tab} {E : Env} {w : World} {b cap g : Nat} {B : Blk} (h : BlkRel T E w b cap g B) : B.noRef E.next = true := by
  cases B with
  | cells c te m => obtain ⟨_, _, cs, h⟩ := h; exact noRefs_iff.2 (fun i a hi => (h.rel i a hi).noRef)
  | arr g' c te m => obtain ⟨_, cs, fz, h⟩ := h; exact noRefs_iff.2 (fun i a hi => (h.rel i a hi).noRef)
  | map es =>
    obtain ⟨_, _, ms, cl, h⟩ := h
    simp only [Blk.noRef, List.all_eq_true]
    intro p hp
    obtain ⟨i, hi⟩ := List.mem_iff_getElem?.1 hp
    obtain ⟨m, _, r1, r2⟩ := h.rel i p hi
    rw [r1.noRef, r2.noRef]; rfl
  | iter s p => rfl

theorem BlkRel.cut {T : Tab} {E : Env} {w : World} {b cap g n : Nat} {B : Blk} (h : BlkRel T E w b cap g B) (hn : B.noRef n = true) : BlkRel T (E.cut n) w b cap g B := by
  cases B with
  | cells c te m => obtain ⟨h1, h2, cs, h⟩ := h; exact ⟨h1, h2, cs, h.heap, h.len, fun i a hi => (h.rel i a hi).cut (noRefs_iff.1 hn i a hi), h.flat, h.ro, h.own⟩
  | arr g' c te m => obtain ⟨h1, cs, fz, h⟩ := h; exact ⟨h1, cs, fz, h.pos, h.heap, h.le, h.room, fun i a hi => (h.rel i a hi).cut (noRefs_iff.1 hn i a hi), h.flat, h.fr0, h.fr1, h.ro, h.own⟩
  | map es =>
    obtain ⟨h1, h2, ms, cl, h⟩ := h
    refine ⟨h1, h2, ms, cl, h.heap, h.len, fun i p hi => ?_, h.own⟩
    obtain ⟨m, hm, r1, r2⟩ := h.rel i p hi
    simp only [Blk.noRef, List.all_eq_true] at hn
    have := hn p (List.mem_iff_getElem?.2 ⟨i, hi⟩)
    rw [Bool.and_eq_true] at this
    exact ⟨m, hm, r1.cut this.1, r2.cut this.2⟩
  | iter s p => exact h

theorem look_mem : ∀ {l : List (Nat × Blk)} {s : Nat} {B : Blk}, look l s = some B → ∃ p ∈ l, p.1 = s
  | [], s, B, h => by cases h
  | (k, C) :: l, s, B, h => by
    simp only [look] at h
    cases hk : Nat.beq k s with
    | true => exact ⟨(k, C), List.mem_cons_self .., nbeq_iff.1 hk⟩
    | false =>
      rw [hk] at h
      obtain ⟨p, hp, e⟩ := look_mem h
      exact ⟨p, List.mem_cons_of_mem _ hp, e⟩

theorem look_of_mem : ∀ {l : List (Nat × Blk)} {s : Nat}, (∃ p ∈ l, p.1 = s) → ∃ B, look l s = some B
  | [], s, h => by obtain ⟨p, hp, _⟩ := h; cases hp
  | (k, C) :: l, s, h => by
    simp only [look]
    cases hk : Nat.beq k s with
    | true => exact ⟨C, rfl⟩
    | false =>
      obtain ⟨p, hp, e⟩ := h
      rcases List.mem_cons.1 hp with rfl | hp
      · subst e; rw [nbeq] at hk; simp at hk
      · exact look_of_mem ⟨p, hp, e⟩

theorem look_append {n s : Nat} : ∀ {new : List (Nat × Blk)} {old : List (Nat × Blk)}, (∀ p ∈ new, n ≤ p.1) → s < n → look (new ++ old) s = look old s
  | [], old, _, _ => rfl
  | (k, C) :: l, old, h, hs => by
    have hk : Nat.beq k s = false := by
      have := h (k, C) (List.mem_cons_self ..)
      rw [nbeq]; simp; simp only at this; omega
    simp only [List.cons_append, look, hk, cond_false]
    exact look_append (fun p hp => h p (List.mem_cons_of_mem _ hp)) hs

theorem popA_grow {σ0 σ : St} {v : AV} (G : Grow { σ0 with log := [] } σ) : Grow σ0 (popA σ0 σ v) := by
  obtain ⟨new, old, e, k, f⟩ := G.keys
  have hlen : old.length = σ0.blks.length := by simpa using congrArg List.length k
  unfold popA
  simp only [Bool.cond_eq_ite]
  split
  · rename_i hc
    have hd : σ.blks.drop (σ.blks.length - σ0.blks.length) = old := by
      rw [e, List.length_append, hlen, Nat.add_sub_cancel, List.drop_left]
    refine ⟨⟨[], old, by simpa using hd, k, fun p hp => by cases hp⟩, Nat.le_refl _, fun s hs => List.mem_append.2 (.inr hs), ?_⟩
    intro s hs hl
    have hl' : s ∉ σ.log := fun hm => hl (List.mem_append.2 (.inl (List.mem_filter.2 ⟨hm, blt_iff.2 hs⟩)))
    have := G.same s hs hl'
    show look (σ.blks.drop (σ.blks.length - σ0.blks.length)) s = _
    rw [hd]
    rw [← look_append (old := old) f hs, ← e]
    exact this
  · refine ⟨G.keys, G.next, fun s hs => List.mem_append.2 (.inr hs), ?_⟩
    intro s hs hl
    exact G.same s hs (fun hm => hl (List.mem_append.2 (.inl hm)))

theorem Sim.log {T K W E σ w} (S : Sim T K W E σ w) (l : List Nat) : Sim T K W E { σ with log := l } w :=
  ⟨S.os, S.tape, S.output, S.size, S.keep, S.kin, S.inn, S.next, S.live, S.blk, S.inj, S.glob, S.off⟩

theorem cut_at {E : Env} {n s : Nat} {x : Nat × Nat × Nat} (h : (E.cut n).at_ s = some x) : s < n ∧ E.at_ s = some x := by
  change (if s < n then E.at_ s else none) = some x at h
  split at h
  · exact ⟨by assumption, h⟩
  · cases h

theorem popA_ok {T : Tab} {K : Nat → Prop} {W : World} {E0 E : Env} {σ0 σ : St} {w0 w : World} (S0 : Sim T K W E0 σ0 w0) (hl : E0.le E) (S : Sim T K W E σ w) (G : Grow { σ0 with log := [] } σ) {v : AV} {vv : Value} (hr : Rel E v vv) :
    ∃ E', E0.le E' ∧ Sim T K W E' (popA σ0 σ v) w ∧ Rel E' v vv := by
  obtain ⟨new, old, e, k, f⟩ := G.keys
  have hlen : old.length = σ0.blks.length := by simpa using congrArg List.length k
  unfold popA
  simp only [Bool.cond_eq_ite]
  split
  · rename_i hc
    rw [Bool.and_eq_true] at hc
    obtain ⟨hv, ho⟩ := hc
    have hd : σ.blks.drop (σ.blks.length - σ0.blks.length) = old := by
      rw [e, List.length_append, hlen, Nat.add_sub_cancel, List.drop_left]
    have hget : ∀ s, s < σ0.next → look old s = σ.get s := fun s hs => by
      show _ = look σ.blks s
      rw [e, look_append f hs]
    have hlt : ∀ s B, look old s = some B → s < σ0.next := by
      intro s B hB
      obtain ⟨p, hp, he⟩ := look_mem hB
      have : p.1 ∈ σ0.blks.map (·.1) := by
        have h1 : p.1 ∈ old.map (·.1) := List.mem_map.2 ⟨p, hp, rfl⟩
        rw [k] at h1; exact h1
      obtain ⟨q, hq, heq⟩ := List.mem_map.1 this
      obtain ⟨B', hB'⟩ := look_of_mem ⟨q, hq, heq.trans he⟩
      exact S0.lt (show σ0.get s = some B' from hB')
    refine ⟨E.cut σ0.next, by rw [← S0.next]; exact Env.le_cut hl, ?_, hr.cut hv⟩
    refine ⟨S.os, S.tape, S.output, S.size, S.keep, S.kin, S.inn, rfl, ?_, ?_, ?_, ?_, S.off⟩
    · intro s b cap g ha
      obtain ⟨hs, ha⟩ := cut_at ha
      obtain ⟨B, hB⟩ := S.live s b cap g ha
      refine ⟨B, ?_⟩
      show look (σ.blks.drop _) s = _
      rw [hd, hget s hs]; exact hB
    · intro s B hB
      have hB' : look old s = some B := by rw [← hd]; exact hB
      have hs := hlt s B hB'
      rw [hget s hs] at hB'
      obtain ⟨b, cap, g, ha, hk, hb⟩ := S.blk s B hB'
      refine ⟨b, cap, g, ?_, hk, hb.cut ?_⟩
      · show (if s < σ0.next then E.at_ s else none) = _
        rw [if_pos hs]; exact ha
      · by_cases hm : s ∈ σ.log
        · have := List.all_eq_true.1 ho s (List.mem_filter.2 ⟨hm, blt_iff.2 hs⟩)
          rw [hB'] at this
          exact this
        · have h1 := G.same s hs hm
          rw [hB'] at h1
          obtain ⟨_, _, _, _, _, hb0⟩ := S0.blk s B h1.symm
          rw [← S0.next]; exact hb0.noRef
    · intro s t b cap g cap' g' h1 h2
      exact S.inj s t b cap g cap' g' (cut_at h1).2 (cut_at h2).2
    · intro g row hg
      exact (S.glob g row hg).cut rfl
  · exact ⟨E, hl, S.log _, hr⟩

/-! ### calls -/
theorem endA_grow {T : Tab} {f : FuncId} {σ0 σ σ' : St} {v v' : AV} (h : endA T f σ0 σ v = some (v', σ')) (G : Grow { σ0 with log := [] } σ) : Grow σ0 σ' := by
  unfold endA at h
  simp only [Bool.cond_eq_ite] at h
  split at h
  · split at h
    · rename_i hf; cases h; exact popA_grow (G.trans (freeze_grow hf))
    · cases h
  · cases h; exact popA_grow G

theorem endA_ok {T : Tab} {K : Nat → Prop} {W : World} {E0 E : Env} {f : FuncId} {σ0 σ σ' : St} {w0 w : World} (S0 : Sim T K W E0 σ0 w0) (hl : E0.le E) (S : Sim T K W E σ w) (G : Grow { σ0 with log := [] } σ) {v v' : AV} {vv : Value} (hr : Rel E v vv)
    (h : endA T f σ0 σ v = some (v', σ')) : ∃ E', E0.le E' ∧ Sim T K W E' σ' w ∧ Rel E' v' vv := by
  unfold endA at h
  simp only [Bool.cond_eq_ite] at h
  split at h
  · split at h
    · rename_i hf
      cases h
      obtain ⟨E1, h1, _, S1, hr1⟩ := freeze_ok S hf hr
      exact popA_ok S0 (hl.trans h1) S1 (G.trans (freeze_grow hf)) (hr1.mono E1.pure_le')
    · cases h
  · cases h; exact popA_ok S0 hl S G hr

theorem bodyA_grow {T : Tab} {C : Hand} (hC : GrowC C) {f : FuncId} {F : Func} {c : Code} {args : List AV} {σ σ' : St} {r : ER} (h : bodyA T C f F c args σ = some (r, σ')) : Grow σ σ' := by
  unfold bodyA at h
  split at h
  · cases h
  · rename_i e a σ1 _ hx
    have g1 := execA_grow hC _ _ _ _ _ _ hx
    split at h
    · rename_i hlv
      split at h
      · rename_i he; cases h; exact endA_grow he (g1.trans (leaveA_grow hC _ hlv))
      · cases h
    · rename_i hlv
      split at h
      · split at h
        · rename_i he; cases h; exact endA_grow he (g1.trans (leaveA_grow hC _ hlv))
        · cases h
      · cases h
    · cases h
  · cases h

/-- a table's own functions -/
def ExtOk (T : Tab) (P : Program) : Prop := ∀ f g, T.ext f = some g → ∀ args σ r σ', g args σ = some (r, σ') → Grow σ σ' ∧ ∀ K W E w vs, Sim T K W E σ w → RelL E args vs → CallFn P f vs w (EndRel T K W E r σ')

theorem callA_grow {T : Tab} {P : Program} (hX : ExtOk T P) : ∀ n, GrowC (callA T n)
  | 0 => fun f args σ r σ' h => by cases h
  | n + 1 => fun f args σ r σ' h => by
    simp only [callA] at h
    split at h
    · rename_i g hg; exact (hX f g hg args σ r σ' h).1
    · split at h
      · split at h
        · exact bodyA_grow (callA_grow hX n) h
        · cases h
      · cases h

def DrawOk (T : Tab) (P : Program) : Prop := ∀ (C : Hand), HandOk T P C → ∀ (K : Nat → Prop) (W : World), RegOk T P C K W

theorem callA_ok {T : Tab} {P : Program} (hT : TabOk T P) (hX : ExtOk T P) (hD : DrawOk T P) : ∀ n, HandOk T P (callA T n)
  | 0 => fun f args σ r σ' h => by cases h
  | n + 1 => fun f args σ r σ' h => by
    have hC := callA_ok hT hX hD n
    have hG := callA_grow hX n
    intro K W E w vs S hrl
    simp only [callA] at h
    split at h
    · rename_i g hg; exact (hX f g hg args σ r σ' h).2 K W E w vs S hrl
    · split at h
      · rename_i F hF
        split at h
        · rename_i c hc
          refine .inl ⟨run_enter hT hC hF hc vs w, ?_⟩
          refine calls_of_wp_defers (hT.fn f F hF).1 hc ?_
          unfold bodyA at h
          split at h
          · cases h
          · rename_i e a σ1 hne hx
            have g1 := execA_grow hG _ _ _ _ _ _ hx
            refine codeOk hT (hD _ hC K W) c E { σ with log := [] } w (frame F args) a _ e σ1 _ (S.log _) (frame_rel hT hC hrl) hx ?_
            intro E1 A w1 x hl1 S1 R1 hx1
            have fin : ∀ (u u' : Option AV) (σ2 : St) (m : FrameMode), ModeRel E1 u m → leaveA T (callA T n) a.defers u σ1 = some (u', σ2) →
                (match u' with
                  | some v => (match endA T f σ σ2 v with | some (v, σ3) => some (ER.pan v, σ3) | none => none)
                  | none => (match resultsA T σ2 F a.tmps with
                    | some v => (match endA T f σ σ2 v with | some (v, σ3) => some (ER.ret v, σ3) | none => none)
                    | none => none)) = some (r, σ') → Leaves P F A.tmps (EndRel T K W E r σ') A.defers m w1 := by
              intro u u' σ2 m hm hlv h
              have g2 := g1.trans (leaveA_grow hG _ hlv)
              refine leaveA_ok hT hC (hD _ hC K W) _ _ u u' m E1 σ1 σ2 w1 R1.defers hm S1 hlv ?_
              intro E2 w2 hl2 S2
              cases u' with
              | none =>
                simp only at h ⊢
                split at h
                · rename_i v hres
                  obtain ⟨vv, hv, hr⟩ := resultsA_ok hT S2 (R1.tmps.mono hl2) hres
                  refine ⟨vv, hv, ?_⟩
                  split at h
                  · rename_i v' σ3 he
                    cases h
                    obtain ⟨E3, hl3, S3, hr3⟩ := endA_ok S (hl1.trans hl2) S2 g2 hr he
                    exact ⟨E3, hl3, S3, hr3⟩
                  · cases h
                · cases h
              | some v =>
                simp only at h ⊢
                intro vv hr
                split at h
                · rename_i v' σ3 he
                  cases h
                  obtain ⟨E3, hl3, S3, hr3⟩ := endA_ok S (hl1.trans hl2) S2 g2 hr he
                  exact ⟨E3, hl3, S3, vv, rfl, hr3⟩
                · cases h
            have h' : ∀ u, (match leaveA T (callA T n) a.defers u σ1 with
                | some (some v, σ2) => (match endA T f σ σ2 v with | some (v, σ3) => some (ER.pan v, σ3) | none => none)
                | some (none, σ2) => (match resultsA T σ2 F a.tmps with
                  | some v => (match endA T f σ σ2 v with | some (v, σ3) => some (ER.ret v, σ3) | none => none)
                  | none => none)
                | none => none) = some (r, σ') → ∃ u' σ2, leaveA T (callA T n) a.defers u σ1 = some (u', σ2) ∧ (match u' with
                  | some v => (match endA T f σ σ2 v with | some (v, σ3) => some (ER.pan v, σ3) | none => none)
                  | none => (match resultsA T σ2 F a.tmps with
                    | some v => (match endA T f σ σ2 v with | some (v, σ3) => some (ER.ret v, σ3) | none => none)
                    | none => none)) = some (r, σ') := by
              intro u h
              cases hlv : leaveA T (callA T n) a.defers u σ1 with
              | none => rw [hlv] at h; cases h
              | some q =>
                obtain ⟨u', σ2⟩ := q
                rw [hlv] at h
                refine ⟨u', σ2, rfl, ?_⟩
                cases u' <;> exact h
            cases e with
            | norm =>
              obtain ⟨u', σ2, hlv, hend⟩ := h' none h
              cases x <;> first | exact hx1.elim | exact fin none u' σ2 .returning rfl hlv hend
            | ret =>
              obtain ⟨u', σ2, hlv, hend⟩ := h' none h
              cases x <;> first | exact hx1.elim | exact fin none u' σ2 .returning rfl hlv hend
            | exit i => exact (hne i rfl).elim
            | pan v =>
              obtain ⟨u', σ2, hlv, hend⟩ := h' (some v) h
              cases x <;> try exact hx1.elim
              obtain ⟨vv, rfl, hr⟩ := hx1
              exact fin (some v) u' σ2 _ ⟨vv, rfl, hr⟩ hlv hend
          · cases h
        · cases h
      · cases h
end Go.Proofs.YtgklmecijeadlaaGreatDoor.Ab
