import Derived.Test.YtgklmecijeadlaaGreatDoorA26
set_option linter.unusedSimpArgs false
set_option linter.unusedVariables false
set_option linter.unusedSectionVars false
namespace Go.Proofs.YtgklmecijeadlaaGreatDoor.Ab

theorem alloc_step {T : Tab} {C : Hand} {L : List Oper} {o : Oper} {a a' : AA} {σ s : St} {t : TypeId} (hop : o.op = .alloc t) (h : stepOp T C L o a σ = some (.norm, a', some s)) :
    wantedA L a.tmps o = some true ∧ ∃ v z, T.zero t = some v ∧ ofV v = some z ∧ z.cells.all AV.flat = true ∧ s = σ.new (.cells z.cells t 0) ∧ a' = a.put o.dst (.ptr σ.next 0) := by
  unfold stepOp at h
  split at h
  · rename_i hw
    refine ⟨hw, ?_⟩
    have key : ∀ q, stepA T C (evalA T a.tmps) o σ = some q → ∃ v z, T.zero t = some v ∧ ofV v = some z ∧ z.cells.all AV.flat = true ∧ q = (.val (.ptr σ.next 0), some (σ.new (.cells z.cells t 0))) := by
      intro q hq
      unfold stepA at hq
      rw [hop] at hq
      simp only at hq
      unfold Tab.zeroA at hq
      cases hz : T.zero t with
      | none => rw [hz] at hq; cases hq
      | some v =>
        rw [hz] at hq
        simp only at hq
        cases hv : ofV v with
        | none => rw [hv] at hq; cases hq
        | some z =>
          rw [hv] at hq
          simp only at hq
          cases hf : z.cells.all AV.flat with
          | false => rw [hf] at hq; cases hq
          | true => rw [hf] at hq; cases hq; exact ⟨v, z, rfl, hv, hf, rfl⟩
    split at h
    · rename_i hs
      obtain ⟨v, z, h1, h2, h3, h4⟩ := key _ hs
      cases h4; cases h
      exact ⟨v, z, h1, h2, h3, rfl, rfl⟩
    · rename_i hs; obtain ⟨v, z, h1, h2, h3, h4⟩ := key _ hs; cases h4
    · rename_i hs; obtain ⟨v, z, h1, h2, h3, h4⟩ := key _ hs; cases h4
    · cases h
    · cases h
  · cases h
  · cases h

theorem isAlloc_op {o : Oper} (h : isAlloc o = true) : ∃ t, o.op = .alloc t := by
  unfold isAlloc at h
  split at h
  · exact ⟨_, by assumption⟩
  · cases h

theorem stAfter_snoc {σ : St} {pre : List Rec} {r : Rec} : stAfter σ (pre ++ [r]) = r.s.getD (stAfter σ pre) := by simp [stAfter]

def Inv (T : Tab) (K : Nat → Prop) (W : World) (E0 : Env) (C : Hand) (L : List Oper) (a0 : AA) (σ0 : St) (recs : List Rec) (D : Nat → Prop) (A : Act) (w : World) : Prop :=
  ∃ E pb rest τ, E0.le E ∧ Sim T K W E τ w ∧ FrOk E a0 recs D pb A ∧ Mode T C L σ0 recs D rest τ ∧ Pend T K W E a0 D pb A w rest

section
variable {T : Tab} {P : Program} (hT : TabOk T P) {C : Hand} (hC : HandOk T P C) {K : Nat → Prop} {W : World} {ops : Array Oper} {a0 : AA} {σ0 : St} {recs : List Rec} (X : Told T C ops.toList a0 σ0 recs)
include hT hC X

/-- pending variables come to their turn -/
theorem absorb {E0 : Env} {D : Nat → Prop} {A : Act} {w : World} : ∀ (rest pre : List Rec) {E : Env} {pb : Nat → Option Nat}, recs.filter (·.s.isSome) = pre ++ rest → (∀ l ∈ pre, D l.i) → E0.le E → Sim T K W E (stAfter σ0 pre) w → FrOk E a0 recs D pb A → Pend T K W E a0 D pb A w rest →
    Inv T K W E0 C ops.toList a0 σ0 recs D A w := by
  intro rest
  induction rest with
  | nil => intro pre E pb h1 h2 hl S F N; exact ⟨E, pb, [], _, hl, S, F, .norm h1 h2 (fun _ _ h => by cases h), N⟩
  | cons z rest ih =>
    intro pre E pb h1 h2 hl S F N
    by_cases hz : D z.i
    · obtain ⟨hal, hpb⟩ := N.done z (List.mem_cons_self ..) hz
      cases hb : pb z.i with
      | none => exact absurd hb hpb
      | some bl =>
        obtain ⟨z', hz', hzi, _, PA⟩ := N.at_ z.i bl hb
        have hzm := X.loud_mem h1 (.inr (List.mem_cons_self ..))
        have hzm' := X.loud_mem h1 (.inr hz')
        have hzz : z' = z := X.one z' hzm'.1 z hzm.1 hzi
        subst hzz
        obtain ⟨t, v, hop, hv, hcell⟩ := PA.cell
        have hrun := X.run z' hzm.1
        cases hs : z'.s with
        | none => rw [hs] at hzm; cases hzm.2
        | some s =>
          rw [hs] at hrun
          obtain ⟨_, v', zc, hv', hof, hfl, rfl, hr⟩ := alloc_step hop hrun
          rw [hv] at hv'; cases hv'
          have hst := X.loud_st h1
          obtain ⟨hrl, hcf⟩ := (rel_ofV (E := E) hof).cells hfl
          have hl1 := E.le_new bl 0 0
          have hnx : E.next = z'.b.next := by rw [hst]; exact S.next
          have S1 : Sim T K W (E.new bl 0 0) (stAfter σ0 (pre ++ [z'])) w := by
            rw [stAfter_snoc, hs, ← hst]
            rw [← hst] at S
            exact S.adopt PA.f ⟨rfl, rfl, v.cells, hcell, hrl.len, fun i a hi => (hrl.at_ i a hi).mono hl1, fun i hi => hcf i (by rw [← hrl.len]; exact hi), (fun h => by cases h), fun _ => PA.f.off⟩
          have hval : ∀ d, z'.o.dst = some d → d < a0.tmps.length → z'.val = .ptr z'.b.next 0 := by
            intro d hd hlt
            unfold Rec.val valAt
            rw [hd, hr, hd]
            simp only [AA.put]
            have hlen := (X.fin z' hzm.1).len
            rw [List.getD_eq_getElem?_getD, List.getElem?_set_self (by rw [hlen]; exact hlt)]
            rfl
          have F1 : FrOk (E.new bl 0 0) a0 recs D (fun j => if j = z'.i then none else pb j) A := by
            refine ⟨F.size, F.defers.mono hl1, fun t a ha h => (F.keep t a ha h).mono hl1, ?_⟩
            intro r hr t ht hd hp hlt
            by_cases he : r.i = z'.i
            · have := X.one r hr z' hzm.1 he
              subst this
              rw [hval t ht hlt, PA.slot t ht hlt]
              refine .ptr ?_
              show (if _ then _ else _) = _
              rw [if_pos hnx.symm]
            · rw [if_neg he] at hp
              exact (F.set r hr t ht hd hp hlt).mono hl1
          refine ih (pre ++ [z']) (by rw [h1]; simp) ?_ (hl.trans hl1) S1 F1 ?_
          · intro l hl
            rcases List.mem_append.1 hl with h | h
            · exact h2 l h
            · rw [List.mem_singleton.1 h]; exact hz
          · have hne : ∀ q ∈ rest, q.i ≠ z'.i := fun q hq => Nat.ne_of_gt (X.loud_lt h1 hq)
            refine ⟨?_, ?_, ?_⟩
            · intro q hq hd
              obtain ⟨g1, g2⟩ := N.done q (List.mem_cons_of_mem _ hq) hd
              exact ⟨g1, by rw [if_neg (hne q hq)]; exact g2⟩
            · intro j b2 hj
              by_cases he : j = z'.i
              · rw [if_pos he] at hj; cases hj
              · rw [if_neg he] at hj
                obtain ⟨q, hq, hqi, hqd, PQ⟩ := N.at_ j b2 hj
                rcases List.mem_cons.1 hq with rfl | hq
                · exact absurd hqi.symm he
                · refine ⟨q, hq, hqi, hqd, PQ.f.new ?_, PQ.cell, PQ.slot⟩
                  rintro rfl
                  exact he (N.inj j z'.i _ hj hb)
            · intro j k b2 hj hk
              by_cases ej : j = z'.i
              · rw [if_pos ej] at hj; cases hj
              · by_cases ek : k = z'.i
                · rw [if_pos ek] at hk; cases hk
                · rw [if_neg ej] at hj; rw [if_neg ek] at hk
                  exact N.inj j k b2 hj hk
    · exact ⟨E, pb, z :: rest, _, hl, S, F, .norm h1 h2 (fun x xs h => by cases h; exact hz), N⟩

theorem Pend.carry {E E' : Env} {D : Nat → Prop} {pb : Nat → Option Nat} {A : Act} {w w' : World} {rest rest' : List Rec} {τ' : St} (N : Pend T K W E a0 D pb A w rest) (hrest : ∀ z ∈ rest, z ∈ recs) (S' : Sim T (fun b => K b ∨ ∃ j, pb j = some b) { w with drawn := min W.drawn W.heap.size } E' τ' w') {r : Rec} (hr : r ∈ recs) (hn : ¬ D r.i) {vv : Value}
    (h1 : ∀ z ∈ rest', z ∈ rest) (h2 : ∀ z ∈ rest, D z.i → z ∈ rest') (h3 : ∀ z ∈ rest', z.i ≠ r.i) : Pend T K W E' a0 (fun j => D j ∨ j = r.i) pb (A.put r.o.dst vv) w' rest' := by
  refine ⟨fun z hz hd => N.done z (h1 z hz) (hd.resolve_right (h3 z hz)), ?_, N.inj⟩
  intro j bl hj
  obtain ⟨z, hz, hzi, hzd, PZ⟩ := N.at_ j bl hj
  have hz' := h2 z hz (by rw [hzi]; exact hzd)
  have hp : ∀ b, (∃ j, pb j = some b) → Foreign K W E w b := fun b ⟨k, hk⟩ => by obtain ⟨_, _, _, _, Q⟩ := N.at_ k b hk; exact Q.f
  obtain ⟨f1, f2⟩ := Sim.foreign hp S' ⟨j, hj⟩
  obtain ⟨t, v, c1, c2, c3⟩ := PZ.cell
  refine ⟨z, hz', hzi, .inl hzd, f1, ⟨t, v, c1, c2, by rw [f2]; exact c3⟩, ?_⟩
  intro d hd hlt
  rw [gd_put_ne (fun e => h3 z hz' (by rw [X.dst1 (hrest z hz) hr hd e]))]
  exact PZ.slot d hd hlt
end
end Go.Proofs.YtgklmecijeadlaaGreatDoor.Ab
