import Derived.Test.YtgklmecijeadlaaGreatDoorA29
set_option linter.unusedSimpArgs false
set_option linter.unusedVariables false
set_option linter.unusedSectionVars false
namespace Go.Proofs.YtgklmecijeadlaaGreatDoor.Ab

theorem junkAll_get : ∀ {l : List Oper} {a : AA} {t : Nat} {v : AV}, (junkAll l a).tmps[t]? = some v → v = .junk ∨ (a.tmps[t]? = some v ∧ ∀ o ∈ l, o.dst ≠ some t)
  | [], a, t, v, h => .inr ⟨h, fun o ho => by cases ho⟩
  | o :: l, a, t, v, h => by
    simp only [junkAll] at h
    rcases junkAll_get h with h | ⟨h1, h2⟩
    · exact .inl h
    · cases hd : o.dst with
      | none =>
        rw [hd] at h1
        refine .inr ⟨h1, ?_⟩
        intro q hq
        rcases List.mem_cons.1 hq with rfl | hq
        · rw [hd]; simp
        · exact h2 q hq
      | some d =>
        rw [hd] at h1
        simp only [AA.put] at h1
        by_cases he : d = t
        · subst he
          have hlt : d < a.tmps.length := by
            rcases Nat.lt_or_ge d a.tmps.length with h' | h'
            · exact h'
            · rw [List.getElem?_eq_none (by simpa using h')] at h1; cases h1
          rw [List.getElem?_set_self hlt] at h1
          cases h1; exact .inl rfl
        · rw [List.getElem?_set_ne he] at h1
          refine .inr ⟨h1, ?_⟩
          intro q hq
          rcases List.mem_cons.1 hq with rfl | hq
          · rw [hd]; simpa using he
          · exact h2 q hq
theorem junkAll_len : ∀ {l : List Oper} {a : AA}, (junkAll l a).tmps.length = a.tmps.length ∧ (junkAll l a).defers = a.defers
  | [], a => ⟨rfl, rfl⟩
  | o :: l, a => by
    obtain ⟨h1, h2⟩ := junkAll_len (l := l) (a := a.put o.dst .junk)
    simp only [junkAll]
    rw [h1, h2]
    cases o.dst <;> simp [AA.put]

section
variable {T : Tab} {P : Program} (hT : TabOk T P) {C : Hand} (hC : HandOk T P C) {K : Nat → Prop} {W : World} {ops : Array Oper} {a0 : AA} {σ0 : St} {recs : List Rec} (X : Told T C ops.toList a0 σ0 recs)
include hT hC X

/-- how a drawn region ends -/
inductive Ends (T : Tab) (C : Hand) (K : Nat → Prop) (W : World) (E0 : Env) (ops : Array Oper) (a0 : AA) (σ0 : St) (recs : List Rec) (Q : Exit → Act → World → Prop) : Prop
  | norm {a' : AA} : recs.length = ops.size → Final a0 a' recs → Out T K W E0 Q .norm a' (stAfter σ0 recs) → Ends T C K W E0 ops a0 σ0 recs Q
  | pan {o : Oper} {a1 a'' : AA} {v : AV} {s : Option St} : ops[recs.length]? = some o → Final a0 a1 recs → stepOp T C ops.toList o a1 (stAfter σ0 recs) = some (.pan v, a'', s) → (∀ x ∈ recs, x.s.isSome = true → bit (befores ops.toList []) recs.length x.i = true) →
      (∀ j, recs.length < j → j < ops.size → bit (befores ops.toList []) j recs.length = true) → Out T K W E0 Q (.pan v) (junkAll ops.toList a0) (s.getD (stAfter σ0 recs)) → Ends T C K W E0 ops a0 σ0 recs Q

theorem all_done {listed : Array Bool} (hs : listed.size = ops.size) (h : Region.ready .any ops listed = []) : ∀ j, j < ops.size → listed.getD j false = true := by
  intro j
  induction j using Nat.strongRecOn with
  | _ j ih =>
    intro hj
    cases hl : listed.getD j false with
    | true => rfl
    | false =>
      exfalso
      have : j ∈ Region.ready .any ops listed := by
        rw [ready_iff hs]
        refine ⟨ops[j], Array.getElem?_eq_getElem hj, by rw [hl]; simp, ?_⟩
        intro e he hb
        have hlt := X.edges j ops[j] (by rw [Array.getElem?_toList]; exact Array.getElem?_eq_getElem hj) e he hb
        exact ih e.on hlt (by omega)
      rw [h] at this; cases this

/-- all are done: the state is the one that was told -/
theorem done_state {E0 : Env} {D : Nat → Prop} {A : Act} {w : World} (I : Inv T K W E0 C ops.toList a0 σ0 recs D A w) (h : ∀ x ∈ recs, x.s.isSome = true → D x.i) :
    ∃ E pb, E0.le E ∧ Sim T K W E (stAfter σ0 recs) w ∧ FrOk E a0 recs D pb A ∧ (∀ j, pb j = none) ∧ Mode T C ops.toList σ0 recs D [] (stAfter σ0 recs) ∧ Pend T K W E a0 D pb A w [] := by
  obtain ⟨E, pb, rest, τ, hl, S, F, M, N⟩ := I
  cases M with
  | @norm pre rest h1 h2 h3 =>
    have hr : rest = [] := by
      cases rest with
      | nil => rfl
      | cons x xs =>
        have hx := X.loud_mem h1 (.inr (List.mem_cons_self ..))
        exact absurd (h x hx.1 hx.2) (h3 x xs rfl)
    subst hr
    have e : stAfter σ0 pre = stAfter σ0 recs := by rw [← stAfter_filter recs, h1, List.append_nil]
    refine ⟨E, pb, hl, e ▸ S, F, ?_, e ▸ .norm h1 h2 h3, N⟩
    intro j
    cases hj : pb j with
    | none => rfl
    | some b => obtain ⟨z, hz, _⟩ := N.at_ j b hj; cases hz
  | swap h1 h2 h3 h4 h5 h6 h7 =>
    have hx := X.loud_mem h1 (.inr (List.mem_cons_self ..))
    exact absurd (h _ hx.1 hx.2) h3

theorem any_ok {E0 : Env} {Q : Exit → Act → World → Prop} (H : Ends T C K W E0 ops a0 σ0 recs Q) : ∀ (fuel : Nat) (listed : Array Bool) (A : Act) (w : World), listed.size = ops.size → ((List.range ops.size).filter (fun j => !listed.getD j false)).length ≤ fuel →
    Closed ops.toList (fun j => listed.getD j false = true) → (∀ j, listed.getD j false = true → j < recs.length) → Inv T K W E0 C ops.toList a0 σ0 recs (fun j => listed.getD j false = true) A w → wpAny P .any ops Q fuel listed A w := by
  have fin : ∀ (listed : Array Bool) (A : Act) (w : World), (∀ j, j < ops.size → listed.getD j false = true) → (∀ j, listed.getD j false = true → j < recs.length) → Inv T K W E0 C ops.toList a0 σ0 recs (fun j => listed.getD j false = true) A w → Q .normal A w := by
    intro listed A w hall hDl I
    cases H with
    | @norm a' hlen hf k =>
      obtain ⟨E, pb, hl, S, F, hpb, M, N⟩ := done_state hT hC X I (fun x hx _ => hall x.i (by rw [← hlen]; exact X.lt x hx))
      refine k E A w .normal hl S ⟨⟨by rw [hf.len, F.size], ?_⟩, by rw [hf.defers]; exact F.defers⟩ trivial
      intro t v hv
      have hlt : t < a0.tmps.length := by
        rw [← hf.len]
        rcases Nat.lt_or_ge t a'.tmps.length with h' | h'
        · exact h'
        · rw [List.getElem?_eq_none h'] at hv; cases hv
      by_cases hq : ∃ q ∈ recs, q.o.dst = some t
      · obtain ⟨q, hq, hqt⟩ := hq
        rw [hf.set q hq t hqt (fun r hr hrt => by rw [X.dst1 hr hq hrt hqt]) hlt] at hv
        cases hv
        exact F.set q hq t hqt (hall q.i (by rw [← hlen]; exact X.lt q hq)) (hpb q.i) hlt
      · rw [hf.keep t (fun q hqm hqt => hq ⟨q, hqm, hqt⟩)] at hv
        exact F.keep t v hv (fun r hr hrt => absurd ⟨r, hr, hrt⟩ hq)
    | pan ho _ _ _ _ _ =>
      have hlt : recs.length < ops.size := by
        rcases Nat.lt_or_ge recs.length ops.size with h' | h'
        · exact h'
        · rw [Array.getElem?_eq_none h'] at ho; cases ho
      exact absurd (hDl _ (hall _ hlt)) (Nat.lt_irrefl _)
  intro fuel
  induction fuel with
  | zero =>
    intro listed A w hs hf hD hDl I
    have hall : ∀ j, j < ops.size → listed.getD j false = true := by
      intro j hj
      have h0 : (List.range ops.size).filter (fun j => !listed.getD j false) = [] := List.eq_nil_of_length_eq_zero (by omega)
      rw [List.filter_eq_nil_iff] at h0
      simpa using h0 j (List.mem_range.2 hj)
    refine ⟨?_, fin listed A w hall hDl I⟩
    rw [List.eq_nil_iff_forall_not_mem]
    intro i hi
    obtain ⟨o, h1, h2, h3⟩ := (ready_iff hs).1 hi
    have hlt : i < ops.size := by
      rcases Nat.lt_or_ge i ops.size with h' | h'
      · exact h'
      · rw [Array.getElem?_eq_none h'] at h1; cases h1
    exact h2 (hall i hlt)
  | succ fuel ih =>
    intro listed A w hs hf hD hDl I
    refine ⟨fun h => fin listed A w (all_done hT hC X hs h) hDl I, ?_⟩
    intro i hi
    obtain ⟨o, ho, hni, hre⟩ := (ready_iff hs).1 hi
    have hlt : i < ops.size := by
      rcases Nat.lt_or_ge i ops.size with h' | h'
      · exact h'
      · rw [Array.getElem?_eq_none h'] at ho; cases ho
    have hoL : ops.toList[i]? = some o := by rw [Array.getElem?_toList]; exact ho
    have eD : (fun j => (listed.setIfInBounds i true).getD j false = true) = (fun j => listed.getD j false = true ∨ j = i) := by
      funext j
      refine propext ?_
      rw [Array.getD_eq_getD_getElem?, Array.getD_eq_getD_getElem?]
      by_cases he : j = i
      · subst he
        rw [Array.getElem?_setIfInBounds_self_of_lt (by omega)]
        simp
      · rw [Array.getElem?_setIfInBounds_ne (fun e => he e.symm)]
        simp [he]
    by_cases hir : i < recs.length
    · refine step_inv hT hC X I hD hDl hir hni (fun o' ho' => by rw [ho] at ho'; cases ho'; exact hre) ?_
      intro A' w' I'
      refine ih _ A' w' (by simpa using hs) ?_ ?_ ?_ ?_
      · have := filter_lt (p := fun j => !listed.getD j false) (q := fun j => !(listed.setIfInBounds i true).getD j false) ?_ (i := i) (by simpa using hni) ?_ (List.range ops.size) (List.mem_range.2 hlt)
        · omega
        · intro x hx
          have := congrFun eD x
          simp only [Bool.not_eq_true'] at hx ⊢
          cases hl : listed.getD x false with
          | false => rfl
          | true => rw [hl] at this; simp only [true_or, eq_iff_iff, iff_true] at this; rw [this] at hx; cases hx
        · have := congrFun eD i
          simp only [or_true, eq_iff_iff, iff_true] at this
          rw [this]; rfl
      · rw [eD]
        intro j o' hj hd e he hb
        rcases hd with hd | rfl
        · exact .inl (hD j o' hj hd e he hb)
        · rw [hoL] at hj; cases hj
          exact .inl (hre e he hb)
      · intro j hj
        have := congrFun eD j
        rw [eq_iff_iff] at this
        rcases this.1 hj with h | rfl
        · exact hDl j h
        · exact hir
      · rw [eD]; exact I'
    · cases H with
      | norm hlen _ _ => omega
      | @pan op a1 a'' v s hop hf1 hst hbp haf k =>
        by_cases hip : i = recs.length
        · subst hip
          rw [ho] at hop; cases hop
          have hall : ∀ x ∈ recs, x.s.isSome = true → listed.getD x.i false = true := fun x hx hxs => closed_bit hD X.edges recs.length hoL hre (hbp x hx hxs)
          obtain ⟨E, pb, hl, S, F, hpb, M, N⟩ := done_state hT hC X I hall
          have hfil : recs.filter (fun q => decide (q.i < recs.length)) = recs := List.filter_eq_self.2 (fun q hq => by simpa using X.lt q hq)
          obtain ⟨hops, hwant⟩ := ready_sees hT hC X S F M N hD hDl ho hni (Nat.le_refl _) hre (.inr hbp) (a := a1) (by rw [hfil]; exact hf1)
          refine stepOpD_ok hT hC S ho hops hwant (X.nodef o (List.mem_of_getElem? hoL)) hst (fun h => by cases h) ?_
          intro v' hv E' w' vv hl' S' hr
          cases hv
          obtain ⟨j1, j2⟩ := junkAll_len (l := ops.toList) (a := a0)
          refine k E' A w' _ (hl.trans hl') S' ⟨⟨by rw [j1, F.size], ?_⟩, by rw [j2]; exact (F.mono hl').defers⟩ ⟨vv, rfl, hr⟩
          intro t x hx
          rcases junkAll_get hx with rfl | ⟨h1, h2⟩
          · exact .junk
          · exact (F.mono hl').keep t x h1 (fun r hr hrt => absurd hrt (h2 r.o (List.mem_of_getElem? (X.at_ r hr))))
        · have hgt : recs.length < i := by omega
          exact absurd (hDl _ (closed_bit hD X.edges i hoL hre (haf i hgt hlt))) (Nat.lt_irrefl _)
end

theorem drawOk_all {T : Tab} {P : Program} (hT : TabOk T P) : DrawOk T P := by
  intro C hC K W id ops draw E σ w a a' A e σ' Q S R h k
  cases draw with
  | false => exact region_ok hT hC S R h k
  | true =>
    have main : ∀ (recs : List Rec) (l1 l2 : List Oper) (a1 : AA) (σ1 : St), ops.toList = l1 ++ l2 → Chain T C ops.toList l1 0 a σ recs a1 σ1 → drawOk T C ops.toList (befores ops.toList []) σ recs = true → Ends T C K W E ops a σ recs Q → (Code.region id ops true).wp P Q A w := by
      intro recs l1 l2 a1 σ1 hL hc hd H
      have X := told_of hL hc hd
      refine wp_region_any hT.mixed ?_
      have S0 : Sim T K W E σ { w with drawn := w.drawn + 1 } := S.same rfl rfl rfl rfl
      have no : ∀ j, ¬ (Array.replicate ops.size false).getD j false = true := by
        intro j
        rw [Array.getD_eq_getD_getElem?, Array.getElem?_replicate]
        split <;> simp
      refine any_ok hT hC X H ops.size _ A _ (by simp) ?_ (fun j o _ hd => absurd hd (no j)) (fun j hd => absurd hd (no j)) ?_
      · exact Nat.le_trans (List.length_filter_le _ _) (by simp)
      · refine ⟨E, fun _ => none, recs.filter (·.s.isSome), σ, Env.le.refl E, S0, ⟨R.tmps.len.symm, R.defers, fun t x hx _ => R.tmps.at_ t x hx, fun r _ t _ hd => absurd hd (no r.i)⟩, ?_, ?_⟩
        · exact .norm (pre := []) rfl (fun l hl => by cases hl) (fun x xs _ => no x.i)
        · exact ⟨fun z _ hd => absurd hd (no z.i), (fun j bl hj => by cases hj), (fun j k bl hj => by cases hj)⟩
    unfold regA at h
    simp only [cond_true] at h
    split at h
    · rename_i a2 σ2 recs hrun
      simp only [Bool.cond_eq_ite] at h
      split at h
      · rename_i hd
        cases h
        rcases runRec_chain _ hrun with ⟨_, rs, h1, hc⟩ | ⟨v, he, _⟩
        · simp only [List.reverse_nil, List.nil_append] at h1
          subst h1
          have X := told_of (l2 := []) (by simp) hc hd
          refine main recs ops.toList [] a' σ' (by simp) hc hd (.norm (by rw [hc.len]; simp) (hc.final X.nodef) ?_)
          rw [← hc.state]; exact k
        · cases he
      · cases h
    · rename_i v a2 σ2 recs hrun
      simp only [Bool.cond_eq_ite] at h
      split at h
      · rename_i hd
        cases h
        simp only [Bool.and_eq_true] at hd
        obtain ⟨⟨hd, hb⟩, ha⟩ := hd
        rcases runRec_chain _ hrun with ⟨he, _⟩ | ⟨v', he, l1, o, l2, rs, a1, σ1, last, s, hL, h1, hc, hst, hσ⟩
        · cases he
        · cases he
          simp only [List.reverse_nil, List.nil_append] at h1
          subst h1
          simp only [List.dropLast_concat] at hd hb
          have X := told_of hL hc hd
          have hlen : rs.length = l1.length := hc.len
          rw [hc.state] at hst hσ
          refine main rs l1 (o :: l2) a1 σ1 hL hc hd (.pan (o := o) (a1 := a1) ?_ (hc.final (fun o ho => X.nodef o (by rw [hL]; simp [ho]))) hst ?_ ?_ ?_)
          · rw [← Array.getElem?_toList, hL, hlen]; simp
          · intro x hx hxs
            have := List.all_eq_true.1 hb x hx
            simp only [List.length_append, List.length_cons, List.length_nil, Nat.zero_add, Nat.add_sub_cancel, Bool.or_eq_true] at this
            rcases this with h | h
            · cases hs : x.s <;> rw [hs] at h hxs <;> simp at h hxs
            · exact h
          · intro j hj hlt
            have hj' : ops.toList[j]? = some ops[j] := by rw [Array.getElem?_toList]; exact Array.getElem?_eq_getElem hlt
            have := List.all_eq_true.1 ha (ops[j], j) (List.mem_zipIdx_iff_getElem?.2 hj')
            simp only [List.length_append, List.length_cons, List.length_nil, Nat.zero_add, Nat.add_sub_cancel, Bool.or_eq_true] at this
            rcases this with h | h
            · have := blt_iff.1 h; omega
            · exact h
          · rw [← hσ]; exact k
      · cases h
    · cases h

/-- the machine is sound -/
theorem call_ok {T : Tab} {P : Program} (hT : TabOk T P) (hX : ExtOk T P) (n : Nat) : HandOk T P (callA T n) := callA_ok hT hX (drawOk_all hT) n
end Go.Proofs.YtgklmecijeadlaaGreatDoor.Ab
