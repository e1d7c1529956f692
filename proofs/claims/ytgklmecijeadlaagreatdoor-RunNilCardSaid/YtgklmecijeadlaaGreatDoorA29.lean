import Derived.Test.YtgklmecijeadlaaGreatDoorA28
set_option linter.unusedSimpArgs false
set_option linter.unusedVariables false
set_option linter.unusedSectionVars false
namespace Go.Proofs.YtgklmecijeadlaaGreatDoor.Ab

theorem Chain.sorted {T : Tab} {C : Hand} {ops : List Oper} {l : List Oper} {i : Nat} {a a' : AA} {σ σ' : St} {recs : List Rec} (h : Chain T C ops l i a σ recs a' σ') : recs.Pairwise (fun p q => p.i < q.i) := by
  induction h with
  | nil => exact .nil
  | cons hs hc ih => exact .cons (fun q hq => by have := hc.idx q hq; simp only; omega) ih

theorem Chain.pos {T : Tab} {C : Hand} {ops : List Oper} {l : List Oper} {a a' : AA} {σ σ' : St} {recs : List Rec} (h : Chain T C ops l 0 a σ recs a' σ') {r : Rec} (hr : r ∈ recs) : recs[r.i]? = some r := by
  obtain ⟨pre, post, rfl⟩ := List.append_of_mem hr
  obtain ⟨l1, l2, h1, h2, h3, h4, h5, h6⟩ := h.split
  rw [h3]; simp

theorem Chain.len {T : Tab} {C : Hand} {ops : List Oper} {l : List Oper} {i : Nat} {a a' : AA} {σ σ' : St} {recs : List Rec} (h : Chain T C ops l i a σ recs a' σ') : recs.length = l.length := by
  induction h with
  | nil => rfl
  | cons hs hc ih => simp [ih]

theorem told_of {T : Tab} {C : Hand} {L l1 l2 : List Oper} {a0 a' : AA} {σ0 σ' : St} {recs : List Rec} (hL : L = l1 ++ l2) (h : Chain T C L l1 0 a0 σ0 recs a' σ') (hd : drawOk T C L (befores L []) σ0 recs = true) : Told T C L a0 σ0 recs := by
  unfold drawOk at hd
  simp only [Bool.and_eq_true] at hd
  obtain ⟨⟨⟨⟨⟨hE, hT⟩, hN⟩, hA⟩, hQ⟩, hU⟩ := hd
  have zip : ∀ {i : Nat} {o : Oper}, L[i]? = some o → (o, i) ∈ L.zipIdx := fun ho => List.mem_zipIdx_iff_getElem?.2 ho
  unfold edgesOk at hE
  rw [List.all_eq_true] at hE
  unfold tmpsOk at hT
  rw [List.all_eq_true] at hT
  rw [List.all_eq_true] at hN
  have nodef : ∀ o ∈ L, isDefer o = false := fun o ho => by simpa using hN o ho
  have tm : ∀ (i j : Nat) (o p : Oper) (d : Nat), L[i]? = some o → L[j]? = some p → i ≠ j → o.dst = some d → p.dst ≠ some d ∧ ((d ∈ Op.uses p ∨ ∃ want, p.guard = some (i, want)) → bit (befores L []) j i = true ∨ bit (befores L []) i j = true) := by
    intro i j o p d hi hj hne hod
    have h1 := hT (o, i) (zip hi)
    simp only [hod, List.all_eq_true] at h1
    have h2 := h1 (p, j) (zip hj)
    simp only [nbeq, Bool.or_eq_true, decide_eq_true_eq, hne, false_or, Bool.and_eq_true, Bool.not_eq_true', beq_eq_false_iff_ne] at h2
    refine ⟨h2.1, fun hu => ?_⟩
    rcases h2.2 with (h3 | h3) | h3
    · simp only [Bool.or_eq_false_iff] at h3
      rcases hu with hu | ⟨want, hu⟩
      · have : (Op.uses p).contains d = true := by simpa using hu
        rw [this] at h3; cases h3.1
      · rw [hu] at h3; simp at h3
    · exact .inl h3
    · exact .inr h3
  have split : ∀ {r : Rec}, r ∈ recs → ∃ pre post, recs = pre ++ r :: post := fun hr => List.append_of_mem hr
  have at_ : ∀ r ∈ recs, L[r.i]? = some r.o ∧ r.i < recs.length := by
    intro r hr
    obtain ⟨pre, post, rfl⟩ := split hr
    obtain ⟨m1, m2, h1, h2, h3, h4, h5, h6⟩ := h.split
    refine ⟨?_, by rw [h3]; simp⟩
    rw [hL, h1, h3, Nat.zero_add, ← h2]; simp
  refine ⟨?_, ?_, fun i j o p d hi hj hne hod => (tm i j o p d hi hj hne hod).1, fun i j o p d hi hj hne hod => (tm i j o p d hi hj hne hod).2, nodef, h.sorted, fun r hr => (at_ r hr).1, fun r hr => (at_ r hr).2, ?_, ?_, ?_, ?_, ?_, ?_, ?_, ?_⟩
  · intro j o ho e he hb
    have := hE (o, j) (zip ho)
    simp only [Bool.and_eq_true, List.all_eq_true] at this
    have := this.1 e he
    rw [hb] at this
    exact blt_iff.1 (by simpa using this)
  · intro j o g want ho hg
    have := hE (o, j) (zip ho)
    simp only [Bool.and_eq_true, hg] at this
    exact blt_iff.1 this.2
  · intro j hj
    have hm : recs[j] ∈ recs := List.getElem_mem hj
    refine ⟨recs[j], hm, ?_⟩
    have e : recs = recs.take j ++ recs[j] :: recs.drop (j + 1) := by simp
    have h' := h
    rw [e] at h'
    obtain ⟨m1, m2, h1, h2, h3, h4, h5, h6⟩ := h'.split
    rw [h3]; simp; omega
  · intro r hr q hq he
    have h1 := h.pos hr
    have h2 := h.pos hq
    rw [he, h2] at h1
    cases h1; rfl
  · intro r hr
    obtain ⟨pre, post, rfl⟩ := split hr
    obtain ⟨m1, m2, h1, h2, h3, h4, h5, h6⟩ := h.split
    exact h5
  · intro r hr
    obtain ⟨pre, post, rfl⟩ := split hr
    have hs := h.sorted
    obtain ⟨m1, m2, h1, h2, h3, h4, h5, h6⟩ := h.split
    have e : (pre ++ r :: post).filter (fun q => decide (q.i < r.i)) = pre := by
      rw [List.pairwise_append, List.pairwise_cons] at hs
      rw [List.filter_append, List.filter_eq_self.2 (fun q hq => by simpa using hs.2.2 q hq r (List.mem_cons_self ..))]
      rw [List.filter_eq_nil_iff.2 ?_, List.append_nil]
      intro q hq
      rcases List.mem_cons.1 hq with rfl | hq
      · simp
      · have := hs.2.1.1 q hq
        simp; omega
    rw [e]
    exact h4.final (fun o ho => nodef o (by rw [hL, h1]; simp [ho]))
  · intro pre r post he
    subst he
    obtain ⟨m1, m2, h1, h2, h3, h4, h5, h6⟩ := h.split
    exact h4.state
  · intro y hy hys hal r hr hb x hx hxs hlt
    unfold allocOk at hA
    rw [List.all_eq_true] at hA
    have h1 := hA y (by simp [hy, hys])
    rw [hal] at h1
    simp only [Bool.not_true, Bool.false_or, List.all_eq_true] at h1
    have h2 := h1 r hr
    rw [hb] at h2
    simp only [Bool.not_true, Bool.false_or, List.all_eq_true] at h2
    have h3 := h2 x (by simp [hx, hxs])
    rw [blt_iff.2 hlt] at h3
    simpa using h3
  · intro r hr
    have := List.all_eq_true.1 hQ r hr
    simp only [Bool.or_eq_true] at this
    rcases this with (h | h) | h
    · exact .inl h
    · exact .inr (.inl h)
    · exact .inr (.inr h)
  · split at hU
    · exact .inl (by assumption)
    · exact .inr ⟨_, _, by assumption, hU⟩
    · cases hU

theorem filter_le {p q : Nat → Bool} (h : ∀ x, q x = true → p x = true) : ∀ (l : List Nat), (l.filter q).length ≤ (l.filter p).length
  | [] => Nat.le_refl _
  | x :: l => by
    have := filter_le h l
    cases hq : q x with
    | true => simp [List.filter, hq, h x hq]; exact this
    | false => cases hp : p x <;> simp [List.filter, hq, hp] <;> omega
theorem filter_lt {p q : Nat → Bool} (h : ∀ x, q x = true → p x = true) {i : Nat} (hp : p i = true) (hq : q i = false) : ∀ (l : List Nat), i ∈ l → (l.filter q).length < (l.filter p).length
  | [], hi => by cases hi
  | x :: l, hi => by
    rcases List.mem_cons.1 hi with rfl | hi
    · have := filter_le h l
      simp [List.filter, hq, hp]; omega
    · have := filter_lt h hp hq l hi
      cases hqx : q x with
      | true => simp [List.filter, hqx, h x hqx]; exact this
      | false => cases hpx : p x <;> simp [List.filter, hqx, hpx] <;> omega

theorem ready_iff {ops : Array Oper} {listed : Array Bool} (hs : listed.size = ops.size) {i : Nat} : i ∈ Region.ready .any ops listed ↔ ∃ o, ops[i]? = some o ∧ ¬ listed.getD i false = true ∧ ∀ e ∈ o.after.toList, Region.binds .any e = true → listed.getD e.on false = true := by
  unfold Region.ready
  simp only [List.mem_filter, List.mem_range, Bool.and_eq_true, Bool.not_eq_true']
  constructor
  · rintro ⟨h1, h2, h3⟩
    have hi : ops[i]? = some ops[i] := Array.getElem?_eq_getElem h1
    rw [hi] at h3
    simp only [Option.map_some, Option.getD_some] at h3
    refine ⟨ops[i], hi, ?_, ?_⟩
    · rw [Array.getD_eq_getD_getElem?, Array.getElem?_eq_getElem (by omega)] at h2 ⊢
      simp only [Option.getD_some] at h2 ⊢
      rw [h2]; simp
    · intro e he hb
      rw [← Array.all_toList, List.all_eq_true] at h3
      have := h3 e he
      rw [hb] at this
      simpa using this
  · rintro ⟨o, h1, h2, h3⟩
    have hi : i < ops.size := by
      rcases Nat.lt_or_ge i ops.size with h' | h'
      · exact h'
      · rw [Array.getElem?_eq_none h'] at h1; cases h1
    refine ⟨hi, ?_, ?_⟩
    · rw [Array.getD_eq_getD_getElem?, Array.getElem?_eq_getElem (by omega)] at h2 ⊢
      simp only [Option.getD_some] at h2 ⊢
      simpa using h2
    · rw [h1]
      simp only [Option.map_some, Option.getD_some]
      rw [← Array.all_toList, List.all_eq_true]
      intro e he
      cases hb : Region.binds .any e with
      | false => rfl
      | true => rw [h3 e he hb]; rfl
end Go.Proofs.YtgklmecijeadlaaGreatDoor.Ab
