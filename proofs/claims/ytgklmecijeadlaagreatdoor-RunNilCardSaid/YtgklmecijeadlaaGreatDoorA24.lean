import Derived.Test.YtgklmecijeadlaaGreatDoorA23
set_option linter.unusedSimpArgs false
set_option linter.unusedVariables false
set_option linter.unusedSectionVars false
namespace Go.Proofs.YtgklmecijeadlaaGreatDoor.Ab

/-! ### the same by their look -/
mutual
theorem same_eq : ∀ (a b : AV), a.same b = true → a = b
  | .junk, b, h => by cases b <;> simp_all [AV.same]
  | .bool x, b, h => by cases b <;> simp_all [AV.same]
  | .int k n, b, h => by cases b <;> simp_all [AV.same]
  | .float k n, b, h => by cases b <;> simp_all [AV.same]
  | .str s, b, h => by cases b <;> simp_all [AV.same]
  | .nilptr, b, h => by cases b <;> simp_all [AV.same]
  | .ptr s o, b, h => by cases b <;> simp_all [AV.same]
  | .aptr s g o, b, h => by cases b <;> simp_all [AV.same]
  | .iptr r o, b, h => by
    cases b <;> simp only [AV.same, Bool.and_eq_true, Bool.false_eq_true] at h
    rw [sames_eq _ _ h.1, nbeq_iff.1 h.2]
  | .snil, b, h => by cases b <;> simp_all [AV.same]
  | .slist r t, b, h => by
    cases b <;> simp only [AV.same, Bool.and_eq_true, Bool.false_eq_true] at h
    rw [samess_eq _ _ h.1, (by simpa using h.2 : t = _)]
  | .sown s g o, b, h => by cases b <;> simp_all [AV.same]
  | .map s, b, h => by cases b <;> simp_all [AV.same]
  | .func f x y, b, h => by
    cases b <;> simp only [AV.same, Bool.and_eq_true, Bool.false_eq_true] at h
    rw [sames_eq _ _ h.1.2, sames_eq _ _ h.2, (by simpa using h.1.1 : f = _)]
  | .nilfn, b, h => by cases b <;> simp_all [AV.same]
  | .iface t v, b, h => by
    cases b <;> simp only [AV.same, Bool.and_eq_true, Bool.false_eq_true] at h
    rw [same_eq _ _ h.2, nbeq_iff.1 h.1]
  | .nilif, b, h => by cases b <;> simp_all [AV.same]
  | .agg c, b, h => by
    cases b <;> simp only [AV.same, Bool.false_eq_true] at h
    rw [sames_eq _ _ h]
  | .tuple c, b, h => by
    cases b <;> simp only [AV.same, Bool.false_eq_true] at h
    rw [sames_eq _ _ h]
theorem sames_eq : ∀ (a b : List AV), AV.sames a b = true → a = b
  | [], b, h => by cases b <;> simp_all [AV.sames]
  | x :: l, b, h => by
    cases b <;> simp only [AV.sames, Bool.and_eq_true, Bool.false_eq_true] at h
    rw [same_eq _ _ h.1, sames_eq _ _ h.2]
theorem samess_eq : ∀ (a b : List (List AV)), AV.samess a b = true → a = b
  | [], b, h => by cases b <;> simp_all [AV.samess]
  | x :: l, b, h => by
    cases b <;> simp only [AV.samess, Bool.and_eq_true, Bool.false_eq_true] at h
    rw [sames_eq _ _ h.1, samess_eq _ _ h.2]
end

theorem zip_eq : ∀ {a b : List (AV × AV)}, a.map (·.1) = b.map (·.1) → a.map (·.2) = b.map (·.2) → a = b
  | [], [], _, _ => rfl
  | [], _ :: _, h, _ => by simp at h
  | _ :: _, [], h, _ => by simp at h
  | (x, y) :: a, (x', y') :: b, h, h' => by
    simp only [List.map_cons, List.cons.injEq] at h h'
    rw [h.1, h'.1, zip_eq h.2 h'.2]

theorem blk_same_eq {a b : Blk} (h : a.same b = true) : a = b := by
  cases a <;> cases b <;> simp only [Blk.same, Bool.and_eq_true, Bool.false_eq_true] at h
  · rw [sames_eq _ _ h.1.1, nbeq_iff.1 h.1.2, nbeq_iff.1 h.2]
  · rw [nbeq_iff.1 h.1.1.1, sames_eq _ _ h.1.1.2, nbeq_iff.1 h.1.2, nbeq_iff.1 h.2]
  · rw [zip_eq (sames_eq _ _ h.1) (sames_eq _ _ h.2)]
  · rename_i s1 p1 s2 p2
    have h1 : s1 = s2 := by simpa using h.1
    rw [h1, nbeq_iff.1 h.2]

theorem sameBlks_eq : ∀ {a b : List (Nat × Blk)}, sameBlks a b = true → a = b
  | [], [], _ => rfl
  | [], _ :: _, h => by simp [sameBlks] at h
  | _ :: _, [], h => by simp [sameBlks] at h
  | (k, B) :: a, (k', B') :: b, h => by
    simp only [sameBlks, Bool.and_eq_true] at h
    rw [nbeq_iff.1 h.1.1, blk_same_eq h.1.2, sameBlks_eq h.2]

theorem Sim.st_same {T K W E σ τ w} (S : Sim T K W E σ w) (h : σ.same τ = true) : Sim T K W E τ w := by
  unfold St.same at h
  rw [Bool.and_eq_true] at h
  have h1 := sameBlks_eq h.1
  have h2 := nbeq_iff.1 h.2
  obtain ⟨b, n, l⟩ := σ
  obtain ⟨b', n', l'⟩ := τ
  simp only at h1 h2
  subst h1; subst h2
  exact ⟨S.os, S.tape, S.output, S.size, S.keep, S.kin, S.inn, S.next, S.live, S.blk, S.inj, S.glob, S.off⟩

/-! ### foreign blocks -/
structure Foreign (K : Nat → Prop) (W : World) (E : Env) (w : World) (b : Nat) : Prop where
  old : W.heap.size ≤ b
  lt : b < w.heap.size
  off : E.H b = none
  free : ∀ s x, E.at_ s = some x → x.1 ≠ b

theorem Sim.rebase {T K W E σ w} (S : Sim T K W E σ w) (pend : Nat → Prop) (hp : ∀ b, pend b → Foreign K W E w b) : Sim T (fun b => K b ∨ pend b) { w with drawn := min W.drawn W.heap.size } E σ w := by
  refine ⟨rfl, rfl, rfl, Nat.le_refl _, fun _ _ => rfl, ?_, S.inn, S.next, S.live, ?_, S.inj, S.glob, ?_⟩
  · rintro b (h | h)
    · exact Nat.lt_of_lt_of_le (S.kin b h) S.size
    · exact (hp b h).lt
  · intro s B hB
    obtain ⟨b, cap, g, ha, hK, hb⟩ := S.blk s B hB
    exact ⟨b, cap, g, ha, fun h => h.elim hK (fun h => (hp b h).free s _ ha rfl), hb⟩
  · rintro b (h | h) hd
    · refine S.off b h ?_
      have := S.kin b h
      simp only at hd
      omega
    · exact (hp b h).off

theorem Sim.back {T K W E E' σ σ' w w'} {pend : Nat → Prop} (S : Sim T K W E σ w) (S' : Sim T (fun b => K b ∨ pend b) { w with drawn := min W.drawn W.heap.size } E' σ' w') : Sim T K W E' σ' w' := by
  refine ⟨S'.os.trans S.os, S'.tape.trans S.tape, S'.output.trans S.output, Nat.le_trans S.size S'.size, fun b h => (S'.keep b (.inl h)).trans (S.keep b h), S.kin, S'.inn, S'.next, S'.live, ?_, S'.inj, S'.glob, ?_⟩
  · intro s B hB
    obtain ⟨b, cap, g, ha, hK, hb⟩ := S'.blk s B hB
    exact ⟨b, cap, g, ha, fun h => hK (.inl h), hb⟩
  · intro b h hd
    exact S'.off b (.inl h) (by simp only; omega)

theorem Sim.foreign {T : Tab} {K : Nat → Prop} {W : World} {E E' : Env} {σ' : St} {w w' : World} {pend : Nat → Prop} (hp : ∀ b, pend b → Foreign K W E w b) (S' : Sim T (fun b => K b ∨ pend b) { w with drawn := min W.drawn W.heap.size } E' σ' w') {b : Nat} (hb : pend b) :
    Foreign K W E' w' b ∧ w'.heap[b]? = w.heap[b]? := by
  have h0 := hp b hb
  refine ⟨⟨h0.old, Nat.lt_of_lt_of_le h0.lt S'.size, S'.off b (.inr hb) ?_, ?_⟩, S'.keep b (.inr hb)⟩
  · have := h0.old; simp only; omega
  · rintro s ⟨b', cap, g⟩ ha rfl
    obtain ⟨B, hB⟩ := S'.live s _ _ _ ha
    obtain ⟨b2, c2, g2, ha2, hK, _⟩ := S'.blk s B hB
    rw [ha] at ha2; cases ha2
    exact hK (.inr hb)

/-- a block that nobody knows -/
theorem Sim.alloc_foreign {T K W E σ w} (S : Sim T K W E σ w) (o : Obj) : Sim T K W E σ (w.alloc o) ∧ Foreign K W E (w.alloc o) w.heap.size := by
  have hfr : E.H w.heap.size = none := S.fresh
  refine ⟨⟨S.os, S.tape, S.output, by have := S.size; simp; omega, ?_, S.kin, S.inn.alloc, S.next, S.live, ?_, S.inj, S.glob, S.off⟩, S.size, by simp, hfr, ?_⟩
  · intro b hb
    rw [heap_push (Nat.lt_of_lt_of_le (S.kin b hb) S.size)]; exact S.keep b hb
  · intro s B hB
    obtain ⟨b, cap, g, ha, hK, hb⟩ := S.blk s B hB
    exact ⟨b, cap, g, ha, hK, hb.carry (Env.le.refl E) (heap_push hb.lt) (fun h => h)⟩
  · rintro s ⟨b, cap, g⟩ ha
    obtain ⟨B, hB⟩ := S.live s _ _ _ ha
    obtain ⟨b2, c2, g2, ha2, _, hb⟩ := S.blk s B hB
    rw [ha] at ha2; cases ha2
    have := hb.lt
    simp only; omega

theorem Foreign.alloc {K W E w b} (h : Foreign K W E w b) (o : Obj) : Foreign K W E (w.alloc o) b := ⟨h.old, by simp; have := h.lt; omega, h.off, h.free⟩

/-- a foreign block becomes an own one -/
theorem Sim.adopt {T K W E σ w} (S : Sim T K W E σ w) {b : Nat} (hf : Foreign K W E w b) {B : Blk} {cap g : Nat} (hB : BlkRel T (E.new b cap g) w b cap g B) : Sim T K W (E.new b cap g) (σ.new B) w := by
  have hl := E.le_new b cap g
  refine ⟨S.os, S.tape, S.output, S.size, S.keep, S.kin, S.inn, ?_, ?_, ?_, ?_, ?_, S.off⟩
  · show E.next + 1 = σ.next + 1
    rw [S.next]
  · intro s b' cap' g' ha
    rw [get_new]
    by_cases hs : σ.next = s
    · exact ⟨B, if_pos hs⟩
    · rw [if_neg hs]
      simp only [Env.new] at ha
      rw [if_neg (by rw [S.next]; exact fun e => hs e.symm)] at ha
      exact S.live s b' cap' g' ha
  · intro s B' hB'
    rw [get_new] at hB'
    by_cases hs : σ.next = s
    · rw [if_pos hs] at hB'; cases hB'
      refine ⟨b, cap, g, by show (if _ then _ else _) = _; rw [if_pos (by rw [S.next]; exact hs.symm)], ?_, hB⟩
      intro hK; have := S.kin _ hK; have := hf.old; omega
    · rw [if_neg hs] at hB'
      obtain ⟨b', cap', g', ha, hK, hb⟩ := S.blk s B' hB'
      refine ⟨b', cap', g', by show (if _ then _ else _) = _; rw [if_neg (by rw [S.next]; exact fun e => hs e.symm)]; exact ha, hK, ?_⟩
      exact hb.carry hl rfl (fun h => h)
  · intro s t b1 c1 g1 c2 g2 h1 h2
    simp only [Env.new] at h1
    simp only [Env.new] at h2
    by_cases hs : s = E.next
    · by_cases ht : t = E.next
      · rw [hs, ht]
      · rw [if_pos hs] at h1; rw [if_neg ht] at h2
        cases h1
        exact absurd rfl (hf.free t _ h2)
    · by_cases ht : t = E.next
      · rw [if_neg hs] at h1; rw [if_pos ht] at h2
        cases h2
        exact absurd rfl (hf.free s _ h1)
      · rw [if_neg hs] at h1; rw [if_neg ht] at h2
        exact S.inj s t b1 c1 g1 c2 g2 h1 h2
  · exact fun g row h => (S.glob g row h).mono hl

theorem Foreign.new {K W E w b b' cap g} (h : Foreign K W E w b) (hne : b' ≠ b) : Foreign K W (E.new b' cap g) w b := by
  refine ⟨h.old, h.lt, h.off, ?_⟩
  rintro s x hx
  simp only [Env.new] at hx
  split at hx
  · cases hx; exact hne
  · exact h.free s x hx

/-! ### the run as it is told -/
inductive Chain (T : Tab) (C : Hand) (ops : List Oper) : List Oper → Nat → AA → St → List Rec → AA → St → Prop
  | nil {i : Nat} {a : AA} {σ : St} : Chain T C ops [] i a σ [] a σ
  | cons {o : Oper} {l : List Oper} {i : Nat} {a a1 a' : AA} {σ σ' : St} {s : Option St} {rs : List Rec} : stepOp T C ops o a σ = some (.norm, a1, s) → Chain T C ops l (i + 1) a1 (s.getD σ) rs a' σ' →
      Chain T C ops (o :: l) i a σ (⟨i, o, a, σ, a1, s⟩ :: rs) a' σ'

variable {T : Tab} {C : Hand} {ops : List Oper}

theorem runRec_chain : ∀ (l : List Oper) {i : Nat} {a a' : AA} {σ σ' : St} {e : Ex} {acc recs : List Rec}, runRec T C ops l i a σ acc = some (e, a', σ', recs) →
    (e = .norm ∧ ∃ rs, recs = acc.reverse ++ rs ∧ Chain T C ops l i a σ rs a' σ') ∨
    (∃ v, e = .pan v ∧ ∃ l1 o l2 rs a1 σ1 last s, l = l1 ++ o :: l2 ∧ recs = acc.reverse ++ (rs ++ [last]) ∧ Chain T C ops l1 i a σ rs a1 σ1 ∧ stepOp T C ops o a1 σ1 = some (.pan v, a', s) ∧ σ' = s.getD σ1)
  | [], i, a, a', σ, σ', e, acc, recs, h => by
    cases h
    exact .inl ⟨rfl, [], by simp, .nil⟩
  | o :: l, i, a, a', σ, σ', e, acc, recs, h => by
    simp only [runRec] at h
    split at h
    · rename_i a1 s hs
      rcases runRec_chain l h with ⟨he, rs, h1, h2⟩ | ⟨v, he, l1, o', l2, rs, a2, σ2, last, s2, h1, h2, h3, h4, h5⟩
      · exact .inl ⟨he, _ :: rs, by rw [h1]; simp, .cons hs h2⟩
      · exact .inr ⟨v, he, o :: l1, o', l2, _ :: rs, a2, σ2, last, s2, by rw [h1]; rfl, by rw [h2]; simp, .cons hs h3, h4, h5⟩
    · rename_i e1 a1 s hne hs
      cases h
      have : e = .norm ∨ ∃ v, e = .pan v := by
        unfold stepOp at hs
        split at hs
        · split at hs <;> first | (cases hs; exact .inl rfl) | (cases hs; exact .inr ⟨_, rfl⟩) | cases hs
        · cases hs; exact .inl rfl
        · cases hs
      rcases this with rfl | ⟨v, rfl⟩
      · exact (hne rfl).elim
      · exact .inr ⟨v, rfl, [], o, l, [], a, σ, _, s, rfl, by simp; rfl, .nil, hs, rfl⟩
    · cases h

theorem Chain.split : ∀ {l : List Oper} {i : Nat} {a a' : AA} {σ σ' : St} {pre : List Rec} {r : Rec} {post : List Rec}, Chain T C ops l i a σ (pre ++ r :: post) a' σ' →
    ∃ l1 l2, l = l1 ++ r.o :: l2 ∧ l1.length = pre.length ∧ r.i = i + pre.length ∧ Chain T C ops l1 i a σ pre r.a r.b ∧ stepOp T C ops r.o r.a r.b = some (.norm, r.r, r.s) ∧ Chain T C ops l2 (r.i + 1) r.r (r.s.getD r.b) post a' σ' := by
  intro l i a a' σ σ' pre r post h
  induction pre generalizing l i a σ with
  | nil =>
    cases h with
    | cons hs hc => exact ⟨[], _, rfl, rfl, rfl, .nil, hs, hc⟩
  | cons p pre ih =>
    cases h with
    | cons hs hc =>
      obtain ⟨l1, l2, h1, h2, h3, h4, h5, h6⟩ := ih hc
      exact ⟨_ :: l1, l2, by rw [h1]; rfl, by simp [h2], by rw [h3]; simp; omega, .cons hs h4, h5, h6⟩

def stAfter (σ : St) (recs : List Rec) : St := recs.foldl (fun σ r => r.s.getD σ) σ

theorem stAfter_filter : ∀ (recs : List Rec) (σ : St), stAfter σ (recs.filter (·.s.isSome)) = stAfter σ recs
  | [], _ => rfl
  | r :: l, σ => by
    unfold stAfter
    cases hs : r.s with
    | none => simp only [List.filter, hs, Option.isSome_none, List.foldl_cons, Option.getD_none]; exact stAfter_filter l σ
    | some s => simp only [List.filter, hs, Option.isSome_some, List.foldl_cons, Option.getD_some]; exact stAfter_filter l s

theorem Chain.state : ∀ {l : List Oper} {i : Nat} {a a' : AA} {σ σ' : St} {recs : List Rec}, Chain T C ops l i a σ recs a' σ' → σ' = stAfter σ recs := by
  intro l i a a' σ σ' recs h
  induction h with
  | nil => rfl
  | cons hs hc ih => exact ih

theorem step_put {o : Oper} {a a' : AA} {σ : St} {s : Option St} (hnd : isDefer o = false) (h : stepOp T C ops o a σ = some (.norm, a', s)) : ∃ v, a' = a.put o.dst v := by
  unfold stepOp at h
  split at h
  · split at h
    · cases h; exact ⟨_, rfl⟩
    · cases h; exact ⟨_, rfl⟩
    · rename_i hs; exact absurd hs (stepA_not_defer hnd)
    · cases h
    · cases h
  · cases h; exact ⟨_, rfl⟩
  · cases h

/-- a frame after a run, slot by slot -/
structure Final (a a' : AA) (recs : List Rec) : Prop where
  len : a'.tmps.length = a.tmps.length
  defers : a'.defers = a.defers
  keep : ∀ t, (∀ q ∈ recs, q.o.dst ≠ some t) → a'.tmps[t]? = a.tmps[t]?
  set : ∀ q ∈ recs, ∀ t, q.o.dst = some t → (∀ q' ∈ recs, q'.o.dst = some t → q'.i = q.i) → t < a.tmps.length → a'.tmps[t]? = some q.val

theorem Chain.idx : ∀ {l : List Oper} {i : Nat} {a a' : AA} {σ σ' : St} {recs : List Rec}, Chain T C ops l i a σ recs a' σ' → ∀ r ∈ recs, i ≤ r.i := by
  intro l i a a' σ σ' recs h
  induction h with
  | nil => intro r hr; cases hr
  | cons hs hc ih =>
    intro r hr
    rcases List.mem_cons.1 hr with rfl | hr
    · exact Nat.le_refl _
    · have := ih r hr; omega

theorem Chain.final {l : List Oper} {i : Nat} {a a' : AA} {σ σ' : St} {recs : List Rec} (h : Chain T C ops l i a σ recs a' σ') : (∀ o ∈ l, isDefer o = false) → Final a a' recs := by
  induction h with
  | nil => intro _; exact ⟨rfl, rfl, fun _ _ => rfl, fun q hq => by cases hq⟩
  | @cons o l i a a1 a' σ σ' s rs hs hc ih =>
    intro hd
    obtain ⟨v, hv⟩ := step_put (hd o (List.mem_cons_self ..)) hs
    have F := ih (fun o ho => hd o (List.mem_cons_of_mem _ ho))
    have hlen : a1.tmps.length = a.tmps.length := by rw [hv]; cases o.dst <;> simp [AA.put]
    have hdef : a1.defers = a.defers := by rw [hv]; cases o.dst <;> rfl
    refine ⟨F.len.trans hlen, F.defers.trans hdef, ?_, ?_⟩
    · intro t ht
      rw [F.keep t (fun q hq => ht q (List.mem_cons_of_mem _ hq))]
      have h0 := ht _ (List.mem_cons_self ..)
      simp only at h0
      rw [hv]
      cases hdst : o.dst with
      | none => rfl
      | some d =>
        simp only [AA.put]
        rw [List.getElem?_set_ne]
        rintro rfl
        exact h0 hdst
    · intro q hq t ht hu hl
      rcases List.mem_cons.1 hq with rfl | hq
      · have hk : ∀ q ∈ rs, q.o.dst ≠ some t := by
          intro q hq hqt
          have h1 := hu q (List.mem_cons_of_mem _ hq) hqt
          have h2 := hc.idx q hq
          simp only at h1
          omega
        rw [F.keep t hk]
        simp only at ht
        simp only [Rec.val, valAt, ht]
        rw [List.getD_eq_getElem?_getD]
        have : t < a1.tmps.length := by rw [hlen]; exact hl
        rw [List.getElem?_eq_getElem this]
        rfl
      · exact F.set q hq t ht (fun q' hq' => hu q' (List.mem_cons_of_mem _ hq')) (by rw [hlen]; exact hl)
end Go.Proofs.YtgklmecijeadlaaGreatDoor.Ab
