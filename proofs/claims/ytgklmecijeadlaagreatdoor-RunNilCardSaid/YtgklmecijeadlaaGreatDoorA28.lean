import Derived.Test.YtgklmecijeadlaaGreatDoorA27
set_option linter.unusedSimpArgs false
set_option linter.unusedVariables false
set_option linter.unusedSectionVars false
namespace Go.Proofs.YtgklmecijeadlaaGreatDoor.Ab

section
variable {T : Tab} {P : Program} (hT : TabOk T P) {C : Hand} (hC : HandOk T P C) {K : Nat → Prop} {W : World} {ops : Array Oper} {a0 : AA} {σ0 : St} {recs : List Rec} (X : Told T C ops.toList a0 σ0 recs)
include hT hC X

theorem Mode.rest_mem {D : Nat → Prop} {rest : List Rec} {τ : St} (M : Mode T C ops.toList σ0 recs D rest τ) : ∀ z ∈ rest, z ∈ recs ∧ z.s.isSome = true := by
  intro z hz
  cases M with
  | norm h1 h2 h3 => exact X.loud_mem h1 (.inr hz)
  | swap h1 h2 h3 h4 h5 h6 h7 => exact X.loud_mem h1 (.inr (List.mem_cons_of_mem _ (List.mem_cons_of_mem _ hz)))

/-- what an operation that is ready sees -/
theorem ready_sees {E : Env} {D : Nat → Prop} {pb : Nat → Option Nat} {A : Act} {w : World} {rest : List Rec} {τ : St} (S : Sim T K W E τ w) (F : FrOk E a0 recs D pb A) (M : Mode T C ops.toList σ0 recs D rest τ) (N : Pend T K W E a0 D pb A w rest)
    (hD : Closed ops.toList D) (hDl : ∀ j, D j → j < recs.length) {i : Nat} {o : Oper} (hi : ops[i]? = some o) (hni : ¬ D i) (hil : i ≤ recs.length) (hr : ∀ e ∈ o.after.toList, Region.binds .any e = true → D e.on)
    (hall : i < recs.length ∨ ∀ x ∈ recs, x.s.isSome = true → bit (befores ops.toList []) i x.i = true) {a : AA} (ha : Final a0 a (recs.filter (fun q => decide (q.i < i)))) :
    (∀ x, x ∈ o.op.operands.toList → ∀ v, evalA T a.tmps x = some v → Rel E v (A.eval x)) ∧ (∀ bb, wantedA ops.toList a.tmps o = some bb → Region.wanted o (yielded ops A.tmps) = bb) := by
  have hi' : ops.toList[i]? = some o := by rw [Array.getElem?_toList]; exact hi
  have hp := pend_unseen X M N hD hi' hr hall
  have sees' := fun {t : Nat} (hu : t ∈ Op.uses o ∨ ∃ g want p, o.guard = some (g, want) ∧ ops.toList[g]? = some p ∧ p.dst = some t) {v : AV} (hv : a.tmps[t]? = some v) => sees X F hD hDl hi' hni hil hr hp ha hu hv
  refine ⟨?_, ?_⟩
  · intro x hx v hv
    cases x with
    | tmp t => exact sees' (.inl (by unfold Op.uses; exact List.mem_filterMap.2 ⟨.tmp t, hx, rfl⟩)) hv
    | const c => exact evRel (T := T) (tmps := []) (A := ⟨#[], []⟩) ⟨rfl, fun i a h => by simp at h⟩ S.glob (.const c) v hv
    | global g => exact evRel (T := T) (tmps := []) (A := ⟨#[], []⟩) ⟨rfl, fun i a h => by simp at h⟩ S.glob (.global g) v hv
    | func f => exact evRel (T := T) (tmps := []) (A := ⟨#[], []⟩) ⟨rfl, fun i a h => by simp at h⟩ S.glob (.func f) v hv
  · intro bb hb
    refine wanted_ok' (E := E) ?_ hb
    intro g want p d h1 h2 h3 v hv
    refine ⟨gd A.tmps d, gd_lt ?_, sees' (.inr ⟨g, want, p, h1, by rw [Array.getElem?_toList]; exact h2, h3⟩) hv⟩
    rw [F.size, ← ha.len]
    rcases Nat.lt_or_ge d a.tmps.length with h' | h'
    · exact h'
    · rw [List.getElem?_eq_none h'] at hv; cases hv

theorem exec_alloc {A : Act} {o : Oper} {t : TypeId} {v : Value} {w : World} {next : Act → World → Prop} {Q : Exit → Act → World → Prop} (hop : o.op = .alloc t) (hv : T.zero t = some v)
    (k : next (A.put o.dst (.pointer (some ⟨w.heap.size, 0, none⟩))) (w.alloc (.cells v.cells t (0, 0)))) : o.wp P A w next Q := by
  refine wp_val ?_ k
  unfold execOp; rw [hop]
  refine run_val ?_
  unfold Instr.alloc
  simp [run_zero hT hv, newVar, newRow]

theorem step_inv {E0 : Env} {D : Nat → Prop} {A : Act} {w : World} (I : Inv T K W E0 C ops.toList a0 σ0 recs D A w) (hD : Closed ops.toList D) (hDl : ∀ j, D j → j < recs.length) {i : Nat} (hil : i < recs.length) (hni : ¬ D i)
    (hr : ∀ o, ops[i]? = some o → ∀ e ∈ o.after.toList, Region.binds .any e = true → D e.on) {next : Act → World → Prop} {Q : Exit → Act → World → Prop}
    (k : ∀ A' w', Inv T K W E0 C ops.toList a0 σ0 recs (fun j => D j ∨ j = i) A' w' → next A' w') : wpOp P ops Q i next A w := by
  obtain ⟨r, hrm, rfl⟩ := X.all i hil
  obtain ⟨E, pb, rest, τ, hl, S, F, M, N⟩ := I
  have hio : ops[r.i]? = some r.o := by rw [← Array.getElem?_toList]; exact X.at_ r hrm
  have hre := hr r.o hio
  obtain ⟨hops, hwant⟩ := ready_sees hT hC X S F M N hD hDl hio hni (Nat.le_of_lt hil) hre (.inl hil) (X.fin r hrm)
  have hnd := X.nodef r.o (List.mem_of_getElem? (X.at_ r hrm))
  have hpn : ∀ b, (∃ j, pb j = some b) → Foreign K W E w b := fun b ⟨j, hj⟩ => by obtain ⟨_, _, _, _, PZ⟩ := N.at_ j b hj; exact PZ.f
  have S1 := S.rebase (fun b => ∃ j, pb j = some b) hpn
  have hrest := Mode.rest_mem hT hC X M
  have hrest' : ∀ z ∈ rest, z ∈ recs := fun z hz => (hrest z hz).1
  have ne_of : ∀ z, z ∈ recs → z ≠ r → z.i ≠ r.i := fun z hz hne he => hne (X.one z hz r hrm he)
  cases hs : r.s with
  | none =>
    obtain ⟨a', hrun, hval⟩ := silent_run X M hD hrm hs hni hre
    refine stepOpD_ok hT hC S1 hio hops hwant hnd hrun ?_ (fun v h => by cases h)
    intro _ E' w' vv hl' S' hv
    refine k _ _ ⟨E', pb, rest, τ, hl.trans hl', S.back S', F.step X hl' hrm (by rw [hval]; exact hv), ?_, Pend.carry hT hC X N hrest' S' hrm hni (fun z h => h) (fun z h _ => h) ?_⟩
    · cases M with
      | norm h1 h2 h3 =>
        refine .norm h1 (fun l hl => .inl (h2 l hl)) ?_
        rintro x xs rfl (h | h)
        · exact h3 x xs rfl h
        · have hx := X.loud_mem h1 (.inr (List.mem_cons_self ..))
          have := X.one x hx.1 r hrm h
          rw [this, hs] at hx; cases hx.2
      | swap h1 h2 h3 h4 h5 h6 h7 =>
        refine .swap h1 (fun l hl => .inl (h2 l hl)) ?_ (.inl h4) h5 h6 h7
        rintro (h | h)
        · exact h3 h
        · have hx := X.loud_mem h1 (.inr (List.mem_cons_self ..))
          have := X.one _ hx.1 r hrm h
          rw [this, hs] at hx; cases hx.2
    · intro z hz he
      have := hrest z hz
      rw [X.one z this.1 r hrm he, hs] at this
      cases this.2
  | some s =>
    have hrl : r ∈ recs.filter (·.s.isSome) := by simp [hrm, hs]
    have hrun := X.run r hrm
    rw [hs] at hrun
    -- a variable ahead of its turn
    have early : r ∈ rest → isAlloc r.o = true → Mode T C ops.toList σ0 recs (fun j => D j ∨ j = r.i) rest τ → wpOp P ops Q r.i next A w := by
      intro hrr hal M'
      obtain ⟨t, hop⟩ := isAlloc_op hal
      obtain ⟨hw, v, z, hv, _, _, _, _⟩ := alloc_step hop hrun
      unfold wpOp
      rw [hio]
      simp only
      rw [if_pos (hwant _ hw)]
      refine .inl (exec_alloc hT hC X hop hv ?_)
      obtain ⟨S2, f2⟩ := S.alloc_foreign (.cells v.cells t (0, 0))
      refine k _ _ ⟨E, _, rest, τ, hl, S2, F.stepP X (Env.le.refl E) hrm (bl := w.heap.size), M', ?_, ?_, ?_⟩
      · intro q hq hd
        by_cases he : q.i = r.i
        · rw [X.one q (hrest' q hq) r hrm he, if_pos rfl]; exact ⟨hal, by simp⟩
        · rw [if_neg he]; exact N.done q hq (hd.resolve_right he)
      · intro j bl hj
        by_cases he : j = r.i
        · rw [if_pos he] at hj; cases hj
          refine ⟨r, hrr, he.symm, .inr he, f2, ⟨t, v, hop, hv, heap_self⟩, ?_⟩
          intro d hd hlt
          rw [hd, gd_put_eq (by rw [F.size]; exact hlt)]
        · rw [if_neg he] at hj
          obtain ⟨q, hq, hqi, hqd, PQ⟩ := N.at_ j bl hj
          obtain ⟨t', v', c1, c2, c3⟩ := PQ.cell
          refine ⟨q, hq, hqi, .inl hqd, PQ.f.alloc _, ⟨t', v', c1, c2, by rw [heap_push PQ.f.lt]; exact c3⟩, ?_⟩
          intro d hd hlt
          rw [gd_put_ne (fun e => he (by rw [← hqi, X.dst1 (hrest' q hq) hrm hd e]))]
          exact PQ.slot d hd hlt
      · intro j j' bl hj hk
        have hlt : ∀ j, pb j = some bl → bl < w.heap.size := fun j h => (hpn bl ⟨j, h⟩).lt
        by_cases ej : j = r.i
        · by_cases ek : j' = r.i
          · rw [ej, ek]
          · rw [if_pos ej] at hj; rw [if_neg ek] at hk; cases hj; exact absurd (hlt j' hk) (Nat.lt_irrefl _)
        · by_cases ek : j' = r.i
          · rw [if_neg ej] at hj; rw [if_pos ek] at hk; cases hk; exact absurd (hlt j hj) (Nat.lt_irrefl _)
          · rw [if_neg ej] at hj; rw [if_neg ek] at hk; exact N.inj j j' bl hj hk
    have noBit : ∀ x, x ∈ recs → ¬ D x.i → bit (befores ops.toList []) r.i x.i = false := by
      intro x hx hnx
      cases hb : bit (befores ops.toList []) r.i x.i with
      | false => rfl
      | true => exact absurd (closed_bit hD X.edges r.i (X.at_ r hrm) hre hb) hnx
    cases M with
    | @norm pre rest h1 h2 h3 =>
      have hrr : r ∈ rest := by
        rw [h1] at hrl
        exact (List.mem_append.1 hrl).resolve_left (fun h => hni (h2 r h))
      cases rest with
      | nil => cases hrr
      | cons x xs =>
        have hxm := X.loud_mem h1 (.inr (List.mem_cons_self ..))
        have hnx := h3 x xs rfl
        by_cases hx : r = x
        · subst hx
          rw [X.loud_st h1] at hrun
          refine stepOpD_ok hT hC S1 hio hops hwant hnd hrun ?_ (fun v h => by cases h)
          intro _ E' w' vv hl' S' hv
          have hlt : ∀ z ∈ xs, z.i ≠ r.i := fun z hz => Nat.ne_of_gt (X.loud_lt h1 hz)
          refine k _ _ (absorb hT hC X xs (pre ++ [r]) (by rw [h1]; simp) ?_ (hl.trans hl') ?_ (F.step X hl' hrm hv) (Pend.carry hT hC X N hrest' S' hrm hni (fun z h => List.mem_cons_of_mem _ h) ?_ hlt))
          · intro l hl
            rcases List.mem_append.1 hl with h | h
            · exact .inl (h2 l h)
            · rw [List.mem_singleton.1 h]; exact .inr rfl
          · rw [stAfter_snoc, hs]; exact S.back S'
          · intro z hz hd
            rcases List.mem_cons.1 hz with rfl | hz
            · exact absurd hd hni
            · exact hz
        · have hrx : r ∈ xs := (List.mem_cons.1 hrr).resolve_left hx
          have hbx := noBit x hxm.1 hnx
          cases hal : isAlloc r.o with
          | true =>
            refine early hrr hal (.norm h1 (fun l hl => .inl (h2 l hl)) ?_)
            intro x' xs' he
            cases he
            rintro (h | h)
            · exact hnx h
            · exact ne_of x hxm.1 (fun e => hx e.symm) h
          | false =>
            have hmem : (x, r) ∈ unord (befores ops.toList []) (recs.filter (·.s.isSome)) := by rw [h1]; exact unord_mem pre hrx hbx hal
            rcases X.unord with hu | ⟨x', y', hu, hsw⟩
            · rw [hu] at hmem; cases hmem
            · rw [hu] at hmem
              cases List.mem_singleton.1 hmem
              obtain ⟨zs, rest', rfl⟩ := List.append_of_mem hrx
              have hzs : zs = [] := by
                cases zs with
                | nil => rfl
                | cons z zs =>
                  exfalso
                  have hzm := X.loud_mem h1 (l := z) (.inr (by simp))
                  have hxz : x.i < z.i := X.loud_lt h1 (by simp)
                  have hbz : bit (befores ops.toList []) r.i z.i = true := by
                    cases hb : bit (befores ops.toList []) r.i z.i with
                    | true => rfl
                    | false =>
                      have : (z, r) ∈ unord (befores ops.toList []) (recs.filter (·.s.isSome)) := by
                        rw [h1, show pre ++ x :: (z :: zs ++ r :: rest') = (pre ++ [x]) ++ z :: (zs ++ r :: rest') by simp]
                        exact unord_mem _ (by simp) hb hal
                      rw [hu] at this
                      have := List.mem_singleton.1 this
                      rw [Prod.mk.injEq] at this
                      rw [this.1] at hxz
                      exact absurd hxz (Nat.lt_irrefl _)
                  have hDz := closed_bit hD X.edges r.i (X.at_ r hrm) hre hbz
                  have halz := (N.done z (by simp) hDz).1
                  have := X.alloc z hzm.1 hzm.2 halz r hrm hbz x hxm.1 hxm.2 hxz
                  rw [hbx] at this; cases this
              subst hzs
              simp only [List.nil_append] at h1 hrest hrest' N S1
              have hsw' := hsw
              unfold swapOk at hsw'
              rw [hs] at hsw'
              split at hsw'
              · rename_i b1 a1 s1 s2 hst he
                cases he
                simp only [Bool.and_eq_true] at hsw'
                have hval := same_eq _ _ hsw'.1.1
                have hst' := hst
                rw [X.loud_st h1] at hst
                refine stepOpD_ok hT hC S1 hio hops hwant hnd hst ?_ (fun v h => by cases h)
                intro _ E' w' vv hl' S' hv
                have hlt : ∀ z ∈ rest', z.i ≠ r.i := fun z hz => Nat.ne_of_gt (X.loud_lt (pre := pre ++ [x]) (by rw [h1]; simp) hz)
                refine k _ _ ⟨E', pb, rest', s1, hl.trans hl', S.back S', F.step X hl' hrm (by rw [hval]; exact hv), .swap h1 (fun l hl => .inl (h2 l hl)) ?_ (.inr rfl) hu hsw hst', Pend.carry hT hC X N hrest' S' hrm hni (fun z h => by simp [h]) ?_ hlt⟩
                · rintro (h | h)
                  · exact hnx h
                  · exact ne_of x hxm.1 (fun e => hx e.symm) h
                · intro z hz hd
                  rcases List.mem_cons.1 hz with rfl | hz
                  · exact absurd hd hnx
                  · rcases List.mem_cons.1 hz with rfl | hz
                    · exact absurd hd hni
                    · exact hz
              · cases hsw'
    | @swap pre rest x y b1 s1 h1 h2 h3 h4 h5 h6 h7 =>
      have hxm := X.loud_mem h1 (l := x) (.inr (by simp))
      have hym := X.loud_mem h1 (l := y) (.inr (by simp))
      have hrr : r = x ∨ r ∈ rest := by
        rw [h1] at hrl
        rcases List.mem_append.1 hrl with h | h
        · exact absurd (h2 r h) hni
        · rcases List.mem_cons.1 h with h | h
          · exact .inl h
          · rcases List.mem_cons.1 h with h | h
            · rw [h] at hni; exact absurd h4 hni
            · exact .inr h
      by_cases hx : r = x
      · subst hx
        have hsw' := h6
        unfold swapOk at hsw'
        rw [h7] at hsw'
        split at hsw'
        · rename_i a1 t1 s2 he hys
          cases he
          simp only [Bool.and_eq_true] at hsw'
          split at hsw'
          · rename_i a2 s3 hst
            simp only [Bool.and_eq_true] at hsw'
            have hval := same_eq _ _ hsw'.1.2.1
            have hlt : ∀ z ∈ rest, z.i ≠ r.i := fun z hz => Nat.ne_of_gt (X.loud_lt h1 (List.mem_cons_of_mem _ hz))
            refine stepOpD_ok hT hC S1 hio hops hwant hnd hst ?_ (fun v h => by cases h)
            intro _ E' w' vv hl' S' hv
            refine k _ _ (absorb hT hC X rest (pre ++ [r, y]) (by rw [h1]; simp) ?_ (hl.trans hl') ?_ (F.step X hl' hrm (by rw [hval]; exact hv)) (Pend.carry hT hC X N hrest' S' hrm hni (fun z h => h) (fun z h _ => h) hlt))
            · intro l hl
              rcases List.mem_append.1 hl with h | h
              · exact .inl (h2 l h)
              · simp only [List.mem_cons, List.not_mem_nil, or_false] at h
                rcases h with rfl | rfl
                · exact .inr rfl
                · exact .inl h4
            · have : stAfter σ0 (pre ++ [r, y]) = s2 := by
                rw [show pre ++ [r, y] = (pre ++ [r]) ++ [y] by simp, stAfter_snoc, hys]; rfl
              rw [this]
              exact (S.back S').st_same hsw'.1.2.2
          · simp at hsw'
        · cases hsw'
      · have hrr' := hrr.resolve_left hx
        cases hal : isAlloc r.o with
        | true =>
          refine early hrr' hal (.swap h1 (fun l hl => .inl (h2 l hl)) ?_ (.inl h4) h5 h6 h7)
          rintro (h | h)
          · exact h3 h
          · exact ne_of x hxm.1 (fun e => hx e.symm) h
        | false =>
          exfalso
          have hmem : (x, r) ∈ unord (befores ops.toList []) (recs.filter (·.s.isSome)) := by rw [h1]; exact unord_mem pre (List.mem_cons_of_mem _ hrr') (noBit x hxm.1 h3) hal
          rw [h5] at hmem
          have := List.mem_singleton.1 hmem
          rw [Prod.mk.injEq] at this
          rw [this.2] at hni
          exact hni h4
end
end Go.Proofs.YtgklmecijeadlaaGreatDoor.Ab
