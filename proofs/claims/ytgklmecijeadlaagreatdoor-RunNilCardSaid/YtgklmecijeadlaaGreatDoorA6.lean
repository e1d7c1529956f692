import Derived.Test.YtgklmecijeadlaaGreatDoorA5
set_option linter.unusedSimpArgs false
set_option linter.unusedVariables false
set_option linter.unusedSectionVars false
namespace Go.Proofs.YtgklmecijeadlaaGreatDoor.Ab

/-! ### building -/
section
variable {T : Tab} {P : Program} (hT : TabOk T P)

theorem foldl_puts : ∀ (l : List Value) (off k : Nat) (cs : Array Value), (l.zipIdx k).foldl (fun cs (c, j) => cs.setIfInBounds (off + j) c) cs = puts cs (off + k) l
  | [], off, k, cs => rfl
  | v :: l, off, k, cs => by
    rw [List.zipIdx_cons, List.foldl_cons, foldl_puts l, puts]
    rfl
theorem foldl_puts' (cells : Array Value) (off : Nat) (cs : Array Value) : cells.zipIdx.foldl (fun cs (c, j) => cs.setIfInBounds (off + j) c) cs = puts cs off cells.toList := by
  rw [← Array.foldl_toList, Array.toList_zipIdx, foldl_puts]
  rfl

/-- cells that stand side by side, all flat -/
structure RelC (E : Env) (c : List AV) (cs : Array Value) : Prop where
  rel : RelL E c cs
  flat : ∀ i, i < cs.size → (gd cs i).oneCell' = true

theorem fill_ok {E : Env} {place : Nat → Option (Nat × Nat)} : ∀ {ps : List (Nat × AV)} {vs : List (Nat × Value)} {c r : List AV} {cs : Array Value}, fillA place c ps = some r → RelC E c cs →
    ps.length = vs.length → (∀ (k : Nat) (p : Nat × AV) (q : Nat × Value), ps[k]? = some p → vs[k]? = some q → p.1 = q.1 ∧ Rel E p.2 q.2) → ∃ rs, Instr.fill place cs vs = some rs ∧ RelC E r rs
  | [], [], c, r, cs, h, hc, _, _ => by cases h; exact ⟨cs, rfl, hc⟩
  | [], _ :: _, _, _, _, _, _, hl, _ => by simp at hl
  | _ :: _, [], _, _, _, _, _, hl, _ => by simp at hl
  | (i, a) :: ps, (i', v) :: vs, c, r, cs, h, hc, hl, hr => by
    obtain ⟨e, ha⟩ := hr 0 _ _ rfl rfl
    simp only at e ha
    subst e
    rw [fillA] at h
    rw [Instr.fill]
    cases hp : place i with
    | none => rw [hp] at h; cases h
    | some q =>
      obtain ⟨off, sz⟩ := q
      rw [hp] at h
      simp only at h ⊢
      cases hb : Nat.beq a.cells.length sz && Nat.ble (off + sz) c.length && a.cells.all AV.flat with
      | false => rw [hb] at h; cases h
      | true =>
        rw [hb] at h
        simp only [cond_true] at h
        rw [Bool.and_eq_true, Bool.and_eq_true, nbeq_iff, nble_iff] at hb
        obtain ⟨⟨hlen, hle⟩, hfl⟩ := hb
        obtain ⟨hRL, hcf⟩ := ha.cells hfl
        have hvs : v.cells.size = sz := by rw [← hRL.len, hlen]
        have hcs := hc.rel.len
        have hcond : ¬ ((decide (v.cells.size ≠ sz) || decide (off + v.cells.size > cs.size)) = true) := by
          simp [hvs]; omega
        rw [if_neg hcond, foldl_puts']
        obtain ⟨r1, r2⟩ := rel_wr (E := E) (c := c) (d := a.cells) (cs := cs) (ds := v.cells.toList) (off := off) (o := 0) (by rw [hlen]; exact hle) (by rw [hlen]; simp [hvs]) (by rw [hcs]; omega)
          (fun i x hi => by rw [Nat.zero_add]; exact hc.rel.at_ i x hi) (fun i hi => by rw [Nat.zero_add]; exact hc.flat i (by omega)) (fun i x hi => by rw [gd_toList]; exact hRL.at_ i x hi) (fun i hi => by rw [gd_toList]; exact hcf i (by rw [← hRL.len]; exact hi))
        simp only [Nat.zero_add] at r1 r2
        refine fill_ok h ⟨⟨by rw [wr_length, puts_size]; exact hcs, r1⟩, fun i hi => r2 i (by rw [wr_length, hcs]; rwa [puts_size] at hi)⟩ (by simpa using hl) (fun k p q hp hq => hr (k + 1) p q (by simpa using hp) (by simpa using hq))

theorem rel_evalPs {E : Env} {ev : Operand → Option AV} {ρ : Operand → Value} (h : EvRel E ev ρ) : ∀ {l : List (Nat × Operand)} {ps : List (Nat × AV)}, evalPs ev l = some ps →
    ps.length = (l.map fun p => (p.1, ρ p.2)).length ∧ ∀ (k : Nat) (p : Nat × AV) (q : Nat × Value), ps[k]? = some p → (l.map fun p => (p.1, ρ p.2))[k]? = some q → p.1 = q.1 ∧ Rel E p.2 q.2
  | [], ps, hp => by cases hp; simp
  | (i, x) :: l, ps, hp => by
    rw [evalPs] at hp
    cases h1 : ev x with
    | none => rw [h1] at hp; cases hp
    | some a =>
      cases h2 : evalPs ev l with
      | none => rw [h1, h2] at hp; cases hp
      | some r =>
        rw [h1, h2] at hp; cases hp
        obtain ⟨hl, hr⟩ := rel_evalPs h h2
        refine ⟨by simpa using hl, ?_⟩
        intro k p q hp hq
        cases k with
        | zero => simp at hp hq; subst hp; subst hq; exact ⟨rfl, h x a h1⟩
        | succ k => exact hr k p q (by simpa using hp) (by simpa using hq)

include hT in
theorem run_places {t : TypeId} {fs : Array Field} {w : World} (hu : T.und t = some (.struct fs)) :
    ∃ pl, (fs.mapM (fun f => do pure (f.offset, ← sizeOf f.type) : Field → Sem (Nat × Nat))).run P w = .ok pl w ∧ ∀ i : Nat, pl[i]? = (fs[i]?).bind fun f => (T.size f.type).map fun n => (f.offset, n) := by
  have key : ∀ l : List Field, (∀ f, f ∈ l → ∃ n, T.size f.type = some n) → ∃ pl, (l.mapM (fun f => do pure (f.offset, ← sizeOf f.type) : Field → Sem (Nat × Nat))).run P w = .ok pl w ∧ ∀ i : Nat, pl[i]? = (l[i]?).bind fun f => (T.size f.type).map fun n => (f.offset, n) := by
    intro l
    induction l with
    | nil => intro _; exact ⟨[], by simp, by simp⟩
    | cons f l ih =>
      intro hl
      obtain ⟨pl, h1, h2⟩ := ih (fun g hg => hl g (by simp [hg]))
      obtain ⟨n, hn⟩ := hl f (by simp)
      refine ⟨(f.offset, n) :: pl, ?_, ?_⟩
      · rw [List.mapM_cons]
        simp only [Sem.run_bind, run_size hT hn, Result.andThen_ok, Sem.run_pure, h1]
      · intro i
        cases i with
        | zero => simp [hn]
        | succ i => simpa using h2 i
  obtain ⟨pl, h1, h2⟩ := key fs.toList (hT.flds t fs hu)
  refine ⟨pl.toArray, ?_, ?_⟩
  · rw [Array.mapM_eq_mapM_toList]
    simp only [Sem.run_map, h1, Result.andThen_ok]
  · intro i
    have := h2 i
    simpa using this

include hT in
theorem buildA_ok {E : Env} {t : TypeId} {ps : List (Nat × AV)} {vs : Array (Nat × Value)} {r : AV} {w : World} (h : buildA T t ps = some r) (hl : ps.length = vs.toList.length)
    (hr : ∀ (k : Nat) (p : Nat × AV) (q : Nat × Value), ps[k]? = some p → vs.toList[k]? = some q → p.1 = q.1 ∧ Rel E p.2 q.2) : ∃ v, (Instr.build t vs).run P w = .ok v w ∧ Rel E r v := by
  unfold buildA at h
  split at h
  · rename_i fs z hu hz
    unfold Tab.zeroA at hz
    cases hzt : T.zero t with
    | none => rw [hzt] at hz; cases hz
    | some zv =>
      rw [hzt] at hz
      have hrz := rel_ofV (E := E) hz
      have hrun := run_zero hT (w := w) hzt
      obtain ⟨pl, hpl, hpi⟩ := run_places hT (w := w) hu
      cases hrz with
      | @agg _ _ zc h1 h2 h3 =>
        split at h
        · rename_i c hc
          cases h
          have heq : placeS T fs = (pl[·]?) := by
            funext i
            rw [hpi i]
            unfold placeS
            simp only [Array.getElem?_toList]
            cases fs[i]? <;> rfl
          rw [heq] at hc
          obtain ⟨rs, hf, hrc⟩ := fill_ok (E := E) (vs := vs.toList) hc ⟨⟨h1, h3⟩, fun i hi => h2 i (by omega)⟩ hl hr
          refine ⟨.agg rs, ?_, .agg hrc.rel.len (fun i hi => hrc.flat i (by rw [← hrc.rel.len]; exact hi)) hrc.rel.at_⟩
          unfold Instr.build
          simp only [Sem.run_bind, hrun, Result.andThen_ok, run_und hT hu, hpl, Value.cells, hf, Sem.run_pure]
        · cases h
  · rename_i n e z hu hz
    unfold Tab.zeroA at hz
    cases hzt : T.zero t with
    | none => rw [hzt] at hz; cases hz
    | some zv =>
      rw [hzt] at hz
      have hrz := rel_ofV (E := E) hz
      have hrun := run_zero hT (w := w) hzt
      cases hrz with
      | @agg _ _ zc h1 h2 h3 =>
        cases hsz : T.size e with
        | none => rw [hsz] at h; cases h
        | some sz =>
          rw [hsz] at h
          simp only at h
          split at h
          · rename_i c hc
            cases h
            obtain ⟨rs, hf, hrc⟩ := fill_ok (E := E) (vs := vs.toList) hc ⟨⟨h1, h3⟩, fun i hi => h2 i (by omega)⟩ hl hr
            refine ⟨.agg rs, ?_, .agg hrc.rel.len (fun i hi => hrc.flat i (by rw [← hrc.rel.len]; exact hi)) hrc.rel.at_⟩
            unfold Instr.build
            simp only [Sem.run_bind, hrun, Result.andThen_ok, run_und hT hu, run_size hT hsz, Value.cells, hf, Sem.run_pure]
          · cases h
  · cases h

/-! zeroes again and again -/
theorem reps_length (z : List AV) : ∀ n, (reps z n).length = n * z.length
  | 0 => by simp [reps]
  | n + 1 => by rw [reps, List.length_append, reps_length z n, Nat.succ_mul, Nat.add_comm]
theorem reps_get (z : List AV) : ∀ n i : Nat, i < n * z.length → (reps z n)[i]? = z[i % z.length]?
  | 0, i, h => by simp at h
  | n + 1, i, h => by
    rw [reps]
    rcases Nat.lt_or_ge i z.length with hi | hi
    · rw [List.getElem?_append_left hi, Nat.mod_eq_of_lt hi]
    · rw [List.getElem?_append_right hi, reps_get z n _ (by rw [Nat.succ_mul] at h; omega), Nat.mod_eq_sub_mod hi]

theorem relC_reps {E : Env} {z : List AV} {zc : Array Value} {n k : Nat} (h : RelC E z zc) (hk : k = n * z.length) :
    RelC E (reps z n) ((Array.range k).map (zc[· % zc.size]!)) := by
  subst hk
  have hlen := h.rel.len
  have hg : ∀ i, i < n * z.length → gd ((Array.range (n * z.length)).map (zc[· % zc.size]!)) i = gd zc (i % z.length) := by
    intro i hi
    have hpos : 0 < z.length := by
      rcases Nat.eq_zero_or_pos z.length with h0 | h0
      · rw [h0] at hi; simp at hi
      · exact h0
    have hm : i % z.length < zc.size := by rw [← hlen]; exact Nat.mod_lt _ hpos
    apply gd_of
    simp only [Array.getElem?_map, Array.getElem?_range, hi, if_true, Option.map_some, Option.some.injEq]
    rw [← hlen, getElem!_pos zc _ (by simpa [hlen] using hm)]
    have := gd_lt hm
    rw [Array.getElem?_eq_getElem hm] at this
    exact Option.some.inj this
  refine ⟨⟨by simp [reps_length], ?_⟩, ?_⟩
  · intro i a hi
    have hlt : i < n * z.length := by
      rcases Nat.lt_or_ge i (n * z.length) with h' | h'
      · exact h'
      · rw [List.getElem?_eq_none (by rw [reps_length]; exact h')] at hi; cases hi
    rw [hg i hlt]
    rw [reps_get z n i hlt] at hi
    exact h.rel.at_ _ a hi
  · intro i hi
    simp only [Array.size_map, Array.size_range] at hi
    rw [hg i hi]
    have hpos : 0 < z.length := by
      rcases Nat.eq_zero_or_pos z.length with h0 | h0
      · rw [h0] at hi; simp at hi
      · exact h0
    exact h.flat _ (by rw [← hlen]; exact Nat.mod_lt _ hpos)

theorem chunk_length (n : Nat) : ∀ k l, (chunk n k l).length = k
  | 0, l => rfl
  | k + 1, l => by rw [chunk, List.length_cons, chunk_length n k]
theorem chunk_get (n : Nat) : ∀ (k : Nat) (l : List AV) (i : Nat) (row : List AV), (chunk n k l)[i]? = some row → row = (l.drop (i * n)).take n
  | 0, l, i, row, h => by simp [chunk] at h
  | k + 1, l, 0, row, h => by simp [chunk] at h; simp [h]
  | k + 1, l, i + 1, row, h => by
    rw [chunk, List.getElem?_cons_succ] at h
    rw [chunk_get n k _ i row h, List.drop_drop, Nat.succ_mul, Nat.add_comm]

/-- rows that lie in an immutable block -/
theorem rel_chunk {E : Env} {c : List AV} {cs : Array Value} {b sz len cap : Nat} {te : TypeId} {tight : Bool} (hH : E.H b = some (cs, te)) (hl : c.length = len * sz) (hle : c.length ≤ cs.size) (hcap : len ≤ cap) (ht : tight = true → cap = len)
    (hr : ∀ (i : Nat) (a : AV), c[i]? = some a → Rel (Env.pure E.H) a (gd cs i)) (hf : ∀ i, i < c.length → (gd cs i).oneCell' = true) :
    Rel E (.slist (chunk sz len c) tight) (.slice (some ⟨b, 0, none⟩) len cap) := by
  have hcl := chunk_length sz len c
  have := Rel.slist (E := E) (rows := chunk sz len c) (tight := tight) (b := b) (o := 0) (sz := sz) (cap := cap) (c := cs) (te := te) hH (by rw [hcl]; exact hcap) (fun h => by rw [hcl]; exact ht h) ?_ (by rw [hcl]; omega) ?_ ?_
  · rwa [hcl] at this
  · intro row hrow
    obtain ⟨i, hi, e⟩ := List.getElem_of_mem hrow
    rw [hcl] at hi
    have := chunk_get sz len c i row (by rw [List.getElem?_eq_getElem (by rw [hcl]; exact hi), e])
    rw [this, List.length_take, List.length_drop, hl]
    have : (i + 1) * sz ≤ len * sz := Nat.mul_le_mul_right sz (by omega)
    rw [Nat.succ_mul] at this
    omega
  · intro i j hi hj
    rw [hcl] at hi
    have : (i + 1) * sz ≤ len * sz := Nat.mul_le_mul_right sz (by omega)
    rw [Nat.succ_mul] at this
    rw [Nat.zero_add]
    exact hf _ (by omega)
  · intro i row j a hi hj
    have hrow := chunk_get sz len c i row hi
    subst hrow
    have hjs : j < sz := by
      rcases Nat.lt_or_ge j sz with h' | h'
      · exact h'
      · rw [List.getElem?_take, if_neg (by omega)] at hj; cases hj
    rw [List.getElem?_take, if_pos hjs, List.getElem?_drop] at hj
    rw [Nat.zero_add]
    exact hr _ a hj

/-- one more immutable block -/
def Env.fix (E : Env) (b : Nat) (c : Array Value) (t : TypeId) : Env := ⟨fun k => if k = b then some (c, t) else E.H k, E.at_, E.next, E.lt⟩
theorem Env.le_fix {E : Env} {b : Nat} {c : Array Value} {t : TypeId} (h : E.H b = none) : E.le (E.fix b c t) :=
  ⟨fun k x hk => by show (if _ then _ else _) = _; rw [if_neg (fun e => by rw [e, h] at hk; cases hk)]; exact hk, Nat.le_refl _, fun _ _ h => h, fun _ _ _ _ h => .inr (.inl h)⟩

/-- a new block that nobody writes -/
theorem Sim.fix_new {K W E σ w} (S : Sim T K W E σ w) {c : Array Value} {t : TypeId} {fz : Nat × Nat} : Sim T K W (E.fix w.heap.size c t) σ (w.alloc (.cells c t fz)) ∧ E.le (E.fix w.heap.size c t) := by
  have hf := S.fresh
  have hl := Env.le_fix (c := c) (t := t) hf
  refine ⟨⟨S.os, S.tape, S.output, by have := S.size; simp; omega, ?_, S.kin, ?_, S.next, S.live, ?_, S.inj, fun g row h => (S.glob g row h).mono hl, ?_⟩, hl⟩
  · intro b hb
    rw [heap_push (Nat.lt_of_lt_of_le (S.kin b hb) S.size)]; exact S.keep b hb
  · intro k c' t' hk
    simp only [Env.fix] at hk
    by_cases e : k = w.heap.size
    · rw [if_pos e] at hk; cases hk
      exact ⟨fz, by rw [e]; exact heap_self⟩
    · rw [if_neg e] at hk
      exact S.inn.alloc k c' t' hk
  · intro s B hB
    obtain ⟨b, cap, g, ha, hK, hb⟩ := S.blk s B hB
    refine ⟨b, cap, g, ha, hK, hb.carry hl (heap_push hb.lt) ?_⟩
    intro hn
    show (if _ then _ else _) = _
    rw [if_neg (by have := hb.lt; omega)]; exact hn
  · intro b hb hd
    show (if _ then _ else _) = _
    rw [if_neg (by have := S.kin b hb; have := S.size; omega)]; exact S.off b hb hd
end
end Go.Proofs.YtgklmecijeadlaaGreatDoor.Ab
