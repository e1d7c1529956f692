import Derived.Test.YtgklmecijeadlaaGreatDoorA25
set_option linter.unusedSimpArgs false
set_option linter.unusedVariables false
set_option linter.unusedSectionVars false
namespace Go.Proofs.YtgklmecijeadlaaGreatDoor.Ab

theorem stepA_indep {T : Tab} {C : Hand} {ev : Operand → Option AV} {o : Oper} (h : indep o = true) (σ τ : St) : stepA T C ev o σ = stepA T C ev o τ := by
  obtain ⟨dst, op, type, pos, after, guard⟩ := o
  cases op <;> simp only [indep, Bool.false_eq_true] at h <;> rfl

theorem stepOp_indep {T : Tab} {C : Hand} {L : List Oper} {a : AA} {o : Oper} (h : indep o = true) (σ τ : St) : stepOp T C L o a σ = stepOp T C L o a τ := by
  unfold stepOp
  rw [stepA_indep h σ τ]

def lastI : Option Nat → List Rec → Option Nat
  | c, [] => c
  | _, l :: ls => lastI (some l.i) ls

theorem lastI_mem : ∀ {pre : List Rec} {c : Option Nat} {k : Nat}, lastI c pre = some k → c = some k ∨ ∃ l ∈ pre, l.i = k
  | [], c, k, h => .inl h
  | l :: ls, c, k, h => by
    rcases lastI_mem (pre := ls) h with h | ⟨q, hq, e⟩
    · cases h; exact .inr ⟨l, List.mem_cons_self .., rfl⟩
    · exact .inr ⟨q, List.mem_cons_of_mem _ hq, e⟩

theorem stateOk_at {T : Tab} {C : Hand} {L : List Oper} {b : List Nat} {r : Rec} : ∀ (pre : List Rec) (c : Option Nat) (σ : St) (rest : List Rec), stateOk T C L b r c σ (pre ++ rest) = true →
    (∃ k, lastI c pre = some k ∧ bit b k r.i = true) ∨ (∃ x xs, rest = x :: xs ∧ bit b r.i x.i = true) ∨ sameIn T C L r (stAfter σ pre) = true
  | [], c, σ, rest, h => by
    simp only [List.nil_append] at h
    rw [stateOk.eq_def] at h
    simp only [Bool.and_eq_true, Bool.or_eq_true] at h
    rcases h.1 with (h1 | h1) | h1
    · cases c with
      | none => cases h1
      | some k => exact .inl ⟨k, rfl, h1⟩
    · cases rest with
      | nil => cases h1
      | cons x xs => exact .inr (.inl ⟨x, xs, rfl, h1⟩)
    · exact .inr (.inr h1)
  | l :: pre, c, σ, rest, h => by
    simp only [List.cons_append, stateOk, Bool.and_eq_true] at h
    exact stateOk_at pre (some l.i) (l.s.getD σ) rest h.2

theorem unord_mem {b : List Nat} : ∀ (pre : List Rec) {x y : Rec} {rest : List Rec}, y ∈ rest → bit b y.i x.i = false → isAlloc y.o = false → (x, y) ∈ unord b (pre ++ x :: rest)
  | [], x, y, rest, hy, h1, h2 => by
    simp only [List.nil_append, unord]
    refine List.mem_append.2 (.inl (List.mem_map.2 ⟨y, List.mem_filter.2 ⟨hy, by simp [h1, h2]⟩, rfl⟩))
  | p :: pre, x, y, rest, hy, h1, h2 => by
    simp only [List.cons_append, unord]
    exact List.mem_append.2 (.inr (unord_mem pre hy h1 h2))

theorem sameIn_ok {T : Tab} {C : Hand} {L : List Oper} {r : Rec} {σ : St} (h : sameIn T C L r σ = true) : ∃ a', stepOp T C L r.o r.a σ = some (.norm, a', none) ∧ r.val = valAt r.o a' := by
  unfold sameIn at h
  split at h
  · rename_i a' hs; exact ⟨a', hs, same_eq _ _ h⟩
  · cases h

/-- where a run stands -/
inductive Mode (T : Tab) (C : Hand) (L : List Oper) (σ0 : St) (recs : List Rec) (D : Nat → Prop) : List Rec → St → Prop
  | norm {pre rest : List Rec} : recs.filter (·.s.isSome) = pre ++ rest → (∀ l ∈ pre, D l.i) → (∀ x xs, rest = x :: xs → ¬ D x.i) → Mode T C L σ0 recs D rest (stAfter σ0 pre)
  | swap {pre rest : List Rec} {x y : Rec} {a1 : AA} {s1 : St} : recs.filter (·.s.isSome) = pre ++ x :: y :: rest → (∀ l ∈ pre, D l.i) → ¬ D x.i → D y.i → unord (befores L []) (recs.filter (·.s.isSome)) = [(x, y)] →
      swapOk T C L (befores L []) recs x y = true → stepOp T C L y.o y.a x.b = some (.norm, a1, some s1) → Mode T C L σ0 recs D rest s1

structure PendAt (T : Tab) (K : Nat → Prop) (W : World) (E : Env) (a0 : AA) (A : Act) (w : World) (z : Rec) (bl : Nat) : Prop where
  f : Foreign K W E w bl
  cell : ∃ t v, z.o.op = .alloc t ∧ T.zero t = some v ∧ w.heap[bl]? = some (.cells v.cells t (0, 0))
  slot : ∀ d, z.o.dst = some d → d < a0.tmps.length → gd A.tmps d = .pointer (some ⟨bl, 0, none⟩)

structure Pend (T : Tab) (K : Nat → Prop) (W : World) (E : Env) (a0 : AA) (D : Nat → Prop) (pb : Nat → Option Nat) (A : Act) (w : World) (rest : List Rec) : Prop where
  done : ∀ z ∈ rest, D z.i → isAlloc z.o = true ∧ pb z.i ≠ none
  at_ : ∀ j bl, pb j = some bl → ∃ z ∈ rest, z.i = j ∧ D j ∧ PendAt T K W E a0 A w z bl
  inj : ∀ j k bl, pb j = some bl → pb k = some bl → j = k

section
variable {T : Tab} {C : Hand} {L : List Oper} {a0 : AA} {σ0 : St} {recs : List Rec} (X : Told T C L a0 σ0 recs)
include X

theorem Told.loud_mem {pre rest : List Rec} (h : recs.filter (·.s.isSome) = pre ++ rest) {l : Rec} (hl : l ∈ pre ∨ l ∈ rest) : l ∈ recs ∧ l.s.isSome = true := by
  have : l ∈ recs.filter (·.s.isSome) := by rw [h]; exact List.mem_append.2 hl
  simpa using this

theorem Told.loud_lt {pre rest : List Rec} {x : Rec} (h : recs.filter (·.s.isSome) = pre ++ x :: rest) {z : Rec} (hz : z ∈ rest) : x.i < z.i := by
  have := X.sorted.filter (·.s.isSome)
  rw [h, List.pairwise_append] at this
  exact (List.pairwise_cons.1 this.2.1).1 z hz

theorem Told.loud_st {pre rest : List Rec} {x : Rec} (h : recs.filter (·.s.isSome) = pre ++ x :: rest) : x.b = stAfter σ0 pre := by
  obtain ⟨p1, p2, h1, h2, h3⟩ := List.filter_eq_append_iff.1 h
  obtain ⟨q1, q2, h4, h5, h6, h7⟩ := List.filter_eq_cons_iff.1 h3
  have : x.b = stAfter σ0 (p1 ++ q1) := X.st (p1 ++ q1) x q2 (by rw [h1, h4]; simp)
  rw [this, ← stAfter_filter, List.filter_append, h2]
  have : q1.filter (·.s.isSome) = [] := by
    rw [List.filter_eq_nil_iff]; exact h5
  rw [this, List.append_nil]

/-- no pending variable is seen -/
theorem pend_unseen {D : Nat → Prop} {pb : Nat → Option Nat} {rest : List Rec} {τ : St} {K : Nat → Prop} {W : World} {E : Env} {A : Act} {w : World} (M : Mode T C L σ0 recs D rest τ) (N : Pend T K W E a0 D pb A w rest) (hD : Closed L D) {i : Nat} {o : Oper} (hi : L[i]? = some o)
    (hr : ∀ e ∈ o.after.toList, Region.binds .any e = true → D e.on) (hall : i < recs.length ∨ ∀ x ∈ recs, x.s.isSome = true → bit (befores L []) i x.i = true) (j : Nat) (hj : pb j ≠ none) (hb : bit (befores L []) i j = true) : False := by
  cases hp : pb j with
  | none => exact hj hp
  | some bl =>
    obtain ⟨z, hz, rfl, hDz, _⟩ := N.at_ j bl hp
    have key : ∀ x, x ∈ recs → x.s.isSome = true → z ∈ recs → z.s.isSome = true → x.i < z.i → D x.i := by
      intro x hx hxs hzr hzs hlt
      refine closed_bit hD X.edges i hi hr ?_
      rcases hall with h | h
      · obtain ⟨r, hr', rfl⟩ := X.all i h
        exact X.alloc z hzr hzs (N.done z hz hDz).1 r hr' hb x hx hxs hlt
      · exact h x hx hxs
    cases M with
    | @norm pre rest h1 h2 h3 =>
      cases rest with
      | nil => cases hz
      | cons x xs =>
        have hx := X.loud_mem h1 (.inr (List.mem_cons_self ..))
        have hzm := X.loud_mem h1 (.inr hz)
        rcases List.mem_cons.1 hz with rfl | hz'
        · exact h3 z xs rfl hDz
        · exact h3 x xs rfl (key x hx.1 hx.2 hzm.1 hzm.2 (X.loud_lt h1 hz'))
    | @swap pre rest x y a1 s1 h1 h2 h3 h4 h5 h6 h7 =>
      have hx := X.loud_mem h1 (.inr (List.mem_cons_self ..))
      have hzm := X.loud_mem h1 (.inr (List.mem_cons_of_mem _ (List.mem_cons_of_mem _ hz)))
      exact h3 (key x hx.1 hx.2 hzm.1 hzm.2 (X.loud_lt h1 (List.mem_cons_of_mem _ hz)))

/-- a silent operation gives what was told -/
theorem silent_run {D : Nat → Prop} {rest : List Rec} {τ : St} (M : Mode T C L σ0 recs D rest τ) (hD : Closed L D) {r : Rec} (hrm : r ∈ recs) (hs : r.s = none) (hn : ¬ D r.i)
    (hr : ∀ e ∈ r.o.after.toList, Region.binds .any e = true → D e.on) : ∃ a', stepOp T C L r.o r.a τ = some (.norm, a', none) ∧ r.val = valAt r.o a' := by
  have ind : indep r.o = true → ∃ a', stepOp T C L r.o r.a τ = some (.norm, a', none) ∧ r.val = valAt r.o a' := by
    intro h
    refine ⟨r.r, ?_, rfl⟩
    rw [stepOp_indep h τ r.b, X.run r hrm, hs]
  rcases X.quiet r hrm with h | h | h
  · rw [hs] at h; cases h
  · exact ind h
  · cases M with
    | @norm pre rest h1 h2 h3 =>
      rw [h1] at h
      rcases stateOk_at pre none σ0 rest h with ⟨k, hk, hb⟩ | ⟨x, xs, rfl, hb⟩ | h
      · rcases lastI_mem hk with h | ⟨l, hl, rfl⟩
        · cases h
        · have hlm := X.loud_mem h1 (.inl hl)
          exact absurd (closed_bit hD X.edges l.i (X.at_ l hlm.1) (hD _ _ (X.at_ l hlm.1) (h2 l hl)) hb) hn
      · exact absurd (closed_bit hD X.edges r.i (X.at_ r hrm) hr hb) (h3 x xs rfl)
      · exact sameIn_ok h
    | @swap pre rest x y a1 s1 h1 h2 h3 h4 h5 h6 h7 =>
      have hym := X.loud_mem h1 (.inr (List.mem_cons_of_mem _ (List.mem_cons_self ..)))
      unfold swapOk at h6
      rw [h7] at h6
      split at h6
      · rename_i b1 t1 t2 he hys
        cases he
        simp only [Bool.and_eq_true, List.all_eq_true] at h6
        have := h6.2 r hrm
        simp only [hs, Option.isSome_none, Bool.false_or, Bool.or_eq_true] at this
        rcases this with ((h | h) | h) | h
        · exact ind h
        · exact absurd (closed_bit hD X.edges r.i (X.at_ r hrm) hr h) h3
        · exact absurd (closed_bit hD X.edges y.i (X.at_ y hym.1) (hD _ _ (X.at_ y hym.1) h4) h) hn
        · exact sameIn_ok h
      · cases h6
end
end Go.Proofs.YtgklmecijeadlaaGreatDoor.Ab
