import Derived.Test.YtgklmecijeadlaaGreatDoorA24
set_option linter.unusedSimpArgs false
set_option linter.unusedVariables false
set_option linter.unusedSectionVars false
namespace Go.Proofs.YtgklmecijeadlaaGreatDoor.Ab

/-! ### what the check of a drawn region says -/
structure Told (T : Tab) (C : Hand) (L : List Oper) (a0 : AA) (σ0 : St) (recs : List Rec) : Prop where
  edges : Edges L
  guards : ∀ (j : Nat) (o : Oper) (g : Nat) (want : Bool), L[j]? = some o → o.guard = some (g, want) → g < j
  dst : ∀ (i j : Nat) (o p : Oper) (d : Nat), L[i]? = some o → L[j]? = some p → i ≠ j → o.dst = some d → p.dst ≠ some d
  read : ∀ (i j : Nat) (o p : Oper) (d : Nat), L[i]? = some o → L[j]? = some p → i ≠ j → o.dst = some d → (d ∈ Op.uses p ∨ ∃ want, p.guard = some (i, want)) → bit (befores L []) j i = true ∨ bit (befores L []) i j = true
  nodef : ∀ o ∈ L, isDefer o = false
  sorted : recs.Pairwise (fun p q => p.i < q.i)
  at_ : ∀ r ∈ recs, L[r.i]? = some r.o
  lt : ∀ r ∈ recs, r.i < recs.length
  all : ∀ j, j < recs.length → ∃ r ∈ recs, r.i = j
  one : ∀ r ∈ recs, ∀ q ∈ recs, r.i = q.i → r = q
  run : ∀ r ∈ recs, stepOp T C L r.o r.a r.b = some (.norm, r.r, r.s)
  fin : ∀ r ∈ recs, Final a0 r.a (recs.filter (fun q => decide (q.i < r.i)))
  st : ∀ pre r post, recs = pre ++ r :: post → r.b = stAfter σ0 pre
  alloc : ∀ y ∈ recs, y.s.isSome = true → isAlloc y.o = true → ∀ r ∈ recs, bit (befores L []) r.i y.i = true → ∀ x ∈ recs, x.s.isSome = true → x.i < y.i → bit (befores L []) r.i x.i = true
  quiet : ∀ r ∈ recs, r.s.isSome = true ∨ indep r.o = true ∨ stateOk T C L (befores L []) r none σ0 (recs.filter (·.s.isSome)) = true
  unord : unord (befores L []) (recs.filter (·.s.isSome)) = [] ∨ ∃ x y, unord (befores L []) (recs.filter (·.s.isSome)) = [(x, y)] ∧ swapOk T C L (befores L []) recs x y = true

theorem bit_lt {L : List Oper} (hE : Edges L) : ∀ (j : Nat) {o : Oper}, L[j]? = some o → ∀ {i : Nat}, bit (befores L []) j i = true → i < j := by
  intro j
  induction j using Nat.strongRecOn with
  | _ j ih =>
    intro o ho i hb
    obtain ⟨e, hm, hbd, h⟩ := bit_edge ho (hE j o ho) hb
    have hlt := hE j o ho e hm hbd
    rcases h with rfl | h
    · exact hlt
    · have hlen : e.on < L.length := by
        rcases Nat.lt_or_ge j L.length with h' | h'
        · omega
        · rw [List.getElem?_eq_none h'] at ho; cases ho
      have := ih e.on hlt (List.getElem?_eq_getElem hlen) h
      omega

theorem wanted_ok' {ops : Array Oper} {tmps : List AV} {vs : Array Value} {o : Oper} {b : Bool} {E : Env}
    (h : ∀ g want p d, o.guard = some (g, want) → ops[g]? = some p → p.dst = some d → ∀ a, tmps[d]? = some a → ∃ v, vs[d]? = some v ∧ Rel E a v) (hw : wantedA ops.toList tmps o = some b) : Region.wanted o (yielded ops vs) = b := by
  unfold wantedA at hw
  unfold Region.wanted
  split at hw
  · rename_i hg; cases hw; rw [hg]
  · rename_i j want hg
    rw [hg]
    simp only
    unfold yielded
    rw [Array.getElem?_toList] at hw
    cases hp : ops[j]? with
    | none => rw [hp] at hw; cases hw; rfl
    | some p =>
      rw [hp] at hw
      simp only [Option.bind_some] at hw ⊢
      cases hd : p.dst with
      | none => rw [hd] at hw; cases hw; rfl
      | some d =>
        rw [hd] at hw
        simp only [Option.bind_some] at hw ⊢
        split at hw
        · rename_i b' ha
          cases hw
          obtain ⟨v, hv, hr⟩ := h j want p d hg hp hd _ ha
          cases hr
          rw [hv]
          cases b' <;> cases want <;> rfl
        · rename_i ha
          cases hw
          obtain ⟨v, hv, hr⟩ := h j want p d hg hp hd _ ha
          cases hr
          rw [hv]
          rfl
        · cases hw

/-- the frame, where some operations are done -/
structure FrOk (E : Env) (a0 : AA) (recs : List Rec) (D : Nat → Prop) (pb : Nat → Option Nat) (A : Act) : Prop where
  size : A.tmps.size = a0.tmps.length
  defers : DefsRel E a0.defers A.defers
  keep : ∀ t a, a0.tmps[t]? = some a → (∀ r ∈ recs, r.o.dst = some t → ¬ D r.i) → Rel E a (gd A.tmps t)
  set : ∀ r ∈ recs, ∀ t, r.o.dst = some t → D r.i → pb r.i = none → t < a0.tmps.length → Rel E r.val (gd A.tmps t)

theorem FrOk.mono {E E' : Env} {a0 : AA} {recs : List Rec} {D : Nat → Prop} {pb : Nat → Option Nat} {A : Act} (h : FrOk E a0 recs D pb A) (hl : E.le E') : FrOk E' a0 recs D pb A :=
  ⟨h.size, h.defers.mono hl, fun t a ha hr => (h.keep t a ha hr).mono hl, fun r hr t ht hd hp hlt => (h.set r hr t ht hd hp hlt).mono hl⟩

theorem gd_put_ne {A : Act} {d : Option Nat} {vv : Value} {t : Nat} (h : d ≠ some t) : gd (A.put d vv).tmps t = gd A.tmps t := by
  cases d with
  | none => rfl
  | some d =>
    have hne : d ≠ t := fun e => h (by rw [e])
    simp only [Act.put, gd]
    rw [Array.getD_eq_getD_getElem?, Array.getD_eq_getD_getElem?, Array.getElem?_setIfInBounds_ne hne]
theorem gd_put_eq {A : Act} {t : Nat} {vv : Value} (h : t < A.tmps.size) : gd (A.put (some t) vv).tmps t = vv := by
  simp only [Act.put]
  exact gd_of (Array.getElem?_setIfInBounds_self_of_lt h)
theorem put_size {A : Act} {d : Option Nat} {vv : Value} : (A.put d vv).tmps.size = A.tmps.size := by cases d <;> simp [Act.put]
theorem put_defs {A : Act} {d : Option Nat} {vv : Value} : (A.put d vv).defers = A.defers := by cases d <;> rfl

section
variable {T : Tab} {C : Hand} {L : List Oper} {a0 : AA} {σ0 : St} {recs : List Rec} (X : Told T C L a0 σ0 recs)
include X

theorem Told.dst1 {r q : Rec} (hr : r ∈ recs) (hq : q ∈ recs) {t : Nat} (h1 : r.o.dst = some t) (h2 : q.o.dst = some t) : r = q := by
  by_cases h : r.i = q.i
  · exact X.one r hr q hq h
  · exact absurd h2 (X.dst r.i q.i r.o q.o t (X.at_ r hr) (X.at_ q hq) h h1)

theorem FrOk.step {E E' : Env} {D : Nat → Prop} {pb : Nat → Option Nat} {A : Act} (F : FrOk E a0 recs D pb A) (hl : E.le E') {r : Rec} (hr : r ∈ recs) {vv : Value} (hv : Rel E' r.val vv) :
    FrOk E' a0 recs (fun j => D j ∨ j = r.i) pb (A.put r.o.dst vv) := by
  refine ⟨by rw [put_size]; exact F.size, by rw [put_defs]; exact F.defers.mono hl, ?_, ?_⟩
  · intro t a ha h
    rw [gd_put_ne (fun e => h r hr e (.inr rfl))]
    exact (F.keep t a ha (fun q hq hqt hd => h q hq hqt (.inl hd))).mono hl
  · intro q hq t ht hd hp hlt
    by_cases he : q = r
    · subst he
      rw [ht, gd_put_eq (by rw [F.size]; exact hlt)]
      exact hv
    · rw [gd_put_ne (fun e => he (X.dst1 hq hr ht e))]
      refine (F.set q hq t ht (hd.resolve_right (fun e => he (X.one q hq r hr e))) hp hlt).mono hl

theorem FrOk.stepP {E E' : Env} {D : Nat → Prop} {pb : Nat → Option Nat} {A : Act} (F : FrOk E a0 recs D pb A) (hl : E.le E') {r : Rec} (hr : r ∈ recs) {vv : Value} {bl : Nat} :
    FrOk E' a0 recs (fun j => D j ∨ j = r.i) (fun j => if j = r.i then some bl else pb j) (A.put r.o.dst vv) := by
  refine ⟨by rw [put_size]; exact F.size, by rw [put_defs]; exact F.defers.mono hl, ?_, ?_⟩
  · intro t a ha h
    rw [gd_put_ne (fun e => h r hr e (.inr rfl))]
    exact (F.keep t a ha (fun q hq hqt hd => h q hq hqt (.inl hd))).mono hl
  · intro q hq t ht hd hp hlt
    by_cases he : q = r
    · subst he
      rw [if_pos rfl] at hp; cases hp
    · have hi : q.i ≠ r.i := fun e => he (X.one q hq r hr e)
      rw [if_neg hi] at hp
      rw [gd_put_ne (fun e => he (X.dst1 hq hr ht e))]
      exact (F.set q hq t ht (hd.resolve_right hi) hp hlt).mono hl

/-- what an operation sees is as it was told -/
theorem sees {E : Env} {D : Nat → Prop} {pb : Nat → Option Nat} {A : Act} (F : FrOk E a0 recs D pb A) (hD : Closed L D) (hDl : ∀ j, D j → j < recs.length) {i : Nat} {o : Oper} (hi : L[i]? = some o) (hni : ¬ D i) (hil : i ≤ recs.length)
    (hr : ∀ e ∈ o.after.toList, Region.binds .any e = true → D e.on) (hp : ∀ j, pb j ≠ none → bit (befores L []) i j = true → False) {a : AA} (ha : Final a0 a (recs.filter (fun q => decide (q.i < i)))) {t : Nat}
    (hu : t ∈ Op.uses o ∨ ∃ g want p, o.guard = some (g, want) ∧ L[g]? = some p ∧ p.dst = some t) {v : AV} (hv : a.tmps[t]? = some v) : Rel E v (gd A.tmps t) := by
  have hlt : t < a0.tmps.length := by
    rw [← ha.len]
    rcases Nat.lt_or_ge t a.tmps.length with h' | h'
    · exact h'
    · rw [List.getElem?_eq_none h'] at hv; cases hv
  have mem : ∀ q, q ∈ recs.filter (fun q => decide (q.i < i)) ↔ q ∈ recs ∧ q.i < i := by intro q; simp
  by_cases hq : ∃ q ∈ recs, q.o.dst = some t
  · obtain ⟨q, hq, hqt⟩ := hq
    have uniq : ∀ r ∈ recs, r.o.dst = some t → r = q := fun r hr hrt => X.dst1 hr hq hrt hqt
    have before : ¬ q.i < i → ¬ D q.i → Rel E v (gd A.tmps t) := by
      intro h1 h2
      rw [ha.keep t (fun r hr hrt => h1 (by rw [← uniq r ((mem r).1 hr).1 hrt]; exact ((mem r).1 hr).2))] at hv
      exact F.keep t v hv (fun r hr hrt => by rw [uniq r hr hrt]; exact h2)
    by_cases hqi : q.i = i
    · exact before (by omega) (by rw [hqi]; exact hni)
    · have hread : bit (befores L []) i q.i = true ∨ bit (befores L []) q.i i = true := by
        refine X.read q.i i q.o o t (X.at_ q hq) hi hqi hqt ?_
        rcases hu with h | ⟨g, want, p, h1, h2, h3⟩
        · exact .inl h
        · refine .inr ⟨want, ?_⟩
          have : g = q.i := by
            by_cases hg : g = q.i
            · exact hg
            · exact absurd hqt (X.dst g q.i p q.o t h2 (X.at_ q hq) hg h3)
          rw [← this]; exact h1
      rcases hread with h | h
      · have hDq := closed_bit hD X.edges i hi hr h
        have hlt' := bit_lt X.edges i hi h
        rw [ha.set q ((mem q).2 ⟨hq, hlt'⟩) t hqt (fun r hr hrt => by rw [uniq r ((mem r).1 hr).1 hrt]) hlt] at hv
        cases hv
        refine F.set q hq t hqt hDq ?_ hlt
        cases hpb : pb q.i with
        | none => rfl
        | some bl => exact (hp q.i (by rw [hpb]; simp) h).elim
      · have hlt' := bit_lt X.edges q.i (X.at_ q hq) h
        refine before (by omega) (fun hd => hni ?_)
        exact closed_bit hD X.edges q.i (X.at_ q hq) (hD q.i q.o (X.at_ q hq) hd) h
  · have hq' : ∀ r ∈ recs, r.o.dst ≠ some t := fun r hr hrt => hq ⟨r, hr, hrt⟩
    rw [ha.keep t (fun r hr => hq' r ((mem r).1 hr).1)] at hv
    exact F.keep t v hv (fun r hr hrt => absurd hrt (hq' r hr))
end
end Go.Proofs.YtgklmecijeadlaaGreatDoor.Ab
