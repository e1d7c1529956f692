import Derived.Test.YtgklmecijeadlaaGreatDoorA32
set_option linter.unusedSimpArgs false
set_option linter.unusedVariables false
set_option linter.unusedSectionVars false
namespace Go.Proofs.YtgklmecijeadlaaGreatDoor.Ab

/-! ### the twin gives what the machine gives -/
theorem Bt.get_set {α : Type} : ∀ (f : Nat) (b : Bt α) (d : Nat) (x : α) (t : Nat), (b.set f d x).get f t = if t = d then (b.get f d).map (fun _ => x) else b.get f t := by
  intro f
  induction f with
  | zero => intro b d x t; simp [Bt.get]
  | succ f ih =>
    intro b d x t
    cases b with
    | nil => simp [Bt.get, Bt.set]
    | node v l r =>
      have hm : ∀ n, Nat.mod n 2 = n % 2 := fun _ => rfl
      have hd : ∀ n, Nat.div n 2 = n / 2 := fun _ => rfl
      have hs : ∀ n, Nat.sub n 1 = n - 1 := fun _ => rfl
      have hb : ∀ a b : Nat, Nat.beq a b = decide (a = b) := fun a b => by rw [Bool.eq_iff_iff, Nat.beq_eq, decide_eq_true_iff]
      simp only [Bt.set, Bt.get, hm, hd, hs, hb]
      by_cases d0 : d = 0
      · subst d0
        simp only [decide_true, cond_true, Bt.get, hm, hd, hs, hb, Option.map_some]
        by_cases t0 : t = 0
        · subst t0; simp
        · simp [t0]
      · simp only [d0, decide_false, cond_false]
        by_cases d1 : d % 2 = 1
        · simp only [d1, decide_true, cond_true, Bt.get, hm, hd, hs, hb]
          by_cases t0 : t = 0
          · subst t0; simp [Ne.symm d0]
          · simp only [t0, decide_false, cond_false]
            by_cases t1 : t % 2 = 1
            · simp only [t1, decide_true, cond_true, ih]
              by_cases e : t = d
              · subst e; simp
              · rw [if_neg e, if_neg (by omega)]
            · simp only [t1, decide_false, cond_false]
              rw [if_neg (by intro e; subst e; exact t1 d1)]
        · simp only [d1, decide_false, cond_false, Bt.get, hm, hd, hs, hb]
          by_cases t0 : t = 0
          · subst t0; simp [Ne.symm d0]
          · simp only [t0, decide_false, cond_false]
            by_cases t1 : t % 2 = 1
            · simp only [t1, decide_true, cond_true]
              rw [if_neg (by intro e; subst e; exact d1 t1)]
            · simp only [t1, decide_false, cond_false, ih]
              by_cases e : t = d
              · subst e; simp
              · rw [if_neg e, if_neg (by omega)]

theorem skel_get : ∀ (f n : Nat) (h : n + 1 ≤ 2 ^ f) (t : Nat), (Bt.skel f n).get f t = if t < n then some undefA else none := by
  intro f
  induction f with
  | zero => intro n h t; have : n = 0 := by simpa using h
            subst this; simp [Bt.get]
  | succ f ih =>
    intro n h t
    have hm : ∀ n, Nat.mod n 2 = n % 2 := fun _ => rfl
    have hd : ∀ n, Nat.div n 2 = n / 2 := fun _ => rfl
    have hs : ∀ n, Nat.sub n 1 = n - 1 := fun _ => rfl
    have hb : ∀ a b : Nat, Nat.beq a b = decide (a = b) := fun a b => by rw [Bool.eq_iff_iff, Nat.beq_eq, decide_eq_true_iff]
    have hp : 2 ^ (f + 1) = 2 * 2 ^ f := by rw [Nat.pow_succ, Nat.mul_comm]
    simp only [Bt.skel, hb, hd, hs]
    by_cases n0 : n = 0
    · subst n0; simp [Bt.get]
    · simp only [n0, decide_false, cond_false, Bt.get, hb, hm, hd, hs]
      by_cases t0 : t = 0
      · subst t0
        rw [if_pos (by omega)]; simp
      · simp only [t0, decide_false, cond_false]
        by_cases t1 : t % 2 = 1
        · simp only [t1, decide_true, cond_true]
          rw [ih _ (by omega)]
          by_cases e : t < n
          · rw [if_pos e, if_pos (by omega)]
          · rw [if_neg e, if_neg (by omega)]
        · simp only [t1, decide_false, cond_false]
          rw [ih _ (by omega)]
          by_cases e : t < n
          · rw [if_pos e, if_pos (by omega)]
          · rw [if_neg e, if_neg (by omega)]

def TmEq (b : Bt AV) (l : List AV) : Prop := ∀ t, b.get dep t = l[t]?

theorem TmEq.set {b : Bt AV} {l : List AV} (h : TmEq b l) (d : Nat) (v : AV) : TmEq (b.set dep d v) (l.set d v) := by
  intro t
  rw [Bt.get_set, List.getElem?_set]
  by_cases e : t = d
  · subst e
    rw [if_pos rfl, if_pos rfl, h t]
    by_cases hl : t < l.length
    · rw [if_pos hl, List.getElem?_eq_getElem hl]; rfl
    · rw [if_neg hl, List.getElem?_eq_none (by omega)]; rfl
  · rw [if_neg e, if_neg (Ne.symm e), h t]

theorem TmEq.sets : ∀ (args : List AV) (i : Nat) {b : Bt AV} {l : List AV}, TmEq b l → TmEq (b.sets i args) (wr l i args)
  | [], _, _, _, h => h
  | v :: args, i, b, l, h => TmEq.sets args (i + 1) (h.set i v)

theorem wrs_get : ∀ (args : List AV) (i : Nat) (l : List AV) (t : Nat), (wr l i args)[t]? = if i ≤ t ∧ t < i + args.length ∧ t < l.length then args[t - i]? else l[t]?
  | [], i, l, t => by
    rw [if_neg (by rintro ⟨h1, h2, _⟩; simp at h2; omega)]; rfl
  | v :: args, i, l, t => by
    show (wr (l.set i v) (i + 1) args)[t]? = _
    rw [wrs_get args (i + 1) (l.set i v) t, List.length_set, List.getElem?_set]
    simp only [List.length_cons]
    by_cases h1 : i = t
    · subst h1
      rw [if_neg (by omega), if_pos rfl, Nat.sub_self]
      by_cases h2 : i < l.length
      · rw [if_pos h2, if_pos ⟨by omega, by omega, h2⟩]; rfl
      · rw [if_neg h2, if_neg (by omega), List.getElem?_eq_none (by omega)]
    · rw [if_neg h1]
      by_cases h2 : i + 1 ≤ t ∧ t < i + 1 + args.length ∧ t < l.length
      · rw [if_pos h2, if_pos (by omega), show t - i = (t - (i + 1)) + 1 by omega]; rfl
      · rw [if_neg h2, if_neg (by omega)]

def Eqv (a : FA) (a' : AA) : Prop := a.defers = a'.defers ∧ TmEq a.tmps a'.tmps

theorem frame_eqv {F : Func} {args : List AV} (h : fits F args = true) : Eqv (frameF F args) (frame F args) := by
  unfold fits at h
  rw [Bool.and_eq_true, Nat.ble_eq, Nat.ble_eq] at h
  refine ⟨rfl, ?_⟩
  have h0 : TmEq (Bt.skel dep F.ntmps) (List.replicate F.ntmps undefA) := by
    intro t
    rw [skel_get _ _ (by have h2 := h.2; show F.ntmps + 1 ≤ 4096; omega), List.getElem?_replicate]
  have h1 := h0.sets args 0
  intro t
  have h2 := h1 t
  unfold frameF
  rw [h2]
  unfold frame
  rw [wrs_get, List.length_replicate, List.getElem?_append, Nat.sub_zero, Nat.zero_add, List.getElem?_replicate, List.getElem?_replicate]
  by_cases e : t < args.length
  · rw [if_pos e, if_pos ⟨by omega, e, by omega⟩]
  · rw [if_neg e, if_neg (by omega)]
    by_cases e2 : t < F.ntmps
    · rw [if_pos e2, if_pos (by omega)]
    · rw [if_neg e2, if_neg (by omega)]

theorem evF_eq {T : Tab} {b : Bt AV} {l : List AV} (h : TmEq b l) : evF T b = evalA T l := by
  funext x
  cases x with
  | tmp t => exact h t
  | _ => rfl

def OptR {α β : Type} (R : α → β → Prop) : Option α → Option β → Prop
  | none, none => True
  | some a, some b => R a b
  | _, _ => False
def R3 {γ : Type} (x : Ex × FA × γ) (y : Ex × AA × γ) : Prop := x.1 = y.1 ∧ Eqv x.2.1 y.2.1 ∧ x.2.2 = y.2.2

theorem Eqv.put {a : FA} {a' : AA} (h : Eqv a a') (d : Option Nat) (v : AV) : Eqv (a.put d v) (a'.put d v) := by
  cases d with
  | none => exact h
  | some d => exact ⟨h.1, h.2.set d v⟩

theorem wanted_eq {ops : List Oper} {b : Bt AV} {l : List AV} (h : TmEq b l) (o : Oper) : wantedF ops b o = wantedA ops l o := by
  unfold wantedF wantedA
  cases o.guard with
  | none => rfl
  | some p =>
    obtain ⟨j, want⟩ := p
    simp only
    cases ops[j]? with
    | none => rfl
    | some p =>
      simp only
      cases p.dst with
      | none => rfl
      | some d =>
        simp only
        rw [h d]
        cases l[d]? with
        | none => rfl
        | some v => cases v <;> rfl

theorem stepOp_twin {T : Tab} {C : Hand} {ops : List Oper} {o : Oper} {a : FA} {a' : AA} (h : Eqv a a') (σ : St) : OptR R3 (stepOpF T C ops o a σ) (stepOp T C ops o a' σ) := by
  unfold stepOpF stepOp
  rw [wanted_eq h.2, evF_eq h.2]
  cases wantedA ops a'.tmps o with
  | none => exact trivial
  | some b =>
    cases b with
    | false => exact ⟨rfl, h.put _ _, rfl⟩
    | true =>
      simp only
      cases stepA T C (evalA T a'.tmps) o σ with
      | none => exact trivial
      | some r =>
        obtain ⟨r, s⟩ := r
        cases r with
        | val v => exact ⟨rfl, h.put _ _, rfl⟩
        | skip => exact ⟨rfl, h.put _ _, rfl⟩
        | defer f args => exact ⟨rfl, Eqv.put (a := { a with defers := (f, args) :: a.defers }) (a' := { a' with defers := (f, args) :: a'.defers }) ⟨congrArg _ h.1, h.2⟩ _ _, rfl⟩
        | pan v => exact ⟨rfl, h, rfl⟩

/-- two answers: both none, or both the same -/
theorem OptR.cases {α β : Type} {R : α → β → Prop} {x : Option α} {y : Option β} (h : OptR R x y) : (x = none ∧ y = none) ∨ ∃ a b, x = some a ∧ y = some b ∧ R a b := by
  cases x <;> cases y
  · exact .inl ⟨rfl, rfl⟩
  · exact h.elim
  · exact h.elim
  · exact .inr ⟨_, _, rfl, rfl, h⟩

theorem runOps_twin {T : Tab} {C : Hand} {ops : List Oper} : ∀ (l : List Oper) {a : FA} {a' : AA} (h : Eqv a a') (σ : St), OptR R3 (runOpsF T C ops l a σ) (runOps T C ops l a' σ)
  | [], a, a', h, σ => ⟨rfl, h, rfl⟩
  | o :: l, a, a', h, σ => by
    simp only [runOpsF, runOps]
    rcases (stepOp_twin (T := T) (C := C) (ops := ops) (o := o) h σ).cases with ⟨h1, h2⟩ | ⟨⟨e, b, s⟩, ⟨e', b', s'⟩, h1, h2, h3, h4, h5⟩
    · rw [h1, h2]; exact trivial
    · rw [h1, h2]
      simp only at h3 h5
      subst h3; subst h5
      cases e with
      | norm => exact runOps_twin l h4 _
      | _ => exact ⟨rfl, h4, rfl⟩

inductive Two {α β : Type} (R : α → β → Prop) : List α → List β → Prop
  | nil : Two R [] []
  | cons {a : α} {b : β} {l : List α} {m : List β} : R a b → Two R l m → Two R (a :: l) (b :: m)

/-! what is remembered -/
structure RR (x : RecF) (y : Rec) : Prop where
  i : x.i = y.i
  o : x.o = y.o
  a : Eqv x.a y.a
  b : x.b = y.b
  r : Eqv x.r y.r
  s : x.s = y.s

def R4 (x : Ex × FA × St × List RecF) (y : Ex × AA × St × List Rec) : Prop := x.1 = y.1 ∧ Eqv x.2.1 y.2.1 ∧ x.2.2.1 = y.2.2.1 ∧ Two RR x.2.2.2 y.2.2.2

theorem f2_append {α β : Type} {R : α → β → Prop} : ∀ {a : List α} {b : List β} {c : List α} {d : List β}, Two R a b → Two R c d → Two R (a ++ c) (b ++ d)
  | _, _, _, _, .nil, h => h
  | _, _, _, _, .cons h t, h' => .cons h (f2_append t h')
theorem f2_reverse {α β : Type} {R : α → β → Prop} : ∀ {a : List α} {b : List β}, Two R a b → Two R a.reverse b.reverse
  | _, _, .nil => .nil
  | _, _, .cons h t => by
    rw [List.reverse_cons, List.reverse_cons]
    exact f2_append (f2_reverse t) (.cons h .nil)
theorem f2_dropLast {α β : Type} {R : α → β → Prop} : ∀ {a : List α} {b : List β}, Two R a b → Two R a.dropLast b.dropLast
  | _, _, .nil => .nil
  | _, _, .cons h .nil => .nil
  | _, _, .cons h (.cons h' t) => .cons h (f2_dropLast (.cons h' t))
theorem f2_length {α β : Type} {R : α → β → Prop} : ∀ {a : List α} {b : List β}, Two R a b → a.length = b.length
  | _, _, .nil => rfl
  | _, _, .cons _ t => congrArg (· + 1) (f2_length t)
theorem f2_all {α β : Type} {R : α → β → Prop} {p : α → Bool} {q : β → Bool} (hpq : ∀ x y, R x y → p x = q y) : ∀ {a : List α} {b : List β}, Two R a b → a.all p = b.all q
  | _, _, .nil => rfl
  | _, _, .cons h t => by rw [List.all_cons, List.all_cons, hpq _ _ h, f2_all hpq t]
theorem f2_filter {α β : Type} {R : α → β → Prop} {p : α → Bool} {q : β → Bool} (hpq : ∀ x y, R x y → p x = q y) : ∀ {a : List α} {b : List β}, Two R a b → Two R (a.filter p) (b.filter q)
  | _, _, .nil => .nil
  | _, _, .cons (a := x) (b := y) h t => by
    rw [List.filter_cons, List.filter_cons, hpq _ _ h]
    split
    · exact .cons h (f2_filter hpq t)
    · exact f2_filter hpq t

theorem runRec_twin {T : Tab} {C : Hand} {ops : List Oper} : ∀ (l : List Oper) (i : Nat) {a : FA} {a' : AA} (h : Eqv a a') (σ : St) {acc : List RecF} {acc' : List Rec} (hacc : Two RR acc acc'), OptR R4 (runRecF T C ops l i a σ acc) (runRec T C ops l i a' σ acc')
  | [], i, a, a', h, σ, acc, acc', hacc => ⟨rfl, h, rfl, f2_reverse hacc⟩
  | o :: l, i, a, a', h, σ, acc, acc', hacc => by
    simp only [runRecF, runRec]
    rcases (stepOp_twin (T := T) (C := C) (ops := ops) (o := o) h σ).cases with ⟨h1, h2⟩ | ⟨⟨e, b, s⟩, ⟨e', b', s'⟩, h1, h2, h3, h4, h5⟩
    · rw [h1, h2]; exact trivial
    · rw [h1, h2]
      simp only at h3 h5
      subst h3; subst h5
      have hc : Two RR (⟨i, o, a, σ, b, s⟩ :: acc) (⟨i, o, a', σ, b', s⟩ :: acc') := .cons ⟨rfl, rfl, h, rfl, h4, rfl⟩ hacc
      cases e with
      | norm => exact runRec_twin l (i + 1) h4 _ hc
      | _ => exact ⟨rfl, h4, rfl, f2_reverse hc⟩

theorem valAt_eq {o : Oper} {a : FA} {a' : AA} (h : Eqv a a') : valAtF o a = valAt o a' := by
  unfold valAtF valAt
  cases o.dst with
  | none => rfl
  | some d => simp only [h.2 d, List.getD_eq_getElem?_getD]

theorem val_eq {x : RecF} {y : Rec} (h : RR x y) : x.val = y.val := by
  unfold RecF.val Rec.val
  rw [h.o]; exact valAt_eq h.r

theorem sameIn_eq {T : Tab} {C : Hand} {ops : List Oper} {x : RecF} {y : Rec} (h : RR x y) (σ : St) : sameInF T C ops x σ = sameIn T C ops y σ := by
  unfold sameInF sameIn
  have hv := val_eq h
  rw [h.o]
  rcases (stepOp_twin (T := T) (C := C) (ops := ops) (o := y.o) h.a σ).cases with ⟨h1, h2⟩ | ⟨⟨e, b, s⟩, ⟨e', b', s'⟩, h1, h2, h3, h4, h5⟩
  · rw [h1, h2]
  · rw [h1, h2]
    simp only at h3 h5
    subst h3; subst h5
    cases e with
    | norm => cases s with
      | none => simp only [hv, valAt_eq h4]
      | some s => rfl
    | _ => rfl

theorem stateOk_eq {T : Tab} {C : Hand} {ops : List Oper} {b : List Nat} {x : RecF} {y : Rec} (h : RR x y) : ∀ {ls : List RecF} {ls' : List Rec} (hl : Two RR ls ls') (c : Option Nat) (σ : St), stateOkF T C ops b x c σ ls = stateOk T C ops b y c σ ls'
  | _, _, .nil, c, σ => by
    unfold stateOkF stateOk
    rw [sameIn_eq h, h.i]
    cases c <;> rfl
  | _, _, .cons (a := l) (b := l') hl ht, c, σ => by
    unfold stateOkF stateOk
    simp only
    rw [sameIn_eq h, h.i, hl.i, hl.s, stateOk_eq h ht]
    cases c <;> rfl

theorem allocOk_eq {b : List Nat} {r : List RecF} {r' : List Rec} (hr : Two RR r r') {l : List RecF} {l' : List Rec} (hl : Two RR l l') : allocOkF b r l = allocOk b r' l' := by
  unfold allocOkF allocOk
  refine f2_all (fun y y' hy => ?_) hl
  rw [hy.o]
  congr 1
  refine f2_all (fun x x' hx => ?_) hr
  rw [hy.i, hx.i]
  congr 1
  refine f2_all (fun z z' hz => ?_) hl
  rw [hz.i]

theorem unord_eq {b : List Nat} : ∀ {l : List RecF} {l' : List Rec}, Two RR l l' → Two (fun p q => RR p.1 q.1 ∧ RR p.2 q.2) (unordF b l) (unord b l')
  | _, _, .nil => .nil
  | _, _, .cons (a := x) (b := y) (l := l) (m := l') h t => by
    unfold unordF unord
    refine f2_append ?_ (unord_eq t)
    have := f2_filter (R := RR) (p := fun s => !bit b s.i x.i && !isAlloc s.o) (q := fun s => !bit b s.i y.i && !isAlloc s.o) (fun u v huv => by rw [huv.i, huv.o, h.i]) t
    generalize l.filter _ = m at this ⊢
    generalize l'.filter _ = m' at this ⊢
    clear t
    induction this with
    | nil => exact .nil
    | cons h1 _ ih => exact .cons ⟨h, h1⟩ ih

theorem swapOk_eq {T : Tab} {C : Hand} {ops : List Oper} {b : List Nat} {r : List RecF} {r' : List Rec} (hr : Two RR r r') {x y : RecF} {x' y' : Rec} (hx : RR x x') (hy : RR y y') : swapOkF T C ops b r x y = swapOk T C ops b r' x' y' := by
  unfold swapOkF swapOk
  rw [hy.o, hx.b, hy.s, val_eq hy]
  rcases (stepOp_twin (T := T) (C := C) (ops := ops) (o := y'.o) hy.a x'.b).cases with ⟨h1, h2⟩ | ⟨⟨e, c, s⟩, ⟨e', c', s'⟩, h1, h2, h3, h4, h5⟩
  · rw [h1, h2]
  · rw [h1, h2]
    simp only at h3 h5
    subst h3; subst h5
    cases e with
    | norm =>
      cases s with
      | none => rfl
      | some s =>
        cases y'.s with
        | none => rfl
        | some s2 =>
          simp only
          rw [valAt_eq h4, hx.o, val_eq hx, hx.i]
          congr 1
          · congr 1
            rcases (stepOp_twin (T := T) (C := C) (ops := ops) (o := x'.o) hx.a s).cases with ⟨g1, g2⟩ | ⟨⟨e, c, u⟩, ⟨e', c', u'⟩, g1, g2, g3, g4, g5⟩
            · rw [g1, g2]
            · rw [g1, g2]
              simp only at g3 g5
              subst g3; subst g5
              cases e with
              | norm => cases u with
                | none => rfl
                | some u => simp only [valAt_eq g4]
              | _ => rfl
          · refine f2_all (fun z z' hz => ?_) hr
            rw [hz.s, hz.o, hz.i, hy.i, sameIn_eq hz]
    | _ => rfl

theorem drawOk_eq {T : Tab} {C : Hand} {ops : List Oper} {b : List Nat} {σ : St} {r : List RecF} {r' : List Rec} (hr : Two RR r r') : drawOkF T C ops b σ r = drawOk T C ops b σ r' := by
  unfold drawOkF drawOk
  have hl : Two RR (r.filter (·.s.isSome)) (r'.filter (·.s.isSome)) := f2_filter (fun x y h => by rw [h.s]) hr
  simp only
  rw [allocOk_eq hr hl]
  congr 1
  · congr 1
    refine f2_all (fun x y h => ?_) hr
    rw [h.s, h.o, stateOk_eq h hl]
  · have hu := unord_eq (b := b) hl
    generalize unordF b _ = m at hu ⊢
    generalize unord b _ = m' at hu ⊢
    cases hu with
    | nil => rfl
    | cons h t => cases t with
      | nil => exact swapOk_eq hr h.1 h.2
      | cons _ _ => rfl

theorem junkAll_twin : ∀ (l : List Oper) {a : FA} {a' : AA}, Eqv a a' → Eqv (junkAllF l a) (junkAll l a')
  | [], _, _, h => h
  | _ :: l, _, _, h => junkAll_twin l (h.put _ _)

theorem reg_twin {T : Tab} {C : Hand} {ops : Array Oper} {draw : Bool} {a : FA} {a' : AA} (h : Eqv a a') (σ : St) : OptR R3 (regF T C ops draw a σ) (regA T C ops draw a' σ) := by
  unfold regF regA
  cases draw with
  | false => exact runOps_twin _ h σ
  | true =>
    simp only [cond_true]
    rcases (runRec_twin (T := T) (C := C) (ops := ops.toList) ops.toList 0 h σ (acc := []) (acc' := []) .nil).cases with ⟨h1, h2⟩ | ⟨⟨e, c, s, r⟩, ⟨e', c', s', r'⟩, h1, h2, h3, h4, h5, h6⟩
    · rw [h1, h2]; exact trivial
    · rw [h1, h2]
      simp only at h3 h5 h6 h4
      subst h3; subst h5
      cases e with
      | norm =>
        simp only
        rw [drawOk_eq h6]
        cases drawOk T C ops.toList (befores ops.toList []) σ r' with
        | true => exact ⟨rfl, h4, rfl⟩
        | false => exact trivial
      | pan v =>
        simp only
        rw [drawOk_eq (f2_dropLast h6), f2_length h6]
        rw [f2_all (p := fun r_1 => r_1.s.isNone || bit (befores ops.toList []) (r'.length - 1) r_1.i) (q := fun r_1 => r_1.s.isNone || bit (befores ops.toList []) (r'.length - 1) r_1.i) (fun x y hxy => by rw [hxy.s, hxy.i]) (f2_dropLast h6)]
        generalize (drawOk T C ops.toList (befores ops.toList []) σ r'.dropLast && _ && _) = q
        cases q with
        | true => exact ⟨rfl, junkAll_twin _ h, rfl⟩
        | false => exact trivial
      | _ => exact trivial

theorem iter_twin {f : FA → St → Option (Ex × FA × St)} {g : AA → St → Option (Ex × AA × St)} (hfg : ∀ a a' σ, Eqv a a' → OptR R3 (f a σ) (g a' σ)) : ∀ (n : Nat) {a : FA} {a' : AA} (h : Eqv a a') (σ : St), OptR R3 (iterF f n a σ) (iterA g n a' σ)
  | 0, _, _, _, _ => trivial
  | n + 1, a, a', h, σ => by
    simp only [iterF, iterA]
    rcases (hfg a a' σ h).cases with ⟨h1, h2⟩ | ⟨⟨e, b, s⟩, ⟨e', b', s'⟩, h1, h2, h3, h4, h5⟩
    · rw [h1, h2]; exact trivial
    · rw [h1, h2]
      simp only at h3 h5
      subst h3; subst h5
      cases e with
      | norm => exact iter_twin hfg n h4 _
      | _ => exact ⟨rfl, h4, rfl⟩

theorem exec_twin {T : Tab} {C : Hand} : ∀ (c : Code) {a : FA} {a' : AA} (h : Eqv a a') (σ : St), OptR R3 (execF T C c a σ) (execA T C c a' σ) := by
  intro c
  induction c with
  | skip => intro a a' h σ; exact ⟨rfl, h, rfl⟩
  | label => intro a a' h σ; exact ⟨rfl, h, rfl⟩
  | region id ops draw => intro a a' h σ; exact reg_twin h σ
  | seq x y ihx ihy =>
    intro a a' h σ
    simp only [execF, execA]
    rcases (ihx h σ).cases with ⟨h1, h2⟩ | ⟨⟨e, b, s⟩, ⟨e', b', s'⟩, h1, h2, h3, h4, h5⟩
    · rw [h1, h2]; exact trivial
    · rw [h1, h2]
      simp only at h3 h5
      subst h3; subst h5
      cases e with
      | norm => exact ihy h4 _
      | _ => exact ⟨rfl, h4, rfl⟩
  | cond c x y ihx ihy =>
    intro a a' h σ
    simp only [execF, execA]
    rw [evF_eq h.2]
    cases evalA T a'.tmps c with
    | none => exact trivial
    | some v =>
      cases v with
      | bool t => cases t with
        | true => exact ihx h σ
        | false => exact ihy h σ
      | _ => exact trivial
  | block id x ih =>
    intro a a' h σ
    simp only [execF, execA]
    rcases (ih h σ).cases with ⟨h1, h2⟩ | ⟨⟨e, b, s⟩, ⟨e', b', s'⟩, h1, h2, h3, h4, h5⟩
    · rw [h1, h2]; exact trivial
    · rw [h1, h2]
      simp only at h3 h5
      subst h3; subst h5
      cases e with
      | exit i =>
        simp only
        cases Nat.beq i id with
        | true => exact ⟨rfl, h4, rfl⟩
        | false => exact ⟨rfl, h4, rfl⟩
      | _ => exact ⟨rfl, h4, rfl⟩
  | loop x ih => intro a a' h σ; exact iter_twin (fun a a' σ h => ih h σ) _ h σ
  | scope x ih => intro a a' h σ; exact ih h σ
  | exit id => intro a a' h σ; exact ⟨rfl, h, rfl⟩
  | ret => intro a a' h σ; exact ⟨rfl, h, rfl⟩
  | _ => intro a a' h σ; exact trivial

def R5 (x : Ex × FA × St × Pan) (y : Ex × AA × St × Pan) : Prop := x.1 = y.1 ∧ Eqv x.2.1 y.2.1 ∧ x.2.2 = y.2.2

theorem runOpsD_other {T : Tab} {C : Hand} {ops : List Oper} {o : Oper} {l : List Oper} {a : AA} {σ : St} {u : Pan} (hne : ∀ args argTypes, o.op = .call { callee := .builtin .recover, args := args, argTypes := argTypes } → False) :
    runOpsD T C ops (o :: l) a σ u = match stepOp T C ops o a σ with
      | some (.norm, a', s) => runOpsD T C ops l a' (s.getD σ) u
      | some (e, a', s) => some (e, a', s.getD σ, u)
      | none => none := by
  conv => lhs; unfold runOpsD
  split
  · rename_i heq; exact absurd heq (hne _ _)
  · rfl

theorem runOpsD_twin {T : Tab} {C : Hand} {ops : List Oper} : ∀ (l : List Oper) {a : FA} {a' : AA} (h : Eqv a a') (σ : St) (u : Pan), OptR R5 (runOpsDF T C ops l a σ u) (runOpsD T C ops l a' σ u)
  | [], a, a', h, σ, u => ⟨rfl, h, rfl⟩
  | o :: l, a, a', h, σ, u => by
    unfold runOpsDF
    split
    · rename_i heq
      unfold runOpsD
      simp only [heq]
      rw [wanted_eq h.2]
      cases wantedA ops a'.tmps o with
      | none => exact trivial
      | some b =>
        cases b with
        | false => exact runOpsD_twin l (h.put _ _) _ _
        | true =>
          cases u with
          | no => exact runOpsD_twin l (h.put _ _) _ _
          | pan v => exact runOpsD_twin l (h.put _ _) _ _
          | done => exact runOpsD_twin l (h.put _ _) _ _
    · rename_i hne
      show OptR R5 _ (runOpsD T C ops (o :: l) a' σ u)
      rw [runOpsD_other hne]
      rcases (stepOp_twin (T := T) (C := C) (ops := ops) (o := o) h σ).cases with ⟨h1, h2⟩ | ⟨⟨e, b, s⟩, ⟨e', b', s'⟩, h1, h2, h3, h4, h5⟩
      · rw [h1, h2]; exact trivial
      · rw [h1, h2]
        simp only at h3 h5
        subst h3; subst h5
        cases e with
        | norm => exact runOpsD_twin l h4 _ _
        | _ => exact ⟨rfl, h4, rfl⟩

theorem execD_last {T : Tab} {C : Hand} (c : Code) {a : FA} {a' : AA} (h : Eqv a a') (σ : St) (u : Pan) : OptR R5 ((execF T C c a σ).map fun r => (r.1, r.2.1, r.2.2, u)) ((execA T C c a' σ).map fun r => (r.1, r.2.1, r.2.2, u)) := by
  rcases (exec_twin (T := T) (C := C) c h σ).cases with ⟨h1, h2⟩ | ⟨⟨e, b, s⟩, ⟨e', b', s'⟩, h1, h2, h3, h4, h5⟩
  · rw [h1, h2]; exact trivial
  · rw [h1, h2]
    simp only at h3 h5
    subst h3; subst h5
    exact ⟨rfl, h4, rfl⟩

theorem execD_twin {T : Tab} {C : Hand} : ∀ (c : Code) {a : FA} {a' : AA} (h : Eqv a a') (σ : St) (u : Pan), OptR R5 (execDF T C c a σ u) (execD T C c a' σ u) := by
  intro c
  induction c with
  | seq x y ihx ihy =>
    intro a a' h σ u
    simp only [execDF, execD]
    rcases (ihx h σ u).cases with ⟨h1, h2⟩ | ⟨⟨e, b, s⟩, ⟨e', b', s'⟩, h1, h2, h3, h4, h5⟩
    · rw [h1, h2]; exact trivial
    · rw [h1, h2]
      simp only at h3 h5
      subst h3; subst h5
      cases e with
      | norm => exact ihy h4 _ _
      | _ => exact ⟨rfl, h4, rfl⟩
  | cond c x y ihx ihy =>
    intro a a' h σ u
    simp only [execDF, execD]
    rw [evF_eq h.2]
    cases evalA T a'.tmps c with
    | none => exact trivial
    | some v =>
      cases v with
      | bool t => cases t with
        | true => exact ihx h σ u
        | false => exact ihy h σ u
      | _ => exact trivial
  | region id ops draw =>
    intro a a' h σ u
    cases draw with
    | false => simp only [execDF, execD]; exact runOpsD_twin _ h σ u
    | true => simp only [execDF, execD]; exact execD_last _ h σ u
  | _ => intro a a' h σ u; simp only [execDF, execD]; exact execD_last _ h σ u

theorem resA_eq {T : Tab} {σ : St} {b : Bt AV} {l : List AV} (h : TmEq b l) : ∀ (rs : List ResultVar), resAF T σ b rs = resA T σ l rs
  | [] => rfl
  | .tmp t :: rs => by
    simp only [resAF, resA, h t, resA_eq h rs]
    cases l[t]? <;> cases resA T σ l rs <;> rfl
  | .cell p t :: rs => by
    simp only [resAF, resA, h p, resA_eq h rs]
    cases l[p]? with
    | none => rfl
    | some q => simp only; cases loadA T σ t q <;> cases resA T σ l rs <;> rfl

theorem resultsF_eq {T : Tab} {σ : St} {F : Func} {b : Bt AV} {l : List AV} (h : TmEq b l) : resultsF T σ F b = resultsA T σ F l := by
  unfold resultsF resultsA
  rw [resA_eq h]
  cases resA T σ l F.results.toList with
  | none => rfl
  | some q => cases q with
    | nil => rfl
    | cons a t => cases t <;> rfl

theorem leave_eq {T : Tab} {C : Hand} : ∀ (ds : List (AV × List AV)) (u : Option AV) (σ : St), leaveF T C ds u σ = leaveA T C ds u σ
  | [], u, σ => rfl
  | (g, args0) :: ds, u, σ => by
    unfold leaveF
    cases hF : target g args0 with
    | none => simp only [leaveA, hF]
    | some q =>
      obtain ⟨f, args⟩ := q
      simp only
      cases hfn : T.fn f with
      | none => simp only [leaveA, hF, hfn]
      | some F =>
        simp only
        cases hb : F.body with
        | none => simp only [leaveA, hF, hfn, hb]
        | some c =>
          simp only
          cases hfit : fits F args with
          | false => rfl
          | true =>
            have key : ∀ u0, (match execDF T C c (frameF F args) σ u0 with
                | some (.norm, a', σ', u') | some (.ret, a', σ', u') => match a'.defers, resultsF T σ' F a'.tmps with
                  | [], some _ => leaveF T C ds (match u' with | .pan v => some v | _ => none) σ'
                  | _, _ => none
                | _ => none) = (match execD T C c (frame F args) σ u0 with
                | some (.norm, a', σ', u') | some (.ret, a', σ', u') => match a'.defers, resultsA T σ' F a'.tmps with
                  | [], some _ => leaveA T C ds (match u' with | .pan v => some v | _ => none) σ'
                  | _, _ => none
                | _ => none) := by
              intro u0
              rcases (execD_twin (T := T) (C := C) c (frame_eqv hfit) σ u0).cases with ⟨h1, h2⟩ | ⟨⟨e, b, s, p⟩, ⟨e', b', s', p'⟩, h1, h2, h3, h4, h5⟩
              · rw [h1, h2]
              · rw [h1, h2]
                simp only at h3 h5
                subst h3; cases h5
                obtain ⟨hd, ht⟩ : Eqv b b' := h4
                clear h1 h2
                have key2 : (match b.defers, resultsF T s F b.tmps with
                    | [], some _ => leaveF T C ds (match p with | .pan v => some v | _ => none) s
                    | _, _ => none) = (match b'.defers, resultsA T s F b'.tmps with
                    | [], some _ => leaveA T C ds (match p with | .pan v => some v | _ => none) s
                    | _, _ => none) := by
                  rw [resultsF_eq ht, hd]
                  cases b'.defers <;> cases resultsA T s F b'.tmps <;> simp only [leave_eq ds]
                cases e with
                | norm => exact key2
                | ret => exact key2
                | _ => rfl
            have := key (match u with | some v => .pan v | none => .no)
            cases u <;> (simp only [cond_true, leaveA, hF, hfn, hb]; exact this)

theorem body_eq {T : Tab} {C : Hand} {f : FuncId} {F : Func} {c : Code} {args : List AV} (h : fits F args = true) (σ : St) : bodyF T C f F c args σ = bodyA T C f F c args σ := by
  unfold bodyF bodyA
  rcases (exec_twin (T := T) (C := C) c (frame_eqv h) { σ with log := [] }).cases with ⟨h1, h2⟩ | ⟨⟨e, b, s⟩, ⟨e', b', s'⟩, h1, h2, h3, h4, h5⟩
  · rw [h1, h2]
  · rw [h1, h2]
    simp only at h3 h5
    subst h3; subst h5
    obtain ⟨hd, ht⟩ : Eqv b b' := h4
    have key : ∀ u0, (match leaveF T C b.defers u0 s with
        | some (some v, σ2) => match endA T f σ σ2 v with
          | some (v, σ3) => some (ER.pan v, σ3)
          | none => none
        | some (none, σ2) => match resultsF T σ2 F b.tmps with
          | some v => match endA T f σ σ2 v with
            | some (v, σ3) => some (ER.ret v, σ3)
            | none => none
          | none => none
        | none => none) = (match leaveA T C b'.defers u0 s with
        | some (some v, σ2) => match endA T f σ σ2 v with
          | some (v, σ3) => some (ER.pan v, σ3)
          | none => none
        | some (none, σ2) => match resultsA T σ2 F b'.tmps with
          | some v => match endA T f σ σ2 v with
            | some (v, σ3) => some (ER.ret v, σ3)
            | none => none
          | none => none
        | none => none) := by
      intro u0
      rw [hd, leave_eq]
      cases leaveA T C b'.defers u0 s with
      | none => rfl
      | some q =>
        obtain ⟨u, σ2⟩ := q
        cases u with
        | none => simp only [resultsF_eq ht]
        | some v => rfl
    clear h1 h2
    cases e <;> first | rfl | exact key _

theorem call_eq (T : Tab) : ∀ n, callF T n = callA T n
  | 0 => rfl
  | n + 1 => by
    funext f args σ
    simp only [callF, callA]
    cases T.ext f with
    | some g => rfl
    | none =>
      simp only
      cases T.fn f with
      | none => rfl
      | some F =>
        simp only
        cases F.body with
        | none => rfl
        | some c =>
          simp only
          rw [call_eq T n]
          cases hfit : fits F args with
          | false => rfl
          | true => exact body_eq hfit σ
end Go.Proofs.YtgklmecijeadlaaGreatDoor.Ab
