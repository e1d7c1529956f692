import Derived.Test.YtgklmecijeadlaaGreatDoorA14
set_option linter.unusedSimpArgs false
set_option linter.unusedVariables false
set_option linter.unusedSectionVars false
namespace Go.Proofs.YtgklmecijeadlaaGreatDoor.Ab

/-! ### calls of functions -/
def CallFn (P : Program) (f : FuncId) (vs : Array Value) (w : World) (R : Ending → World → Prop) : Prop :=
  ((callFunc f vs).run P w = .ok (.enter f vs) w ∧ Calls P f vs w R) ∨ (∃ v w', (callFunc f vs).run P w = .ok (.value v) w' ∧ R (.returned v) w')

def EndRel (T : Tab) (K : Nat → Prop) (W : World) (E : Env) (r : ER) (σ' : St) (e : Ending) (w' : World) : Prop :=
  ∃ E', E.le E' ∧ Sim T K W E' σ' w' ∧ match r, e with
    | .ret a, .returned v => Rel E' a v
    | .pan a, .panicked ch => ∃ v, ch = [{ v, recovered := false }] ∧ Rel E' a v
    | _, _ => False

def HandOk (T : Tab) (P : Program) (C : Hand) : Prop := ∀ f args σ r σ', C f args σ = some (r, σ') → ∀ K W E w vs, Sim T K W E σ w → RelL E args vs → CallFn P f vs w (EndRel T K W E r σ')

def DefRel (E : Env) (g : AV) (args : List AV) (d : Deferred) : Prop :=
  ∃ fn first cap vs, Rel E g (.func fn first cap) ∧ RelL E args vs ∧ d = { target := .fn fn cap, args := first ++ vs }

theorem DefRel.mk {E : Env} {fn : Fn} {g : AV} {args : List AV} {fs cs vs : Array Value} (h : Rel E g (.func fn fs cs)) (ha : RelL E args vs) : DefRel E g args { target := .fn fn cs, args := fs ++ vs } := ⟨fn, fs, cs, vs, h, ha, rfl⟩

theorem relL_append {E : Env} {a b : List AV} {x y : Array Value} (h : RelL E a x) (h' : RelL E b y) : RelL E (a ++ b) (x ++ y) := by
  refine ⟨by simp [h.len, h'.len], ?_⟩
  intro i v hi
  rw [gd_append]
  rcases Nat.lt_or_ge i a.length with hlt | hge
  · rw [List.getElem?_append_left hlt] at hi
    rw [if_pos (by have := h.len; omega)]; exact h.at_ i v hi
  · rw [List.getElem?_append_right hge] at hi
    rw [if_neg (by have := h.len; omega), ← h.len]; exact h'.at_ _ v hi

theorem relL_cons {E : Env} {a : AV} {x : Value} {b : List AV} {y : Array Value} (h : Rel E a x) (h' : RelL E b y) : RelL E (a :: b) (#[x] ++ y) := by
  have : RelL E [a] #[x] := ⟨rfl, fun i v hi => by
    match i, hi with
    | 0, hi => simp at hi; subst hi; exact h⟩
  exact relL_append this h'

theorem toList_cons {n : Nat} {vs : Array Value} (h : n + 1 = vs.size) : ∃ l, vs.toList = gd vs 0 :: l := by
  cases hv : vs.toList with
  | nil =>
    have : vs.size = 0 := by rw [← Array.length_toList, hv]; rfl
    omega
  | cons v l => exact ⟨l, by congr 1; rw [gd_of]; rw [← Array.getElem?_toList, hv]; rfl⟩

section
variable {T : Tab} {P : Program} (hT : TabOk T P) {K : Nat → Prop} {W : World} {E : Env} {σ : St} {w : World} (S : Sim T K W E σ w)

/-- how a step goes on -/
def Cont (T : Tab) (K : Nat → Prop) (W : World) (E : Env) (σ : St) (A : Act) (o : Oper) (next : Act → World → Prop) (Q : Exit → Act → World → Prop) (r : SR) (s : Option St) : Prop :=
  match r with
  | .val a => ∀ v w' E', E.le E' → Sim T K W E' (s.getD σ) w' → Rel E' a v → next (A.put o.dst v) w'
  | .skip => ∀ w' E', E.le E' → Sim T K W E' (s.getD σ) w' → next (A.put o.dst undef) w'
  | .defer g args => ∀ d w' E', E.le E' → Sim T K W E' (s.getD σ) w' → DefRel E' g args d → next ({ A with defers := d :: A.defers }.put o.dst undef) w'
  | .pan a => ∀ v w' E', E.le E' → Sim T K W E' (s.getD σ) w' → Rel E' a v → Q (.panic [{ v, recovered := false }]) A w'

theorem wp_val {A : Act} {o : Oper} {next : Act → World → Prop} {Q : Exit → Act → World → Prop} {v : Value} {w' : World} (h : (execOp A.eval o).run P w = .ok (.value v) w') (k : next (A.put o.dst v) w') : o.wp P A w next Q := by
  unfold Oper.wp; rw [h]; exact k
theorem wp_skp {A : Act} {o : Oper} {next : Act → World → Prop} {Q : Exit → Act → World → Prop} {w' : World} (h : (execOp A.eval o).run P w = .ok .skip w') (k : next (A.put o.dst undef) w') : o.wp P A w next Q := by
  unfold Oper.wp; rw [h]; exact k

theorem run_val {s : Sem Value} {v : Value} {w' : World} (h : s.run P w = .ok v w') : (do pure (Next.value (← s)) : Sem Next).run P w = .ok (.value v) w' := by simp [h]
theorem run_skp {s : Sem Unit} {w' : World} (h : s.run P w = .ok () w') : (do s; pure Next.skip : Sem Next).run P w = .ok .skip w' := by simp [h]

theorem one_some {r : Option AV} {q : SR × Option St} (h : one r = some q) : ∃ a, r = some a ∧ q = (.val a, none) := by
  cases r with
  | none => cases h
  | some a => cases h; exact ⟨a, rfl, rfl⟩
theorem two_some {r : Option (AV × Option St)} {q : SR × Option St} (h : two r = some q) : ∃ a s, r = some (a, s) ∧ q = (.val a, s) := by
  cases r with
  | none => cases h
  | some p => cases h; exact ⟨p.1, p.2, rfl, rfl⟩
theorem three_some {r : Option (AV × St)} {q : SR × Option St} (h : three r = some q) : ∃ a s, r = some (a, s) ∧ q = (.val a, some s) := by
  cases r with
  | none => cases h
  | some p => cases h; exact ⟨p.1, p.2, rfl, rfl⟩
theorem skp_some {r : Option St} {q : SR × Option St} (h : skp r = some q) : ∃ s, r = some s ∧ q = (.skip, some s) := by
  cases r with
  | none => cases h
  | some s => cases h; exact ⟨s, rfl, rfl⟩

theorem Gives.wp {A : Act} {o : Oper} {next : Act → World → Prop} {Q : Exit → Act → World → Prop} {s : Sem Value} {r : AV} {σ' : Option St} (h : Gives T K W E σ P w s r σ') (he : execOp A.eval o = (do pure (Next.value (← s)) : Sem Next))
    (k : Cont T K W E σ A o next Q (.val r) σ') : o.wp P A w next Q := by
  obtain ⟨v, w', E', hrun, hl, S', hr⟩ := h
  exact wp_val (by rw [he]; exact run_val hrun) (k v w' E' hl S' hr)

/-- a call of a function that is known -/
theorem call_wp {C : Hand} (hC : HandOk T P C) (S : Sim T K W E σ w) {A : Act} {o : Oper} {next : Act → World → Prop} {Q : Exit → Act → World → Prop} {f : FuncId} {args : List AV} {vs : Array Value} {r : SR} {s : Option St}
    (h : called (C f args σ) = some (r, s)) (ha : RelL E args vs) (he : (execOp A.eval o).run P w = (callFunc f vs).run P w) (k : Cont T K W E σ A o next Q r s) : o.wp P A w next Q := by
  cases hc : C f args σ with
  | none => rw [hc] at h; cases h
  | some q =>
    obtain ⟨er, σ'⟩ := q
    rw [hc] at h
    have H := hC f args σ er σ' hc K W E w vs S ha
    unfold Oper.wp
    rw [he]
    rcases H with ⟨hrun, hcalls⟩ | ⟨v, w', hrun, hR⟩
    · rw [hrun]
      refine hcalls.mono ?_
      intro e w'' hR
      obtain ⟨E', hl, S', hm⟩ := hR
      cases er with
      | ret a =>
        cases h
        cases e with
        | returned v => exact k v w'' E' hl S' hm
        | panicked c => exact hm.elim
        | outgrown => exact hm.elim
      | pan a =>
        cases h
        cases e with
        | returned v => exact hm.elim
        | panicked c =>
          obtain ⟨v, rfl, hv⟩ := hm
          exact k v w'' E' hl S' hv
        | outgrown => exact hm.elim
    · rw [hrun]
      obtain ⟨E', hl, S', hm⟩ := hR
      cases er with
      | ret a => cases h; exact k v w' E' hl S' hm
      | pan a => exact hm.elim

theorem target_ok {g : AV} {gv : Value} {args args' : List AV} {vs : Array Value} {f : FuncId} (h : target g args = some (f, args')) (hg : Rel E g gv) (ha : RelL E args vs) :
    ∃ first cap, gv = .func (.func f) first cap ∧ RelL E args' (first ++ vs ++ cap) := by
  unfold target at h
  split at h
  · cases h
    cases hg with
    | func h1 h2 h3 h4 => exact ⟨_, _, rfl, relL_append (relL_append ⟨h1, h3⟩ ha) ⟨h2, h4⟩⟩
  · cases h

theorem builtinA_ok {C : Hand} (hT : TabOk T P) (hC : HandOk T P C) (S : Sim T K W E σ w) {A : Act} {o : Oper} {next : Act → World → Prop} {Q : Exit → Act → World → Prop} {b : Builtin} {ts : Array TypeId} {cs : Array Bool} {args : List AV} {vs : Array Value} {r : SR} {s : Option St}
    (h : builtinA T C σ b ts.toList o.type args = some (r, s)) (ha : RelL E args vs) (he : execOp A.eval o = builtin b ts o.type cs vs) (k : Cont T K W E σ A o next Q r s) : o.wp P A w next Q := by
  have hvs : ∀ {n : Nat}, args.length = n → vs.size = n := fun h => by rw [← ha.len, h]
  unfold builtinA at h
  split at h
  · rename_i t more x l hts
    obtain ⟨a, hl, e⟩ := one_some h
    cases e
    obtain ⟨vl, hvl⟩ := toList_cons ha.len
    obtain ⟨y, hy, ry⟩ := lenA_ok hT S (rt := o.type) (more := more) (ms := vl) hl (ha.at_ 0 x rfl)
    have e1 : ts = (t :: more).toArray := by rw [← hts]
    have e2 : vs = (gd vs 0 :: vl).toArray := by rw [← hvl]
    refine wp_val (v := y) (w' := w) ?_ (k y w E (Env.le.refl E) S ry)
    rw [he, e1]
    rw [← e2] at hy
    exact run_val hy
  · rename_i t more x l hts
    obtain ⟨a, hl, e⟩ := one_some h
    cases e
    obtain ⟨vl, hvl⟩ := toList_cons ha.len
    obtain ⟨y, hy, ry⟩ := capA_ok hT S (rt := o.type) (more := more) (ms := vl) hl (ha.at_ 0 x rfl)
    have e1 : ts = (t :: more).toArray := by rw [← hts]
    have e2 : vs = (gd vs 0 :: vl).toArray := by rw [← hvl]
    refine wp_val (v := y) (w' := w) ?_ (k y w E (Env.le.refl E) S ry)
    rw [he, e1]
    rw [← e2] at hy
    exact run_val hy
  · rename_i t tx s0 x hts
    obtain ⟨a, s1, hl, e⟩ := two_some h
    cases e
    have e1 : ts = #[t, tx] := by apply Array.ext'; rw [hts]
    have e2 : vs = #[gd vs 0, gd vs 1] := by
      have h2 := hvs (n := 2) rfl
      apply Array.ext
      · simp [h2]
      · intro i h1 h3
        match i, h3 with
        | 0, _ => simp [gd, Array.getD, h2]
        | 1, _ => simp [gd, Array.getD, h2]
    have G := appendA_ok hT S (rt := o.type) hl (ha.at_ 0 _ rfl) (ha.at_ 1 _ rfl)
    rw [← e2, ← e1] at G
    exact G.wp he k
  · rename_i t more d x hts
    obtain ⟨a, s1, hl, e⟩ := three_some h
    cases e
    have e1 : ts = (t :: more).toArray := by rw [← hts]
    have e2 : vs = #[gd vs 0, gd vs 1] := by
      have h2 := hvs (n := 2) rfl
      apply Array.ext
      · simp [h2]
      · intro i h1 h3
        match i, h3 with
        | 0, _ => simp [gd, Array.getD, h2]
        | 1, _ => simp [gd, Array.getD, h2]
    have G := copyA_ok hT S (more := more) (rt := o.type) hl (ha.at_ 0 _ rfl) (ha.at_ 1 _ rfl)
    rw [← e2, ← e1] at G
    exact G.wp he k
  · rename_i x l
    obtain ⟨a, hl, e⟩ := one_some h
    cases e
    obtain ⟨vl, hvl⟩ := toList_cons ha.len
    have hll : l.length = vl.length := by have := ha.len; rw [← Array.length_toList, hvl] at this; simpa using this
    obtain ⟨y, hy, ry⟩ := minA_ok (P := P) (E := E) (op := true) (w := w) (vs := vl) hl (ha.at_ 0 x rfl) (fun i a hi => by
      have := ha.at_ (i + 1) a (by simpa using hi)
      rw [← gd_toList, hvl] at this
      simpa using this) hll
    refine wp_val (v := y) (w' := w) ?_ (k y w E (Env.le.refl E) S ry)
    rw [he]
    refine run_val ?_
    unfold Builtin.max_
    rw [hvl]
    exact hy
  · rename_i x l
    obtain ⟨a, hl, e⟩ := one_some h
    cases e
    obtain ⟨vl, hvl⟩ := toList_cons ha.len
    have hll : l.length = vl.length := by have := ha.len; rw [← Array.length_toList, hvl] at this; simpa using this
    obtain ⟨y, hy, ry⟩ := minA_ok (P := P) (E := E) (op := false) (w := w) (vs := vl) hl (ha.at_ 0 x rfl) (fun i a hi => by
      have := ha.at_ (i + 1) a (by simpa using hi)
      rw [← gd_toList, hvl] at this
      simpa using this) hll
    refine wp_val (v := y) (w' := w) ?_ (k y w E (Env.le.refl E) S ry)
    rw [he]
    refine run_val ?_
    unfold Builtin.min_
    rw [hvl]
    exact hy
  · rename_i t v l
    cases h
    have h0 := ha.at_ 0 _ rfl
    unfold Oper.wp
    rw [he]
    have hv : vs.getD 0 .nilIface = gd vs 0 := by
      have : 0 < vs.size := by rw [← ha.len]; simp
      simp [gd, Array.getD, this]
    generalize hg : gd vs 0 = g at h0
    cases h0 with
    | @iface _ _ _ v' hr =>
      have : (builtin .panic ts o.type cs vs).run P w = .halt (.panic (.iface t v')) w := by
        simp only [builtin, hv, hg, Instr.panic]
        rfl
      rw [this]
      exact k _ w E (Env.le.refl E) S (.iface hr)
  · rename_i x
    have h0 := ha.at_ 0 _ rfl
    have e2 : vs = #[gd vs 0] := by
      have h2 := hvs (n := 1) rfl
      apply Array.ext
      · simp [h2]
      · intro i h1 h3
        match i, h3 with
        | 0, _ => simp [gd, Array.getD, h2]
    split at h
    · rename_i s0 g len
      split at h
      · rename_i k' c te m hg
        cases hb : Nat.beq k' g && Nat.blt 0 len with
        | false => rw [hb] at h; cases h
        | true =>
          rw [hb, cond_true] at h
          cases h
          rw [Bool.and_eq_true, nbeq_iff, blt_iff] at hb
          obtain ⟨rfl, hlen⟩ := hb
          obtain ⟨b, cap, cs', fz, hat, hK, hc⟩ := S.arr_at hg
          obtain ⟨e3, hle⟩ := rel_sown hat h0
          refine wp_val (v := .pointer (some ⟨b, 0, none⟩)) (w' := w) ?_ (k _ w E (Env.le.refl E) S (.aptr hc.pos hat))
          rw [he, e2, e3]
          refine run_val ?_
          change (if cap ≠ 0 then (pure (.pointer (some ⟨b, 0, none⟩)) : Sem Value) else _).run P w = _
          rw [if_pos (by omega)]
          rfl
      · cases h
    · cases h
      generalize hg : gd vs 0 = g at h0 e2
      cases h0
      refine wp_val (v := .pointer none) (w' := w) ?_ (k _ w E (Env.le.refl E) S .nilptr)
      rw [he, e2]
      rfl
    · cases h
  · rename_i t more p n hts
    have e1 : ts = (t :: more).toArray := by rw [← hts]
    have h0 := ha.at_ 0 _ rfl
    have h1 := ha.at_ 1 _ rfl
    have e2 : vs = #[gd vs 0, gd vs 1] := by
      have h2 := hvs (n := 2) rfl
      apply Array.ext
      · simp [h2]
      · intro i h1 h3
        match i, h3 with
        | 0, _ => simp [gd, Array.getD, h2]
        | 1, _ => simp [gd, Array.getD, h2]
    split at h
    · rename_i hn
      cases h
      obtain ⟨k1, hk1⟩ := natOf_ok hn h1
      generalize hg : gd vs 0 = g at h0 e2
      cases h0
      refine wp_val (v := .string .empty) (w' := w) ?_ (k _ w E (Env.le.refl E) S ?_)
      · rw [he, e2, hk1, e1]
        rfl
      · exact Rel.str
    · rename_i s0 g n hn
      obtain ⟨k1, hk1⟩ := natOf_ok hn h1
      split at h
      · rename_i k' c te m u hg hu
        cases hb : Nat.beq k' g && Nat.beq n c.length && Nat.blt 0 n && Nat.blt m 2 && Nat.beq te u && Nat.blt n room with
        | false => rw [hb] at h; cases h
        | true =>
          rw [hb, cond_true] at h
          rw [Bool.and_eq_true, Bool.and_eq_true, Bool.and_eq_true, Bool.and_eq_true, Bool.and_eq_true, nbeq_iff, nbeq_iff, blt_iff, blt_iff, nbeq_iff, blt_iff] at hb
          obtain ⟨⟨⟨⟨⟨rfl, hnl⟩, hpos⟩, hm⟩, rfl⟩, hroom⟩ := hb
          split at h
          · rename_i l hsz hbo
            cases h
            obtain ⟨b, cap, cs', fz, hat, hK, hc⟩ := S.arr_at hg
            have e3 := rel_aptr hat h0
            have hval : (cs'.toList.take n) = l.map fun x => Value.int .u8 (x.toNat : Int) := by
              refine bytesOf_ok (E := E) hbo ?_ ?_
              · have := hc.le; simp; omega
              · intro i a hi
                have hlt : i < n := by
                  rcases Nat.lt_or_ge i c.length with h' | h'
                  · omega
                  · rw [List.getElem?_eq_none h'] at hi; cases hi
                have := hc.rel i a hi
                rw [← gd_toList] at this
                rwa [List.getD_eq_getElem?_getD, List.getElem?_take, if_pos hlt, ← List.getD_eq_getElem?_getD]
            have hroom' : room = 1099511627776 := rfl
            have hcsz : n ≤ cs'.size := by have := hc.le; omega
            have hci : ∀ i (hi : i < n), cs'[i]? = (l[i]?).map fun x => Value.int .u8 (x.toNat : Int) := by
              intro i hi
              have := congrArg (fun q : List Value => q[i]?) hval
              simp only [List.getElem?_take, if_pos hi, List.getElem?_map, Array.getElem?_toList] at this
              exact this
            have hll : l.length = n := by have := congrArg List.length hval; simp at this; omega
            have hload : ∀ (k i : Nat) (acc : ByteArray), i + k = n → (loadBytes ⟨b, i, none⟩ acc k).run P w = .ok ⟨(acc.data.toList ++ l.drop i).toArray⟩ w := by
              intro k
              induction k with
              | zero =>
                intro i acc hik
                have : l.drop i = [] := List.drop_eq_nil_of_le (by omega)
                simp [loadBytes, this, str_eq]
              | succ k ih =>
                intro i acc hik
                have hi : i < l.length := by omega
                rw [loadBytes, Sem.run_bind, run_load_at hc.heap (by rw [hci i (by omega), List.getElem?_eq_getElem hi]; rfl), Result.andThen_ok]
                simp only [Addr.add_mk]
                rw [ih (i + 1) _ (by omega)]
                have : l.drop i = l[i] :: l.drop (i + 1) := List.drop_eq_getElem_cons hi
                rw [this]
                simp [ByteArray.push]
            have hco : P.cellsOf te = 1 := by
              obtain ⟨i, hi, hi2⟩ := hT.size te _ hsz
              simp [Program.cellsOf, hi, hi2]
            have hlies : liesAt P P.depth te (cs'.size / P.cellsOf te) 0 te n = true := by
              rw [hco, Nat.div_one]
              obtain ⟨d, hd⟩ : ∃ d, P.depth = d + 1 := ⟨2 * (P.types.size + Made.depth) + 1, rfl⟩
              have hrow : rowAt P (sameLayout P P.depth · te) P.depth te cs'.size 0 n = true := by
                rw [hd]
                simp only [rowAt, hco, sameLayout]
                simp [hcsz]
              rw [hd, liesAt, hrow]
              rfl
            have hva : (variablesAt ⟨b, 0, none⟩ te n).run P w = .ok true w := by
              unfold variablesAt
              simp [shape_of hc.heap, hlies]
            let fz' : Nat × Nat := if fz.1 == fz.2 then (0, n) else (min fz.1 0, max fz.2 n)
            have hfz : w.freeze ⟨b, 0, none⟩ n = setBlk w b (.cells cs' te fz') := by
              simp only [World.freeze]
              rw [if_neg (by omega)]
              simp only [setBlk]
              congr 1
              apply Array.ext_getElem?
              intro i
              rw [Array.getElem?_modify, Array.getElem?_setIfInBounds]
              by_cases e : b = i
              · subst e
                rw [if_pos rfl, if_pos rfl, hc.heap, if_pos (lt_of_some hc.heap)]
                simp only [Option.map_some, fz', Nat.zero_add]
              · rw [if_neg e, if_neg e]
            refine wp_val (v := .string ⟨l.toArray⟩) (w' := setBlk w b (.cells cs' te fz')) ?_ (k _ _ E (Env.le.refl E) ?_ .str)
            · rw [he, e2, e3, hk1, e1]
              refine run_val ?_
              change ((asInt (Value.int k1 (n : Int)) >>= _ : Sem Value)).run P w = _
              simp only [Sem.run_bind, asInt, asIntOf, Sem.run_pure, Result.andThen_ok, List.getElem?_toArray, List.getElem?_cons_zero]
              have hmax : IntKind.i64.max = 9223372036854775807 := by decide
              rw [if_neg (by omega), if_neg (by rw [hmax]; omega)]
              simp only [Sem.run_ite]
              rw [if_neg (by omega)]
              simp only [Sem.run_bind, elemOf, run_und hT hu, Result.andThen_ok, Sem.run_pure, Int.toNat_natCast, hva, if_true, Sem.run_ite]
              have := hload n 0 .empty (by omega)
              rw [this]
              simp only [Result.andThen_ok, run_freeze, hfz]
              simp
            · refine S.put hg hat rfl rfl rfl setBlk_size (fun j hj => setBlk_ne hj) (.inl (hc.own (by omega))) ⟨rfl, cs', fz', hc.pos, setBlk_self (lt_of_some hc.heap), hc.le, hc.room, hc.rel, hc.flat, fun e => (nomatch e), ?_, fun e => (nomatch e), fun _ => hc.own (by omega)⟩
              intro _
              simp only [fz']
              split
              · simp only; omega
              · rename_i hne
                rcases Nat.lt_or_ge m 1 with h0 | h0
                · have := hc.fr0 (by omega)
                  rw [this] at hne
                  simp at hne
                · have := hc.fr1 (by omega)
                  simp only; omega
          · cases h
      · cases h
    · cases h
  · cases h
end
end Go.Proofs.YtgklmecijeadlaaGreatDoor.Ab
