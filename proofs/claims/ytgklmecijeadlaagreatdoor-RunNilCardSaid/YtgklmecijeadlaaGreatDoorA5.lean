import Derived.Test.YtgklmecijeadlaaGreatDoorA4
set_option linter.unusedSimpArgs false
set_option linter.unusedVariables false
set_option linter.unusedSectionVars false
namespace Go.Proofs.YtgklmecijeadlaaGreatDoor.Ab

theorem lt_of_get {α : Type} {l : List α} {i : Nat} {a : α} (h : l[i]? = some a) : i < l.length := by
  rcases Nat.lt_or_ge i l.length with h' | h'
  · exact h'
  · rw [List.getElem?_eq_none h'] at h; cases h

theorem scEq_run {T : Tab} {P : Program} (hT : TabOk T P) {E : Env} {t : TypeId} {a b : AV} {va vb : Value} {r : Bool} {d : Nat} {w : World} (ha : scKind (T.und t) a = true) (hb : scKind (T.und t) b = true) (h : scEq a b = some r) (ra : Rel E a va) (rb : Rel E b vb) :
    (Op.equalIn (d + 1) t va vb).run P w = .ok r w ∧ T.agg t = some false := by
  unfold scKind at ha hb
  split at ha
  · rename_i hu
    cases b <;> rw [hu] at hb <;> simp at hb
    cases ra; cases rb
    simp only [scEq, Option.some.injEq] at h
    subst h
    exact ⟨run_equalIn_bool w d t _ _ (hT.und t _ hu), by unfold Tab.agg; rw [hu]⟩
  · rename_i hu
    cases b <;> rw [hu] at hb <;> simp at hb
    cases ra; cases rb
    simp only [scEq] at h
    split at h
    · rename_i hk; subst hk; cases h
      exact ⟨run_equalIn_int w d t _ _ _ _ (hT.und t _ hu), by unfold Tab.agg; rw [hu]⟩
    · cases h
  · rename_i hu
    cases b <;> rw [hu] at hb <;> simp at hb
    cases ra; cases rb
    simp only [scEq, Option.some.injEq] at h
    subst h
    refine ⟨?_, by unfold Tab.agg; rw [hu]⟩
    rw [run_equalIn_string w d t _ _ (hT.und t _ hu), ByteArray.toList_eq, ByteArray.toList_eq]
  · cases ha

theorem extract_get {cx : Array Value} {k n i : Nat} {v : Value} (hi : i < n) (h : cx[k + i]? = some v) : (cx.extract k (k + n))[i]? = some v := by
  rw [Array.getElem?_extract]
  have : k + i < cx.size := by
    rcases Nat.lt_or_ge (k + i) cx.size with h' | h'
    · exact h'
    · rw [Array.getElem?_eq_none h'] at h; cases h
  rw [if_pos (by omega)]
  exact h

theorem gd_some {cx : Array Value} {i : Nat} {v : Value} (h : cx[i]? = some v) : gd cx i = v := by
  have : cx[i]? = some (gd cx i) := gd_lt (by
    rcases Nat.lt_or_ge i cx.size with h' | h'
    · exact h'
    · rw [Array.getElem?_eq_none h'] at h; cases h)
  rw [h] at this
  cases this
  rfl

theorem eqFields_ok {T : Tab} {P : Program} (hT : TabOk T P) {E : Env} {w : World} : ∀ (d D : Nat) (fs : List Field) (k : Nat) {cx cy : Array Value} {x y : List AV} {r : Bool}, d ≤ D → offs T k fs = true → scEqs T d fs x y = some r →
    (∀ (i : Nat) (a : AV), x[i]? = some a → cx[k + i]? = some (gd cx (k + i)) ∧ Rel E a (gd cx (k + i))) → (∀ (i : Nat) (a : AV), y[i]? = some a → cy[k + i]? = some (gd cy (k + i)) ∧ Rel E a (gd cy (k + i))) → (Op.eqFields D cx cy fs).run P w = .ok r w := by
  intro d
  induction d with
  | zero => intro D fs k cx cy x y r _ _ h; simp [scEqs] at h
  | succ d ih =>
    intro D fs k cx cy x y r hD hf h hx hy
    cases fs with
    | nil =>
      simp only [scEqs] at h
      split at h
      · cases h; rfl
      · cases h
    | cons f fs =>
      simp only [scEqs] at h
      simp only [offs, Bool.and_eq_true] at hf
      obtain ⟨⟨n1, n2⟩, n3⟩ := hf
      have n1 : f.name ≠ "_" := by simpa using n1
      have n2 : f.offset = k := by simpa using n2
      split at h
      case h_2 => cases h
      rename_i n hn
      rw [hn] at n3
      simp only at n3
      split at h
      case h_2 => cases h
      rename_i p q hp hq
      cases h
      have hi := ih D fs (k + n) (by omega) n3 hq
        (fun i a h => by
          have := hx (n + i) a (by rw [List.getElem?_drop] at h; exact h)
          rw [← Nat.add_assoc] at this; exact this)
        (fun i a h => by
          have := hy (n + i) a (by rw [List.getElem?_drop] at h; exact h)
          rw [← Nat.add_assoc] at this; exact this)
      obtain ⟨D, rfl⟩ : ∃ D', D = D' + 1 := ⟨D - 1, by omega⟩
      simp only [Op.eqFields]
      rw [if_pos n1]
      have key : ∃ va vb, (part f.type cx f.offset).run P w = .ok va w ∧ (part f.type cy f.offset).run P w = .ok vb w ∧ (Op.equalIn (D + 1) f.type va vb).run P w = .ok p w := by
        split at hp
        · rename_i gs hu
          cases he : T.eqT f.type with
          | false => rw [he] at hp; cases hp
          | true =>
            rw [he] at hp
            simp only [cond_true] at hp
            have hag : T.agg f.type = some true := by unfold Tab.agg; rw [hu]
            obtain ⟨g1, g2, g3⟩ := hT.eqT _ _ he hu
            have hu' := hT.und _ _ hu
            have hS : P.underlying f.type = some (.struct (P.fieldsOf f.type)) := by unfold Program.fieldsOf; rw [hu']
            have hfs : ∀ gs, P.underlying f.type = some (.struct gs) → P.fieldsOf f.type = gs := by intro gs hgs; unfold Program.fieldsOf; rw [hgs]
            refine ⟨.agg (cx.extract f.offset (f.offset + n)), .agg (cy.extract f.offset (f.offset + n)), ?_, ?_, ?_⟩
            · unfold part; simp only [Sem.run_bind, run_agg hT hag, Result.andThen_ok, if_true, run_size hT hn]; rfl
            · unfold part; simp only [Sem.run_bind, run_agg hT hag, Result.andThen_ok, if_true, run_size hT hn]; rfl
            · rw [run_equalIn_agg w D _ _ _ hS g1, hfs _ hu']
              have sub : ∀ {c : Array Value} {l : List AV}, (∀ (i : Nat) (a : AV), l[i]? = some a → c[k + i]? = some (gd c (k + i)) ∧ Rel E a (gd c (k + i))) →
                  ∀ (i : Nat) (a : AV), (l.take n)[i]? = some a → (c.extract f.offset (f.offset + n))[0 + i]? = some (gd (c.extract f.offset (f.offset + n)) (0 + i)) ∧ Rel E a (gd (c.extract f.offset (f.offset + n)) (0 + i)) := by
                intro c l hl i a h
                rw [List.getElem?_take] at h
                split at h
                · rename_i hin
                  obtain ⟨c1, c2⟩ := hl i a h
                  rw [Nat.zero_add, n2]
                  have e := extract_get hin c1
                  rw [gd_some e]
                  exact ⟨e, c2⟩
                · cases h
              exact ih D gs.toList 0 (by omega) g3 hp (sub hx) (sub hy)
        · split at hp
          · rename_i a _ b _
            cases hk : scKind (T.und f.type) a && scKind (T.und f.type) b with
            | false => rw [hk] at hp; cases hp
            | true =>
              rw [hk] at hp
              simp only [cond_true] at hp
              rw [Bool.and_eq_true] at hk
              obtain ⟨ca, ra⟩ := hx 0 a rfl
              obtain ⟨cb, rb⟩ := hy 0 b rfl
              rw [Nat.add_zero] at ca ra cb rb
              obtain ⟨he, hag⟩ := scEq_run hT (d := D) (w := w) hk.1 hk.2 hp ra rb
              refine ⟨gd cx k, gd cy k, ?_, ?_, he⟩
              · unfold part; rw [n2]; simp only [Sem.run_bind, run_agg hT hag, Result.andThen_ok, Bool.false_eq_true, if_false, ca]; rfl
              · unfold part; rw [n2]; simp only [Sem.run_bind, run_agg hT hag, Result.andThen_ok, Bool.false_eq_true, if_false, cb]; rfl
          · cases hp
      obtain ⟨va, vb, p1, p2, p3⟩ := key
      simp only [Sem.run_bind, p1, p2, Result.andThen_ok]
      rw [p3]
      simp only [Result.andThen_ok]
      cases p with
      | false => simp
      | true => simp [hi]

/-! ### equality -/
section
variable {T : Tab} {P : Program} (hT : TabOk T P)

theorem same_block {P : Program} {w : World} {b o b' o' : Nat} (h : b = b') : (sameAddr ⟨b, o, none⟩ ⟨b', o', none⟩).run P w = .ok (decide (o = o')) w := by
  subst h
  unfold sameAddr
  simp
  by_cases e : o = o'
  · subst e; simp
  · have : ((⟨b, o, none⟩ : Addr) == ⟨b, o', none⟩) = false := by
      rw [Bool.eq_false_iff]; intro h; rw [beq_iff_eq] at h; cases h; exact e rfl
    simp [this, e]

theorem shape_of {w : World} {b : Nat} {cs : Array Value} {te : TypeId} {fz : Nat × Nat} (h : w.heap[b]? = some (.cells cs te fz)) : w.shape? b = some (te, cs.size) := by simp [World.shape?, h]

theorem frozen_no {w : World} {b o : Nat} {cs : Array Value} {te : TypeId} (h : w.heap[b]? = some (.cells cs te (0, 0))) : w.frozen? ⟨b, o, none⟩ = false := by
  simp [World.frozen?, h]

theorem other_block {P : Program} {w : World} {b o b' o' : Nat} {cs cs' : Array Value} {te te' : TypeId} (hne : b ≠ b') (h : w.heap[b]? = some (.cells cs te (0, 0))) (h' : w.heap[b']? = some (.cells cs' te' (0, 0))) :
    (sameAddr ⟨b, o, none⟩ ⟨b', o', none⟩).run P w = .ok false w := by
  have e : ((b : Nat) == b') = false := by simpa using hne
  unfold sameAddr mayBeOne stringish noView viewAt
  simp [e, frozen_no h, frozen_no h', shape_of h, shape_of h']

theorem eqGuard_no {P : Program} {w : World} {op : BinOp} {t : TypeId} {x y : Operand} {va vb : Value} (h : ¬ (va = .nilIface ∧ vb = .nilIface)) (h' : ∀ c d, ¬ (va = .agg c ∧ vb = .agg d)) : (eqGuard op t x y va vb).run P w = .ok () w := by
  cases op <;> first
    | rfl
    | (cases va <;> cases vb <;> first
      | rfl
      | exact absurd ⟨rfl, rfl⟩ h
      | exact absurd ⟨rfl, rfl⟩ (h' _ _))

include hT in
theorem eqA_ok {K W E σ w} (S : Sim T K W E σ w) {op : BinOp} (hop : op = .eql ∨ op = .neq) {t : TypeId} {x y : Operand} {a b : AV} {va vb : Value} {r : Bool} (h : eqA T σ t (isConst x) (isConst y) a b = some r) (ha : Rel E a va) (hb : Rel E b vb) :
    (do eqGuard op t x y va vb; Op.equal t va vb : Sem Bool).run P w = .ok r w := by
  unfold eqA at h
  split at h
  case h_1 hu => cases ha; cases hb; cases h; rw [Sem.run_bind, eqGuard_no (by simp) (by simp), Result.andThen_ok]; unfold Op.equal Op.maxDepth; rw [show (10000 : Nat) = 9999 + 1 from rfl, Op.equalIn, Sem.run_bind, run_und hT hu, Result.andThen_ok]; rfl
  case h_2 hu => cases ha; cases hb; cases h; rw [Sem.run_bind, eqGuard_no (by simp) (by simp), Result.andThen_ok]; unfold Op.equal Op.maxDepth; rw [show (10000 : Nat) = 9999 + 1 from rfl, Op.equalIn, Sem.run_bind, run_und hT hu, Result.andThen_ok]; rfl
  case h_3 hu => cases ha; cases hb; cases h; rw [Sem.run_bind, eqGuard_no (by simp) (by simp), Result.andThen_ok]; unfold Op.equal Op.maxDepth; rw [show (10000 : Nat) = 9999 + 1 from rfl, Op.equalIn, Sem.run_bind, run_und hT hu, Result.andThen_ok]; rfl
  case h_4 hu => cases ha; cases hb; cases h; rw [Sem.run_bind, eqGuard_no (by simp) (by simp), Result.andThen_ok]; unfold Op.equal Op.maxDepth; rw [show (10000 : Nat) = 9999 + 1 from rfl, Op.equalIn, Sem.run_bind, run_und hT hu, Result.andThen_ok]; rfl
  case h_5 hu =>
    split at h
    · rename_i hg
      cases h
      obtain ⟨b', cs, hat, _, hc⟩ := S.cells_at hg
      have := rel_ptr S hg hat hb
      subst this
      cases ha
      rw [Sem.run_bind, eqGuard_no (by simp) (by simp), Result.andThen_ok]; unfold Op.equal Op.maxDepth; rw [show (10000 : Nat) = 9999 + 1 from rfl, Op.equalIn, Sem.run_bind, run_und hT hu, Result.andThen_ok]; rfl
    · cases h
  case h_6 hu =>
    split at h
    · rename_i hg
      cases h
      obtain ⟨b', cs, hat, _, hc⟩ := S.cells_at hg
      have := rel_ptr S hg hat ha
      subst this
      cases hb
      rw [Sem.run_bind, eqGuard_no (by simp) (by simp), Result.andThen_ok]; unfold Op.equal Op.maxDepth; rw [show (10000 : Nat) = 9999 + 1 from rfl, Op.equalIn, Sem.run_bind, run_und hT hu, Result.andThen_ok]; rfl
    · cases h
  case h_7 hu =>
    rename_i el s o s' o'
    split at h
    · rename_i n c te m c' te' m' hz hg hg'
      cases h
      obtain ⟨b1, cs, hat, _, hc⟩ := S.cells_at hg
      obtain ⟨b2, cs', hat', _, hc'⟩ := S.cells_at hg'
      have := rel_ptr S hg hat ha
      subst this
      have := rel_ptr S hg' hat' hb
      subst this
      have hrun : (sameAddr ⟨b1, o, none⟩ ⟨b2, o', none⟩).run P w = .ok (Nat.beq s s' && Nat.beq o o') w := by
        rw [nbeq, nbeq]
        by_cases e : s = s'
        · subst e
          rw [hat] at hat'; cases hat'
          rw [same_block rfl]; simp
        · have hne : b1 ≠ b2 := fun he => e (S.inj _ _ _ _ _ _ _ hat (he ▸ hat'))
          rw [other_block hne hc.heap hc'.heap]; simp [e]
      have hz' : (sizeOf _).run P w = .ok (n + 1) w := run_size hT hz
      rw [Sem.run_bind, eqGuard_no (by simp) (by simp), Result.andThen_ok]; unfold Op.equal Op.maxDepth; rw [show (10000 : Nat) = 9999 + 1 from rfl, Op.equalIn, Sem.run_bind, run_und hT hu, Result.andThen_ok]
      simp only [Sem.run_bind, hz', Result.andThen_ok]
      rw [if_pos (by simp)]
      exact hrun
    · cases h
  case h_8 hu => cases ha; cases hb; cases h; rw [Sem.run_bind, eqGuard_no (by simp) (by simp), Result.andThen_ok]; unfold Op.equal Op.maxDepth; rw [show (10000 : Nat) = 9999 + 1 from rfl, Op.equalIn, Sem.run_bind, run_und hT hu, Result.andThen_ok]; rfl
  case h_9 hu => cases hb; cases h; cases ha <;> (rw [Sem.run_bind, eqGuard_no (by simp) (by simp), Result.andThen_ok]; unfold Op.equal Op.maxDepth; rw [show (10000 : Nat) = 9999 + 1 from rfl, Op.equalIn, Sem.run_bind, run_und hT hu, Result.andThen_ok]; rfl)
  case h_10 hu => cases ha; cases h; cases hb <;> (rw [Sem.run_bind, eqGuard_no (by simp) (by simp), Result.andThen_ok]; unfold Op.equal Op.maxDepth; rw [show (10000 : Nat) = 9999 + 1 from rfl, Op.equalIn, Sem.run_bind, run_und hT hu, Result.andThen_ok]; rfl)
  case h_11 hu =>
    split at h
    · rename_i hg
      rw [nbeq] at h
      rename_i s g l hs k c te m
      by_cases e : k = g
      · subst e
        simp at h; subst h
        obtain ⟨b1, cap, cs, fz, hat, _, hc⟩ := S.arr_at hg
        obtain ⟨rfl, _⟩ := rel_sown hat ha
        cases hb
        rw [Sem.run_bind, eqGuard_no (by simp) (by simp), Result.andThen_ok]; unfold Op.equal Op.maxDepth; rw [show (10000 : Nat) = 9999 + 1 from rfl, Op.equalIn, Sem.run_bind, run_und hT hu, Result.andThen_ok]; rfl
      · simp [e] at h
    · cases h
  case h_12 hu =>
    split at h
    · rename_i hg
      rw [nbeq] at h
      rename_i s g l hs k c te m
      by_cases e : k = g
      · subst e
        simp at h; subst h
        obtain ⟨b1, cap, cs, fz, hat, _, hc⟩ := S.arr_at hg
        obtain ⟨rfl, _⟩ := rel_sown hat hb
        cases ha
        rw [Sem.run_bind, eqGuard_no (by simp) (by simp), Result.andThen_ok]; unfold Op.equal Op.maxDepth; rw [show (10000 : Nat) = 9999 + 1 from rfl, Op.equalIn, Sem.run_bind, run_und hT hu, Result.andThen_ok]; rfl
      · simp [e] at h
    · cases h
  case h_13 hu =>
    cases hc : isConst x || isConst y with
    | false => rw [hc] at h; cases h
    | true =>
      rw [hc] at h; cases h
      cases ha; cases hb
      have hg0 : (eqGuard op t x y .nilIface .nilIface).run P w = .ok () w := by
        cases x <;> cases y <;> first
          | (simp [isConst] at hc; done)
          | (rcases hop with rfl | rfl <;> rfl)
      rw [Sem.run_bind, hg0, Result.andThen_ok]
      unfold Op.equal Op.maxDepth; rw [show (10000 : Nat) = 9999 + 1 from rfl, Op.equalIn, Sem.run_bind, run_und hT hu, Result.andThen_ok]; rfl
  case h_14 hu => cases ha; cases hb; cases h; rw [Sem.run_bind, eqGuard_no (by simp) (by simp), Result.andThen_ok]; unfold Op.equal Op.maxDepth; rw [show (10000 : Nat) = 9999 + 1 from rfl, Op.equalIn, Sem.run_bind, run_und hT hu, Result.andThen_ok]; rfl
  case h_15 hu => cases ha; cases hb; cases h; rw [Sem.run_bind, eqGuard_no (by simp) (by simp), Result.andThen_ok]; unfold Op.equal Op.maxDepth; rw [show (10000 : Nat) = 9999 + 1 from rfl, Op.equalIn, Sem.run_bind, run_und hT hu, Result.andThen_ok]; rfl
  case h_16 hu =>
    split at h
    · cases h
    · rename_i hne
      cases h
      cases ha; cases hb
      rw [Sem.run_bind, eqGuard_no (by simp) (by simp), Result.andThen_ok]; unfold Op.equal Op.maxDepth; rw [show (10000 : Nat) = 9999 + 1 from rfl, Op.equalIn, Sem.run_bind, run_und hT hu, Result.andThen_ok]; simp only [ne_eq]; rw [if_pos hne]; rfl
  case h_17 hu => cases ha; cases hb; cases h; rw [Sem.run_bind, eqGuard_no (by simp) (by simp), Result.andThen_ok]; unfold Op.equal Op.maxDepth; rw [show (10000 : Nat) = 9999 + 1 from rfl, Op.equalIn, Sem.run_bind, run_und hT hu, Result.andThen_ok]; rfl
  case h_18 hu => cases ha; cases hb; cases h; rw [Sem.run_bind, eqGuard_no (by simp) (by simp), Result.andThen_ok]; unfold Op.equal Op.maxDepth; rw [show (10000 : Nat) = 9999 + 1 from rfl, Op.equalIn, Sem.run_bind, run_und hT hu, Result.andThen_ok]; rfl
  case h_19 hu => cases ha; cases hb; cases h; rw [Sem.run_bind, eqGuard_no (by simp) (by simp), Result.andThen_ok]; unfold Op.equal Op.maxDepth; rw [show (10000 : Nat) = 9999 + 1 from rfl, Op.equalIn, Sem.run_bind, run_und hT hu, Result.andThen_ok]; rfl
  case h_20 hu =>
    cases he : T.eqT t with
    | false => rw [he] at h; cases h
    | true =>
      rw [he] at h
      simp only [cond_true] at h
      cases ha with
      | agg h1 h2 h3 =>
        cases hb with
        | agg g1 g2 g3 =>
          obtain ⟨hp, hg, hf⟩ := hT.eqT t _ he hu
          have hu' := hT.und t _ hu
          have hS : P.underlying t = some (.struct (P.fieldsOf t)) := by unfold Program.fieldsOf; rw [hu']
          have hfs : ∀ gs, P.underlying t = some (.struct gs) → P.fieldsOf t = gs := by intro gs hgs; unfold Program.fieldsOf; rw [hgs]
          rw [Sem.run_bind, run_eqGuard_agg w op t x y _ _ hg, Result.andThen_ok]
          unfold Op.equal Op.maxDepth
          rw [show (10000 : Nat) = 9999 + 1 from rfl, run_equalIn_agg w 9999 t _ _ hS hp, hfs _ hu']
          exact eqFields_ok hT 100 9999 _ 0 (by omega) hf h (fun i a hi => by rw [Nat.zero_add]; exact ⟨gd_lt (by rw [← h1]; exact lt_of_get hi), h3 i a hi⟩) (fun i a hi => by rw [Nat.zero_add]; exact ⟨gd_lt (by rw [← g1]; exact lt_of_get hi), g3 i a hi⟩)
  case h_21 => cases h

theorem binOp_eql {t : TypeId} {va vb : Value} (h1 : ∀ k x k' y, ¬ (va = .int k x ∧ vb = .int k' y)) (h2 : ∀ x y, ¬ (va = .string x ∧ vb = .string y)) (h3 : ∀ k x k' y, ¬ (va = .float k x ∧ vb = .float k' y)) (h4 : ∀ k x y k' z u, ¬ (va = .complex k x y ∧ vb = .complex k' z u)) :
    binOp .eql t va vb = (do pure (.bool (← Op.equal t va vb)) : Sem Value) ∧ binOp .neq t va vb = (do pure (.bool (!(← Op.equal t va vb))) : Sem Value) := by
  cases va <;> cases vb <;> first
    | exact ⟨rfl, rfl⟩
    | exact absurd ⟨rfl, rfl⟩ (h1 _ _ _ _)
    | exact absurd ⟨rfl, rfl⟩ (h2 _ _)
    | exact absurd ⟨rfl, rfl⟩ (h3 _ _ _ _)
    | exact absurd ⟨rfl, rfl⟩ (h4 _ _ _ _ _ _)

theorem eqA_kinds {T : Tab} {σ : St} {t : TypeId} {xc yc : Bool} {a b : AV} {r : Bool} {E : Env} {va vb : Value} (h : eqA T σ t xc yc a b = some r) (ha : Rel E a va) (hb : Rel E b vb) :
    (∀ k x k' y, ¬ (va = .int k x ∧ vb = .int k' y)) ∧ (∀ x y, ¬ (va = .string x ∧ vb = .string y)) ∧ (∀ k x k' y, ¬ (va = .float k x ∧ vb = .float k' y)) ∧ (∀ k x y k' z u, ¬ (va = .complex k x y ∧ vb = .complex k' z u)) := by
  unfold eqA at h
  split at h <;> first
    | (cases h; done)
    | (cases ha <;> refine ⟨?_, ?_, ?_, ?_⟩ <;> (intros; rintro ⟨h1, h2⟩; cases h1))

include hT in
theorem binA_ok {K W E σ w} (S : Sim T K W E σ w) {op : BinOp} {t : TypeId} {x y : Operand} {a b r : AV} {va vb : Value} (h : binA T σ op t (isConst x) (isConst y) a b = some r) (ha : Rel E a va) (hb : Rel E b vb) :
    ∃ v, (do eqGuard op t x y va vb; binOp op t va vb : Sem Value).run P w = .ok v w ∧ Rel E r v := by
  have hgen : ∀ {r : AV} (f : Bool → AV), (op = .eql ∧ f = AV.bool) ∨ (op = .neq ∧ f = fun r => AV.bool !r) → (eqA T σ t (isConst x) (isConst y) a b).map f = some r →
      ∃ v, (do eqGuard op t x y va vb; binOp op t va vb : Sem Value).run P w = .ok v w ∧ Rel E r v := by
    intro r f hop h
    cases he : eqA T σ t (isConst x) (isConst y) a b with
    | none => rw [he] at h; cases h
    | some q =>
      rw [he] at h
      have hrun := eqA_ok hT S (hop.elim (fun h => .inl h.1) (fun h => .inr h.1)) he ha hb
      obtain ⟨k1, k2, k3, k4⟩ := eqA_kinds he ha hb
      have hbo := binOp_eql (t := t) k1 k2 k3 k4
      rcases hop with ⟨rfl, rfl⟩ | ⟨rfl, rfl⟩
      · cases h
        refine ⟨.bool q, ?_, .bool⟩
        rw [hbo.1, ← bind_assoc, Sem.run_bind, hrun]
        rfl
      · cases h
        refine ⟨.bool !q, ?_, .bool⟩
        rw [hbo.2, ← bind_assoc, Sem.run_bind, hrun]
        rfl
  unfold binA at h
  split at h
  · rename_i k x' k' y'
    clear hgen
    cases ha; cases hb
    rw [Sem.run_bind, eqGuard_no (by simp) (by simp), Result.andThen_ok]
    split at h
    · exact shiftOp_ok h
    · exact shiftOp_ok h
    · split at h
      · rename_i hk; subst hk
        exact intOp_ok h
      · cases h
  · cases ha; cases hb
    rw [Sem.run_bind, eqGuard_no (by simp) (by simp), Result.andThen_ok]
    exact strOp_ok h
  · split at h
    · exact hgen _ (.inl ⟨rfl, rfl⟩) h
    · exact hgen _ (.inr ⟨rfl, rfl⟩) h
    · cases h
end
end Go.Proofs.YtgklmecijeadlaaGreatDoor.Ab
