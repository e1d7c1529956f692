import Derived.Test.YtgklmecijeadlaaGreatDoorA11
set_option linter.unusedSimpArgs false
set_option linter.unusedVariables false
set_option linter.unusedSectionVars false
namespace Go.Proofs.YtgklmecijeadlaaGreatDoor.Ab

/-! ### xs[lo:hi:mx] -/
def RelO (E : Env) : Option AV → Option Value → Prop
  | none, none => True
  | some a, some v => Rel E a v
  | _, _ => False

theorem natOr_ok {E : Env} {d n : Nat} {o : Option AV} {v : Option Value} (h : natOr d o = some n) (hr : RelO E o v) : (o = none ∧ v = none ∧ n = d) ∨ ∃ k, o.isSome = true ∧ v = some (.int k n) := by
  cases o with
  | none => cases v with
    | none => simp only [natOr, Option.some.injEq] at h; exact .inl ⟨rfl, rfl, h.symm⟩
    | some v => exact hr.elim
  | some a => cases v with
    | none => exact hr.elim
    | some v =>
      obtain ⟨k, rfl⟩ := natOf_ok (n := n) h hr
      exact .inr ⟨k, rfl, rfl⟩

theorem run_bound {P : Program} {w : World} {k : IntKind} {n y : Nat} {code : BoundsCode} (h : n ≤ y) : (Instr.sliceBound (.int k n) y code).run P w = .ok n w := by
  unfold Instr.sliceBound
  simp only [Sem.run_bind, asIntOf, Sem.run_pure, Result.andThen_ok]
  rw [Sem.run_ite, if_pos (by omega)]
  simp

/-- the bounds, all well -/
theorem run_bounds {P : Program} {E : Env} {w : World} {isSl : Bool} {len cap l h m : Nat} {lo hi mx : Option AV} {lv hv mv : Option Value} (hl : natOr 0 lo = some l) (hh : natOr len hi = some h) (hm : natOr cap mx = some m)
    (rl : RelO E lo lv) (rh : RelO E hi hv) (rm : RelO E mx mv) (h1 : l ≤ h) (h2 : h ≤ m) (h3 : m ≤ cap) (hx : mx.isNone = true ∨ hi.isSome = true) : (Instr.sliceBounds isSl len cap lv hv mv).run P w = .ok (l, h, m) w := by
  unfold Instr.sliceBounds
  rcases natOr_ok hm rm with ⟨rfl, rfl, rfl⟩ | ⟨k, hms, rfl⟩
  · rcases natOr_ok hh rh with ⟨rfl, rfl, rfl⟩ | ⟨k2, hhs, rfl⟩
    · rcases natOr_ok hl rl with ⟨rfl, rfl, rfl⟩ | ⟨k3, hls, rfl⟩
      · simp
      · simp [run_bound h1]
    · rcases natOr_ok hl rl with ⟨rfl, rfl, rfl⟩ | ⟨k3, hls, rfl⟩
      · simp [run_bound h2]
      · simp [run_bound h2, run_bound h1]
  · have hne : mx.isNone = false := by cases mx <;> simp at hms ⊢
    rcases natOr_ok hh rh with ⟨rfl, rfl, rfl⟩ | ⟨k2, hhs, rfl⟩
    · rcases hx with hx | hx
      · rw [hne] at hx; cases hx
      · cases hx
    · rcases natOr_ok hl rl with ⟨rfl, rfl, rfl⟩ | ⟨k3, hls, rfl⟩
      · simp [run_bound h3, run_bound h2]
      · simp [run_bound h3, run_bound h2, run_bound h1]

/-- a part of an immutable list -/
theorem rel_part {E : Env} {rows : List (List AV)} {tight tight' : Bool} {b o cap l h m sz : Nat} (hr : Rel E (.slist rows tight) (.slice (some ⟨b, o, none⟩) rows.length cap)) (hall : ∀ row, row ∈ rows → row.length = sz)
    (h1 : l ≤ h) (h2 : h ≤ rows.length) (h3 : h ≤ m) (h4 : m ≤ cap) (ht : tight' = true → m = h) :
    Rel E (.slist ((rows.take h).drop l) tight') (.slice (some (if m = l then ⟨b, o, none⟩ else (Addr.mk b o none).add (l * sz))) (h - l) (m - l)) := by
  have hlen : ((rows.take h).drop l).length = h - l := by simp; omega
  by_cases h0 : h - l = 0
  · have : (rows.take h).drop l = [] := List.length_eq_zero_iff.1 (by rw [hlen]; exact h0)
    rw [this, h0]
    exact .slist0 (fun e => by have := ht e; omega)
  · rw [if_neg (by omega), Addr.add_mk]
    cases hr with
    | slist0 => simp at h2; omega
    | @slist _ _ _ _ _ sz' _ cs te hH g1 g2 g3 g4 g5 g6 =>
      have hne : rows ≠ [] := by rintro rfl; simp at h2; omega
      obtain ⟨r0, hr0⟩ := List.exists_mem_of_ne_nil rows hne
      have hszz : sz' = sz := by rw [← g3 r0 hr0, hall r0 hr0]
      subst hszz
      have hmul : h * sz' ≤ rows.length * sz' := Nat.mul_le_mul_right sz' h2
      have hsub : (h - l) * sz' = h * sz' - l * sz' := Nat.sub_mul _ _ _
      have hlh : l * sz' ≤ h * sz' := Nat.mul_le_mul_right sz' h1
      have hget : ∀ i row, ((rows.take h).drop l)[i]? = some row → rows[l + i]? = some row := by
        intro i row hi
        rw [List.getElem?_drop, List.getElem?_take] at hi
        split at hi
        · exact hi
        · cases hi
      have := Rel.slist (E := E) (rows := (rows.take h).drop l) (tight := tight') (b := b) (o := o + l * sz') (sz := sz') (cap := m - l) (c := cs) (te := te) hH (by rw [hlen]; omega) (fun e => by rw [hlen, ht e])
        (fun row hrow => g3 row (List.mem_of_mem_take (List.mem_of_mem_drop hrow))) (by rw [hlen, hsub]; omega) ?_ ?_
      · rwa [hlen] at this
      · intro i j hi hj
        rw [hlen] at hi
        have := g5 (l + i) j (by omega) hj
        rw [Nat.add_mul] at this
        rw [show o + l * sz' + i * sz' + j = o + (l * sz' + i * sz') + j by omega]
        exact this
      · intro i row j a hi hj
        have := g6 (l + i) row j a (hget i row hi) hj
        rw [Nat.add_mul] at this
        rw [show o + l * sz' + i * sz' + j = o + (l * sz' + i * sz') + j by omega]
        exact this

theorem rel_slist_addr {E : Env} {rows : List (List AV)} {tight : Bool} {v : Value} (hr : Rel E (.slist rows tight) v) : ∃ a cap, v = .slice (some a) rows.length cap ∧ rows.length ≤ cap ∧ (tight = true → cap = rows.length) ∧ (rows ≠ [] → a.spot = none) := by
  cases hr with
  | slist0 ht => exact ⟨_, _, rfl, Nat.zero_le _, ht, fun h => absurd rfl h⟩
  | slist h1 h2 h3 h4 h5 h6 h7 => exact ⟨_, _, rfl, h2, h3, fun _ => rfl⟩

/-- what the bounds give of a list -/
theorem sliceRows_ok {P : Program} {E : Env} {w : World} {rows : List (List AV)} {tight : Bool} {sz : Nat} {lo hi mx : Option AV} {lv hv mv : Option Value} {r : AV} {a : Addr} {cap : Nat}
    (h : sliceRows sz rows tight lo hi mx = some r) (hr : Rel E (.slist rows tight) (.slice (some a) rows.length cap)) (rl : RelO E lo lv) (rh : RelO E hi hv) (rm : RelO E mx mv) (hx : mx.isNone = true ∨ hi.isSome = true) :
    ∃ l h m, (Instr.sliceBounds true rows.length cap lv hv mv).run P w = .ok (l, h, m) w ∧ Rel E r (.slice (some (if m = l then a else a.add (l * sz))) (h - l) (m - l)) ∧ l ≤ h ∧ h ≤ m ∧ m ≤ cap ∧ ((Instr.sliceBounds false rows.length cap lv hv mv).run P w = .ok (l, h, m) w) := by
  unfold sliceRows at h
  split at h
  · rename_i l h' hl hh
    cases hb : Nat.ble l h' && Nat.ble h' rows.length && rows.all (fun r => Nat.beq r.length sz) with
    | false => rw [hb] at h; cases h
    | true =>
      rw [hb, cond_true] at h
      rw [Bool.and_eq_true, Bool.and_eq_true, nble_iff, nble_iff, List.all_eq_true] at hb
      obtain ⟨⟨h1, h2⟩, hall⟩ := hb
      have hall' : ∀ row, row ∈ rows → row.length = sz := fun row hrow => nbeq_iff.1 (hall row hrow)
      obtain ⟨a', cap', e, hcap, hti, hsp⟩ := rel_slist_addr hr
      simp only [Value.slice.injEq, Option.some.injEq, true_and] at e
      obtain ⟨rfl, rfl⟩ := e
      have fin : ∀ (m : Nat) (t' : Bool), h' ≤ m → m ≤ cap → (t' = true → m = h') → Rel E (.slist ((rows.take h').drop l) t') (.slice (some (if m = l then a else a.add (l * sz))) (h' - l) (m - l)) := by
        intro m t' g1 g2 g3
        by_cases he : rows = []
        · subst he
          simp at h2
          simp only [List.take_nil, List.drop_nil, show h' - l = 0 by omega]
          exact .slist0 (fun e => by have := g3 e; omega)
        · have := hsp he
          obtain ⟨b, o, s⟩ := a
          simp only at this
          subst this
          exact rel_part hr hall' h1 h2 g1 g2 g3
      split at h
      · cases h
        have hb := run_bounds (P := P) (w := w) (isSl := true) (len := rows.length) (cap := cap) hl hh (mx := none) (m := cap) rfl rl rh rm h1 (by omega) (Nat.le_refl _) (.inl rfl)
        have hb' := run_bounds (P := P) (w := w) (isSl := false) (len := rows.length) (cap := cap) hl hh (mx := none) (m := cap) rfl rl rh rm h1 (by omega) (Nat.le_refl _) (.inl rfl)
        refine ⟨l, h', cap, hb, fin cap _ (by omega) (Nat.le_refl _) ?_, h1, by omega, Nat.le_refl _, hb'⟩
        intro e
        rw [Bool.and_eq_true, nbeq_iff] at e
        rw [hti e.1, e.2]
      · rename_i m0
        cases hm : natOf m0 with
        | none => rw [hm] at h; cases h
        | some m =>
          rw [hm] at h
          simp only at h
          cases hb2 : Nat.ble h' m && Nat.ble m rows.length with
          | false => rw [hb2] at h; cases h
          | true =>
            rw [hb2, cond_true] at h
            cases h
            rw [Bool.and_eq_true, nble_iff, nble_iff] at hb2
            obtain ⟨h3, h4⟩ := hb2
            have hb := run_bounds (P := P) (w := w) (isSl := true) (len := rows.length) (cap := cap) hl hh (mx := some m0) (m := m) hm rl rh rm h1 h3 (by omega) hx
            have hb' := run_bounds (P := P) (w := w) (isSl := false) (len := rows.length) (cap := cap) hl hh (mx := some m0) (m := m) hm rl rh rm h1 h3 (by omega) hx
            exact ⟨l, h', m, hb, fin m _ h3 (by omega) (fun e => (nbeq_iff.1 e).symm), h1, h3, by omega, hb'⟩
  · cases h

theorem isZero_ok {E : Env} {o : Option AV} {v : Option Value} (h : isZero o = true) (hr : RelO E o v) : ∃ k, v = some (.int k 0) ∧ ∀ d, natOr d o = some 0 := by
  cases o with
  | none => simp [isZero] at h
  | some a =>
    cases a <;> simp only [isZero, Bool.false_eq_true, decide_eq_true_eq] at h
    subst h
    cases v with
    | none => exact hr.elim
    | some v => cases hr; exact ⟨_, rfl, fun d => by simp [natOr, natOf]⟩

theorem lo_zero {lo : Option AV} (h : (lo.isNone || isZero lo) = true) : natOr 0 lo = some 0 := by
  cases lo with
  | none => rfl
  | some a => cases a <;> simp [isZero] at h; subst h; rfl

theorem RelO.mono {E E' : Env} {o : Option AV} {v : Option Value} (h : RelO E o v) (hl : E.le E') : RelO E' o v := by
  cases o <;> cases v <;> first
    | exact h
    | exact Rel.mono h hl

section
variable {T : Tab} {P : Program} (hT : TabOk T P) {K : Nat → Prop} {W : World} {E : Env} {σ : St} {w : World} (S : Sim T K W E σ w)
include hT S

theorem sliceA_ok {t : TypeId} {x r : AV} {lo hi mx : Option AV} {v : Value} {lv hv mv : Option Value} {σ' : Option St} (h : sliceA T σ t x lo hi mx = some (r, σ')) (hr : Rel E x v) (rl : RelO E lo lv) (rh : RelO E hi hv) (rm : RelO E mx mv) :
    Gives T K W E σ P w (Instr.sliceAt t v lv hv mv) r σ' := by
  unfold sliceA at h
  split at h
  · rename_i s hu
    cases hr
    split at h
    · rename_i l h' hl hh
      cases hb : Nat.ble l h' && Nat.ble h' s.length with
      | false => rw [hb] at h; cases h
      | true =>
        rw [hb, cond_true] at h
        cases h
        rw [Bool.and_eq_true, nble_iff, nble_iff] at hb
        obtain ⟨h1, h2⟩ := hb
        have hsize : (⟨s.toArray⟩ : ByteArray).size = s.length := by simp [ByteArray.size]
        have hmv : mv = none := by cases mv with | none => rfl | some _ => exact rm.elim
        subst hmv
        have hbd := run_bounds (P := P) (w := w) (isSl := false) (len := s.length) (cap := s.length) hl hh (mx := none) (m := s.length) rfl rl rh (mv := none) trivial h1 h2 (Nat.le_refl _) (.inl rfl)
        refine Gives.silent S (v := .string ((⟨s.toArray⟩ : ByteArray).extract l h')) ?_ ?_
        · unfold Instr.sliceAt Instr.slice
          simp only [Sem.run_bind, run_und hT hu, Result.andThen_ok, Option.isSome_none, Bool.false_eq_true, if_false, Sem.run_ite, hsize, hbd, Sem.run_pure]
        · have : (⟨s.toArray⟩ : ByteArray).extract l h' = ⟨((s.take h').drop l).toArray⟩ := by
            apply ByteArray.ext
            simp [ByteArray.data_extract, List.extract, List.drop_take]
          rw [this]; exact .str
    · cases h
  · rename_i e hu
    cases hr
    split at h
    · rename_i sz hl hh hm hsz
      cases hb : mx.isNone || hi.isSome with
      | false => rw [hb] at h; cases h
      | true =>
        rw [hb, cond_true] at h
        cases h
        rw [Bool.or_eq_true] at hb
        have hbd := run_bounds (P := P) (w := w) (isSl := true) (len := 0) (cap := 0) hl hh hm rl rh rm (Nat.le_refl _) (Nat.le_refl _) (Nat.le_refl _) hb
        refine Gives.silent S (v := .slice none 0 0) ?_ .snil
        unfold Instr.sliceAt Instr.slice
        simp only [Sem.run_bind, run_und hT hu, Result.andThen_ok, hbd, run_size hT hsz, Sem.run_pure]
        rfl
    · cases h
  · rename_i e rows tight hu
    cases hsz : T.size e with
    | none => rw [hsz] at h; cases h
    | some sz =>
      rw [hsz] at h
      simp only at h
      cases hb : mx.isNone || hi.isSome with
      | false => rw [hb] at h; cases h
      | true =>
        rw [hb, cond_true] at h
        rw [Bool.or_eq_true] at hb
        cases hsr : sliceRows sz rows tight lo hi mx with
        | none => rw [hsr] at h; cases h
        | some q =>
          rw [hsr] at h
          cases h
          obtain ⟨a, cap, rfl, hcap, hti, hsp⟩ := rel_slist_addr hr
          obtain ⟨l, h', m, hbd, hrel, _, _, _, _⟩ := sliceRows_ok (P := P) (w := w) hsr hr rl rh rm hb
          refine Gives.silent S ?_ hrel
          unfold Instr.sliceAt Instr.slice
          simp only [Sem.run_bind, run_und hT hu, Result.andThen_ok, hbd, run_size hT hsz, Sem.run_pure, Option.map_some]
          split <;> rfl
  · rename_i e s g len hu
    split at h
    · rename_i k c te mo sz hg hsz
      rw [nbeq] at h
      by_cases hkg : k = g
      · subst hkg
        rw [decide_eq_true rfl, cond_true] at h
        obtain ⟨b, cap, cs, fz, ha, hK, hc⟩ := S.arr_at hg
        obtain ⟨rfl, hlc⟩ := rel_sown ha hr
        cases hz : isZero hi && isZero mx && (lo.isNone || isZero lo) with
        | true =>
          rw [hz, cond_true] at h
          cases h
          rw [Bool.and_eq_true, Bool.and_eq_true] at hz
          obtain ⟨⟨z1, z2⟩, z3⟩ := hz
          obtain ⟨k1, rfl, n1⟩ := isZero_ok z1 rh
          obtain ⟨k2, rfl, n2⟩ := isZero_ok z2 rm
          have hbd := run_bounds (P := P) (w := w) (isSl := true) (len := len) (cap := cap) (lo_zero z3) (n1 len) (n2 cap) rl rh rm (Nat.le_refl _) (Nat.le_refl _) (Nat.zero_le _) (.inr (by cases hi with | none => simp [isZero] at z1 | some _ => rfl))
          refine Gives.silent S (v := .slice (some ⟨b, 0, none⟩) 0 0) ?_ (.slist0 (fun _ => rfl))
          unfold Instr.sliceAt Instr.slice
          simp only [Sem.run_bind, run_und hT hu, Result.andThen_ok, hbd, run_size hT hsz, Sem.run_pure]
          simp
        | false =>
          rw [hz, cond_false] at h
          cases hz2 : mx.isNone && (lo.isNone || isZero lo) with
          | true =>
            rw [hz2, cond_true] at h
            rw [Bool.and_eq_true] at hz2
            obtain ⟨z1, z2⟩ := hz2
            have hmx : mx = none := by cases mx with | none => rfl | some _ => cases z1
            subst hmx
            cases hh : natOr len hi with
            | none => rw [hh] at h; cases h
            | some h' =>
              rw [hh] at h
              simp only at h
              cases hb : Nat.ble h' len with
              | false => rw [hb] at h; cases h
              | true =>
                rw [hb, cond_true] at h
                cases h
                have hle := nble_iff.1 hb
                have hbd := run_bounds (P := P) (w := w) (isSl := true) (len := len) (cap := cap) (lo_zero z2) hh (mx := none) (m := cap) rfl rl rh rm (Nat.zero_le _) (by omega) (Nat.le_refl _) (.inl rfl)
                refine Gives.silent S (v := .slice (some ⟨b, 0, none⟩) h' cap) ?_ (.sown hc.pos ha (by omega))
                unfold Instr.sliceAt Instr.slice
                simp only [Sem.run_bind, run_und hT hu, Result.andThen_ok, hbd, run_size hT hsz, Sem.run_pure, Nat.zero_mul, Nat.sub_zero, Option.map_some, Addr.add_mk, Nat.add_zero]
                split <;> rfl
          | false =>
            rw [hz2, cond_false] at h
            cases hb : mx.isNone || hi.isSome with
            | false => rw [hb] at h; cases h
            | true =>
              rw [hb, cond_true] at h
              rw [Bool.or_eq_true] at hb
              split at h
              · rename_i rows tt σ1 hfz
                obtain ⟨E', hl', hn', S', hpr⟩ := freeze_ok S hfz hr
                cases hsr : sliceRows sz rows false lo hi mx with
                | none => rw [hsr] at h; cases h
                | some q =>
                  rw [hsr] at h
                  cases h
                  obtain ⟨a, cap', e1, hcap, _, _⟩ := rel_slist_addr hpr
                  simp only [Value.slice.injEq] at e1
                  obtain ⟨e2, rfl, rfl⟩ := e1
                  cases e2
                  have hpr' : Rel E' (.slist rows false) (.slice (some ⟨b, 0, none⟩) rows.length cap) := by
                    refine Rel.mono ?_ E'.pure_le'
                    cases hpr with
                    | slist0 => exact .slist0 (fun e => by cases e)
                    | slist g1 g2 g3 g4 g5 g6 g7 => exact .slist g1 g2 (fun e => by cases e) g4 g5 g6 g7
                  obtain ⟨l, h', m, hbd, hrel, _, _, _, _⟩ := sliceRows_ok (P := P) (w := w) hsr hpr' (rl.mono hl') (rh.mono hl') (rm.mono hl') hb
                  refine ⟨_, w, E', ?_, hl', S', hrel⟩
                  unfold Instr.sliceAt Instr.slice
                  simp only [Sem.run_bind, run_und hT hu, Result.andThen_ok, hbd, run_size hT hsz, Sem.run_pure, Option.map_some]
                  split <;> rfl
              · cases h
      · rw [decide_eq_false hkg, cond_false] at h; cases h
    · cases h
  · rename_i n e hu
    split at h
    · rename_i sz row off σ1 hsz hfz
      obtain ⟨E', hl', hn', S', hpr⟩ := freeze_ok S hfz hr
      cases hb : Nat.ble (off + n * sz) row.length && mx.isNone with
      | false => rw [hb] at h; cases h
      | true =>
        rw [hb, cond_true] at h
        rw [Bool.and_eq_true, nble_iff] at hb
        obtain ⟨hle, z1⟩ := hb
        have hmx : mx = none := by cases mx with | none => rfl | some _ => cases z1
        subst hmx
        cases hsr : sliceRows sz (chunk sz n (row.drop off)) true lo hi none with
        | none => rw [hsr] at h; cases h
        | some q =>
          rw [hsr] at h
          cases h
          cases hpr with
          | @iptr _ _ _ b o cs te hH g1 g2 g3 =>
            have hcl := chunk_length sz n (row.drop off)
            have hrows : Rel E' (.slist (chunk sz n (row.drop off)) true) (.slice (some ⟨b, o + off, none⟩) (chunk sz n (row.drop off)).length n) := by
              have hrl : ∀ i r, (chunk sz n (row.drop off))[i]? = some r → i < n ∧ r = ((row.drop off).drop (i * sz)).take sz ∧ i * sz + sz ≤ n * sz := by
                intro i r hi
                have hin : i < n := by
                  rcases Nat.lt_or_ge i n with h' | h'
                  · exact h'
                  · rw [List.getElem?_eq_none (by rw [hcl]; exact h')] at hi; cases hi
                refine ⟨hin, chunk_get sz n _ i r hi, ?_⟩
                have : (i + 1) * sz ≤ n * sz := Nat.mul_le_mul_right sz (by omega)
                rwa [Nat.succ_mul] at this
              refine Rel.mono (E := Env.pure E'.H) ?_ E'.pure_le'
              refine .slist (sz := sz) (c := cs) (te := te) hH (by rw [hcl]; exact Nat.le_refl _) (fun _ => hcl.symm) ?_ (by rw [hcl]; omega) ?_ ?_
              · intro r hrm
                obtain ⟨i, hi, e1⟩ := List.getElem_of_mem hrm
                obtain ⟨hin, rfl, hs⟩ := hrl i r (by rw [List.getElem?_eq_getElem hi, e1])
                simp; omega
              · intro i j hi hj
                rw [hcl] at hi
                have : (i + 1) * sz ≤ n * sz := Nat.mul_le_mul_right sz (by omega)
                rw [Nat.succ_mul] at this
                have := g2 (off + i * sz + j) (by omega)
                rw [show o + off + i * sz + j = o + (off + i * sz + j) by omega]; exact this
              · intro i r j a hi hj
                obtain ⟨hin, rfl, hs⟩ := hrl i r hi
                have hjs : j < sz := by
                  rcases Nat.lt_or_ge j sz with h' | h'
                  · exact h'
                  · rw [List.getElem?_take, if_neg (by omega)] at hj; cases hj
                rw [List.getElem?_take, if_pos hjs, List.getElem?_drop, List.getElem?_drop] at hj
                have := g3 (off + (i * sz + j)) a hj
                rw [show o + off + i * sz + j = o + (off + (i * sz + j)) by omega]
                exact this
            obtain ⟨l, h', m, _, hrel, _, _, _, hbd⟩ := sliceRows_ok (P := P) (w := w) hsr hrows (rl.mono hl') (rh.mono hl') (mv := mv) (by cases mv with | none => trivial | some _ => exact rm.elim) (.inl rfl)
            rw [hcl] at hbd
            refine ⟨_, w, E', ?_, hl', S', hrel⟩
            have hmv : mv = none := by cases mv with | none => rfl | some _ => exact rm.elim
            subst hmv
            unfold Instr.sliceAt
            simp only [Sem.run_bind, run_und hT hu, Result.andThen_ok, Instr.sureAddr, hbd, run_size hT hsz, Sem.run_pure]
    · cases h
  · cases h
end
end Go.Proofs.YtgklmecijeadlaaGreatDoor.Ab
