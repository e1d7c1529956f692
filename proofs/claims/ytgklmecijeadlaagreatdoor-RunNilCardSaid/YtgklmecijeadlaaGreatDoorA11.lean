import Derived.Test.YtgklmecijeadlaaGreatDoorA10
set_option linter.unusedSimpArgs false
set_option linter.unusedVariables false
set_option linter.unusedSectionVars false
namespace Go.Proofs.YtgklmecijeadlaaGreatDoor.Ab

section
variable {T : Tab} {P : Program} (hT : TabOk T P) {K : Nat → Prop} {W : World} {E : Env} {σ : St} {w : World} (S : Sim T K W E σ w)
include hT S

theorem capA_ok {t : TypeId} {x r : AV} {v : Value} {rt : TypeId} {more : List TypeId} {ms : List Value} (h : capA T t x = some r) (hr : Rel E x v) :
    ∃ y, (Builtin.cap_ (t :: more).toArray rt (v :: ms).toArray).run P w = .ok y w ∧ Rel E r y := by
  unfold capA at h
  split at h
  · rename_i e hu
    cases h; cases hr
    refine ⟨_, ?_, .int⟩
    unfold Builtin.cap_
    simp [run_und hT hu, goInt]
  · rename_i e rows hu
    cases h
    have : ∃ a, v = .slice (some a) rows.length rows.length := by
      cases hr with
      | slist0 h => rw [h rfl]; exact ⟨_, rfl⟩
      | slist _ _ h => rw [h rfl]; exact ⟨_, rfl⟩
    obtain ⟨a, rfl⟩ := this
    refine ⟨_, ?_, .int⟩
    unfold Builtin.cap_
    simp [run_und hT hu, goInt]
  · cases h

theorem lenA_ok {t : TypeId} {x r : AV} {v : Value} {rt : TypeId} {more : List TypeId} {ms : List Value} (h : lenA T σ t x = some r) (hr : Rel E x v) :
    ∃ y, (Builtin.len_ (t :: more).toArray rt (v :: ms).toArray).run P w = .ok y w ∧ Rel E r y := by
  unfold lenA at h
  split at h
  · rename_i s hu
    cases h; cases hr
    refine ⟨_, ?_, .int⟩
    unfold Builtin.len_
    simp [run_und hT hu, goInt]
    rfl
  · rename_i e hu
    cases h; cases hr
    refine ⟨_, ?_, .int⟩
    unfold Builtin.len_
    simp [run_und hT hu, goInt]
  · rename_i e rows tight hu
    cases h
    have : ∃ a c, v = .slice (some a) rows.length c := by
      cases hr with
      | slist0 => exact ⟨_, _, rfl⟩
      | slist => exact ⟨_, _, rfl⟩
    obtain ⟨a, c, rfl⟩ := this
    refine ⟨_, ?_, .int⟩
    unfold Builtin.len_
    simp [run_und hT hu, goInt]
  · rename_i e s g len hu
    split at h
    · rename_i k c te m hg
      rw [nbeq] at h
      by_cases e : k = g
      · subst e
        rw [decide_eq_true rfl, cond_true] at h
        cases h
        obtain ⟨b, cap, cs, fz, ha, hK, hc⟩ := S.arr_at hg
        obtain ⟨rfl, _⟩ := rel_sown ha hr
        refine ⟨_, ?_, .int⟩
        unfold Builtin.len_
        simp [run_und hT hu, goInt]
      · rw [decide_eq_false e, cond_false] at h; cases h
    · cases h
  · rename_i n e hu
    cases h
    refine ⟨_, ?_, .int⟩
    unfold Builtin.len_
    simp [run_und hT hu, goInt]
  · rename_i x _ _ k e hu
    cases hm : mapOf σ x with
    | none => rw [hm] at h; cases h
    | some es =>
      rw [hm] at h; cases h
      unfold mapOf at hm
      split at hm
      · cases hm; cases hr
        refine ⟨_, ?_, .int⟩
        unfold Builtin.len_
        simp [run_und hT hu, goInt]
      · rename_i s
        split at hm
        · rename_i es' hg
          cases hm
          obtain ⟨b, cap, g, ha, hK, rfl, rfl, ms', cl, hmo⟩ := S.blk s _ hg
          cases hr with
          | map ha' =>
            rw [ha] at ha'; cases ha'
            refine ⟨_, ?_, .int⟩
            unfold Builtin.len_
            have hgo : (getObj b).run P w = .ok (.map ms' cl) w := by unfold getObj; simp only [Sem.run, hmo.heap]
            simp [run_und hT hu, goInt, hgo, hmo.len]
          | mapS _ hn => exact (S.not_stale hg hn).elim
        · cases hm
      · cases hm
  · cases h

theorem indexAddrA_ok {t : TypeId} {x i r : AV} {v iv : Value} (h : indexAddrA T σ t x i = some r) (hr : Rel E x v) (hi : Rel E i iv) : ∃ y, (Instr.indexAt t v iv).run P w = .ok y w ∧ Rel E r y := by
  unfold indexAddrA at h
  split at h
  · rename_i e rows tight n hu hn
    obtain ⟨k, rfl⟩ := natOf_ok hn hi
    split at h
    · rename_i row sz hrow hsz
      rw [nbeq] at h
      by_cases hl : row.length = sz
      · rw [decide_eq_true hl, cond_true] at h
        cases h
        have hlt : n < rows.length := by
          rcases Nat.lt_or_ge n rows.length with h' | h'
          · exact h'
          · rw [List.getElem?_eq_none h'] at hrow; cases hrow
        cases hr with
        | slist0 => simp at hlt
        | @slist _ _ _ b o sz' cap cs te hH h1 h2 h3 h4 h5 h6 =>
          have hszz : sz' = sz := by rw [← hl, h3 row (List.mem_of_getElem? hrow)]
          subst hszz
          refine ⟨.pointer (some ⟨b, o + n * sz', none⟩), ?_, ?_⟩
          · unfold Instr.indexAt
            simp only [Sem.run_bind, asIntOf, Sem.run_pure, Result.andThen_ok, run_und hT hu]
            rw [Sem.run_ite, if_pos (by omega)]
            simp [run_size hT hsz, Addr.add_mk]
          · have hle : (n + 1) * sz' ≤ rows.length * sz' := Nat.mul_le_mul_right sz' (by omega)
            rw [Nat.succ_mul] at hle
            have := Rel.iptr (E := E) (row := row) (off := 0) (b := b) (o := o + n * sz') (c := cs) (te := te) hH (by omega) (fun j hj => h5 n j hlt (by omega)) (fun j a hj => h6 n row j a hrow hj)
            simpa using this
      · rw [decide_eq_false hl, cond_false] at h; cases h
    · cases h
  · rename_i e s g len n hu hn
    obtain ⟨k, rfl⟩ := natOf_ok hn hi
    split at h
    · rename_i g' c te m sz hg hsz
      cases hb : Nat.beq g' g && Nat.blt n len && Nat.ble (len * sz) c.length with
      | false => rw [hb] at h; cases h
      | true =>
        rw [hb, cond_true] at h
        cases h
        rw [Bool.and_eq_true, Bool.and_eq_true, nbeq_iff, blt_iff, nble_iff] at hb
        obtain ⟨⟨rfl, hlt⟩, hle⟩ := hb
        obtain ⟨b, cap, cs, fz, ha, hK, hc⟩ := S.arr_at hg
        obtain ⟨rfl, _⟩ := rel_sown ha hr
        refine ⟨.pointer (some ⟨b, n * sz, none⟩), ?_, .aptr hc.pos ha⟩
        unfold Instr.indexAt
        simp only [Sem.run_bind, asIntOf, Sem.run_pure, Result.andThen_ok, run_und hT hu]
        rw [Sem.run_ite, if_pos (by omega)]
        simp [run_size hT hsz, Addr.add_mk]
    · cases h
  · rename_i n e s off i' hu hn
    obtain ⟨k, rfl⟩ := natOf_ok hn hi
    split at h
    · rename_i c te m sz hg hsz
      cases hb : Nat.blt i' n with
      | false => rw [hb] at h; cases h
      | true =>
        rw [hb, cond_true] at h
        cases h
        have hlt := blt_iff.1 hb
        obtain ⟨b, cs, ha, hK, hc⟩ := S.cells_at hg
        have := rel_ptr S hg ha hr
        subst this
        refine ⟨.pointer (some ⟨b, off + i' * sz, none⟩), ?_, .ptr ha⟩
        unfold Instr.indexAt
        simp only [Sem.run_bind, asIntOf, Sem.run_pure, Result.andThen_ok, run_und hT hu, Instr.sureAddr]
        rw [Sem.run_ite, if_pos (by omega)]
        simp [run_size hT hsz, Addr.add_mk]
    · cases h
  · rename_i n e row off i' hu hn
    obtain ⟨k, rfl⟩ := natOf_ok hn hi
    cases hsz : T.size e with
    | none => rw [hsz] at h; cases h
    | some sz =>
      rw [hsz] at h
      simp only at h
      cases hb : Nat.blt i' n with
      | false => rw [hb] at h; cases h
      | true =>
        rw [hb, cond_true] at h
        cases h
        have hlt := blt_iff.1 hb
        cases hr with
        | @iptr _ _ _ b o c te hH hl h1 h2 =>
          refine ⟨.pointer (some ⟨b, o + off + i' * sz, none⟩), ?_, ?_⟩
          · unfold Instr.indexAt
            simp only [Sem.run_bind, asIntOf, Sem.run_pure, Result.andThen_ok, run_und hT hu, Instr.sureAddr]
            rw [Sem.run_ite, if_pos (by omega)]
            simp [run_size hT hsz, Addr.add_mk]
          · rw [Nat.add_assoc]; exact .iptr hH hl h1 h2
  · cases h

theorem makeSliceA_ok {t : TypeId} {l c r : AV} {lv cv : Value} {σ' : St} (h : makeSliceA T σ t l c = some (r, σ')) (hl : Rel E l lv) (hc : Rel E c cv) :
    Gives T K W E σ P w (Instr.makeSlice t lv cv) r (some σ') := by
  unfold makeSliceA at h
  split at h
  · rename_i e n k hu hn hk
    obtain ⟨k1, rfl⟩ := natOf_ok hn hl
    obtain ⟨k2, rfl⟩ := natOf_ok hk hc
    split at h
    · rename_i sz z by_ hsz hz hby
      cases hb : Nat.ble n k && Nat.ble (k * (by_ + 1)) room && Nat.beq z.cells.length sz && z.cells.all AV.flat with
      | false => rw [hb] at h; cases h
      | true =>
        rw [hb, cond_true] at h
        cases h
        rw [Bool.and_eq_true, Bool.and_eq_true, Bool.and_eq_true, nble_iff, nble_iff, nbeq_iff] at hb
        obtain ⟨⟨⟨hnk, hroom⟩, hzl⟩, hzf⟩ := hb
        have hroom' : room = 1099511627776 := rfl
        obtain ⟨bi, hbi, hbb⟩ := run_bytes hT (w := w) hby
        obtain ⟨zv, hzr, hzrel, hzc, hzcf⟩ := zero_cells hT (E := E) (w := w) hz hzf
        have hk1 : k ≤ k * (by_ + 1) := Nat.le_mul_of_pos_right _ (by omega)
        have hkb : k * by_ ≤ k * (by_ + 1) := Nat.mul_le_mul_left _ (by omega)
        have hw64 : ∀ m : Nat, m ≤ 1099511627776 → IntKind.i64.wrap (m : Int) = m := by
          intro m hm
          simp [IntKind.wrap, IntKind.signed, IntKind.bits]
          omega
        have hbig : ¬ ((bi.bytes : Int) * (k : Int) > 2 ^ 48) := by
          rw [hbb]
          have : (by_ : Int) * (k : Int) = ((k * by_ : Nat) : Int) := by rw [Nat.mul_comm]; simp
          rw [this]; omega
        have e1 : IntKind.i64.wrap (n : Int) = n := hw64 n (by omega)
        have e2 : IntKind.i64.wrap (k : Int) = k := hw64 k (by omega)
        have hcond : ((((k : Int) < 0 || decide ((bi.bytes : Int) * (k : Int) > 2 ^ 48)) || decide ((n : Int) < 0)) || decide ((n : Int) > (k : Int))) = false := by
          simp [hbig]; omega
        have hrun : (Instr.makeSlice t (.int k1 n) (.int k2 k)).run P w = .ok (.slice (some ⟨w.heap.size, 0, none⟩) n k) (w.alloc (.cells ((Array.range (k * sz)).map (zv.cells[· % zv.cells.size]!)) e)) := by
          unfold Instr.makeSlice
          simp only [Sem.run_bind, run_und hT hu, Result.andThen_ok, asInt, asIntOf, Sem.run_pure, hbi, e1, e2]
          rw [if_neg (by rw [hcond]; simp)]
          simp only [Sem.run_bind, run_askRoom, run_size hT hsz, Result.andThen_ok, Int.toNat_natCast]
          by_cases hk0 : k * sz = 0
          · rw [if_pos hk0]
            have e0 : ∀ f : Nat → Value, (Array.range 0).map f = #[] := fun f => by simp
            simp only [Sem.run_bind, Sem.run_pure, Result.andThen_ok, newRow, run_newObj, hk0, e0]
            rfl
          · rw [if_neg hk0]
            simp only [Sem.run_bind, Sem.run_pure, Result.andThen_ok, newRow, run_newObj, hzr]
            rfl
        have hzs : zv.cells.size = sz := by rw [← hzc.len, hzl]
        have hC := relC_reps (E := E) (z := z.cells) (zc := zv.cells) (n := k) (k := k * sz) ⟨hzc, hzcf⟩ (by rw [hzl])
        have hnk' : n * sz ≤ k * sz := Nat.mul_le_mul_right sz hnk
        have hrl : ∀ m, (reps z.cells m).length = m * sz := fun m => by rw [reps_length, hzl]
        have hpre : ∀ (i : Nat) (a : AV), (reps z.cells n)[i]? = some a → (reps z.cells k)[i]? = some a := by
          intro i a hi
          have hlt : i < n * sz := by
            rcases Nat.lt_or_ge i (n * sz) with h' | h'
            · exact h'
            · rw [List.getElem?_eq_none (by rw [hrl]; exact h')] at hi; cases hi
          rw [reps_get _ _ _ (by rw [hzl]; exact hlt)] at hi
          rw [reps_get _ _ _ (by rw [hzl]; omega)]
          exact hi
        have := new_arr S (c := reps z.cells n) (te := e) (cs := (Array.range (k * sz)).map (zv.cells[· % zv.cells.size]!)) (cap := k) (fz := (0, 0)) (by rw [hrl]; simp; exact hnk')
          (fun sz' h' => by rw [hsz] at h'; cases h'; rw [hrl]; simp; exact hnk') (fun i a hi => hC.rel.at_ i a (hpre i a hi)) (fun i hi => hC.flat i (by simp; rw [hrl] at hi; omega)) (m := 0) (fun _ => rfl) (by decide) (by decide)
        refine ⟨_, _, _, hrun, E.le_new _ _ _, this, .sown Nat.one_pos (rel_new S.next.symm) hnk⟩
    · cases h
  · cases h

theorem copyA_ok {ts : TypeId} {more : List TypeId} {rt : TypeId} {d x r : AV} {dv xv : Value} {σ' : St} (h : copyA T σ ts d x = some (r, σ')) (hd : Rel E d dv) (hx : Rel E x xv) :
    Gives T K W E σ P w (Builtin.copy_ (ts :: more).toArray rt #[dv, xv]) r (some σ') := by
  unfold copyA at h
  split at h
  · rename_i e k g0 len hu
    split at h
    · rename_i g c' te y n sz hg hy hsz
      cases hb : Nat.beq g g0 && Nat.ble (len * sz) c'.length && Nat.beq te e && Nat.beq (n * sz) y.length with
      | false => rw [hb] at h; cases h
      | true =>
            rw [hb, cond_true] at h
            cases h
            rw [Bool.and_eq_true, Bool.and_eq_true, Bool.and_eq_true, nbeq_iff, nble_iff, nbeq_iff, nbeq_iff] at hb
            obtain ⟨⟨⟨rfl, hle⟩, rfl⟩, hn⟩ := hb
            obtain ⟨b, cap, cs, fz, ha, hK, hcc⟩ := S.arr_at hg
            obtain ⟨rfl, hlc⟩ := rel_sown ha hd
            have Hx := holds hT S hy hx hn
            have hmin : min n len ≤ n := Nat.min_le_left _ _
            obtain ⟨ds, hds, hdr⟩ := Hx.cells (min n len) hmin
            have h1 : min n len * sz ≤ len * sz := Nat.mul_le_mul_right sz (Nat.min_le_right _ _)
            have h2 : min n len * sz ≤ n * sz := Nat.mul_le_mul_right sz hmin
            have hdl : (y.take (min n len * sz)).length = min n len * sz := by rw [List.length_take]; omega
            have hdsz : ds.size = min n len * sz := by rw [← hdr.rel.len, hdl]
            have hst := run_stores (P := P) (b := b) (off := 0) (te := te) (fz := fz) ds.toList 0 w cs hcc.heap (by simp [hdsz]; have := hcc.le; omega) (fun j _ h2 => hcc.nf0 rfl j (by simp [hdsz] at h2; have := hcc.le; omega)) (all_oneCell hdr.flat)
            simp only [Nat.add_zero] at hst
            refine ⟨.int .i64 (min n len : Nat), setBlk w b (.cells (puts cs 0 ds.toList) te fz), E, ?_, Env.le.refl E, ?_, .int⟩
            · unfold Builtin.copy_
              simp only [List.getElem?_toArray, List.getElem?_cons_zero, List.getElem?_cons_succ, Sem.run_bind, run_und hT hu, Result.andThen_ok, Hx.len, run_size hT hsz, Sem.run_pure]
              rw [show Nat.min n len = min n len from rfl, hds w rfl]
              simp only [Result.andThen_ok, hst, goInt]
            · obtain ⟨r1, r2⟩ := rel_wr (E := E) (c := c') (d := y.take (min n len * sz)) (cs := cs) (ds := ds.toList) (off := 0) (o := 0) (by rw [hdl]; omega) (by rw [hdl]; simp [hdsz]) (by have := hcc.le; omega)
                (fun i x hi => by rw [Nat.zero_add]; exact hcc.rel i x hi) (fun i hi => by rw [Nat.zero_add]; exact hcc.flat i hi) (fun i x hi => by rw [gd_toList]; exact hdr.rel.at_ i x hi) (fun i hi => by rw [gd_toList]; exact hdr.flat i (by rw [hdsz, ← hdl]; exact hi))
              simp only [Nat.zero_add] at r1 r2
              refine S.put hg ha rfl rfl rfl setBlk_size (fun j hj => setBlk_ne hj) (.inl (hcc.own (by decide))) ⟨rfl, _, fz, hcc.pos, setBlk_self (lt_of_some hcc.heap), by rw [wr_length, puts_size]; exact hcc.le, ?_, r1, r2, ?_, fun e => (nomatch e), fun e => (nomatch e), hcc.own⟩
              · intro sz' hz; rw [wr_length, puts_size]; exact hcc.room sz' hz
              · intro _; exact hcc.fr0 rfl
    · cases h
  · cases h

theorem buildSliceA_ok {t : TypeId} {len : Nat} {ps : List (Nat × AV)} {vs : Array (Nat × Value)} {r : AV} {σ' : Option St} (h : buildSliceA T σ t len ps = some (r, σ')) (hl : ps.length = vs.toList.length)
    (hr : ∀ (k : Nat) (p : Nat × AV) (q : Nat × Value), ps[k]? = some p → vs.toList[k]? = some q → p.1 = q.1 ∧ Rel E p.2 q.2) : Gives T K W E σ P w (Instr.buildSlice t len vs) r σ' := by
  unfold buildSliceA at h
  split at h
  · rename_i e hu
    split at h
    · rename_i sz z hsz hz
      cases hb : Nat.ble (len * sz) 65536 && Nat.beq z.cells.length sz && z.cells.all AV.flat with
      | false => rw [hb] at h; cases h
      | true =>
        rw [hb, cond_true] at h
        rw [Bool.and_eq_true, Bool.and_eq_true, nble_iff, nbeq_iff] at hb
        obtain ⟨⟨hsmall, hzl⟩, hzf⟩ := hb
        obtain ⟨zv, hzr, hzrel, hzc, hzcf⟩ := zero_cells hT (E := E) (w := w) hz hzf
        have hzs : zv.cells.size = sz := by rw [← hzc.len, hzl]
        have hC := relC_reps (E := E) (z := z.cells) (zc := zv.cells) (n := len) (k := len * sz) ⟨hzc, hzcf⟩ (by rw [hzl])
        split at h
        · rename_i c hc
          have hplace : ∀ {ps : List (Nat × AV)} {c r : List AV}, fillA (fun i => bif Nat.blt i len then some (i * sz, sz) else none) c ps = some r → fillA (fun i => some (i * sz, sz)) c ps = some r := by
            intro ps
            induction ps with
            | nil => intro c r h; exact h
            | cons p ps ih =>
              obtain ⟨i, a⟩ := p
              intro c r h
              rw [fillA] at h ⊢
              cases hb : Nat.blt i len with
              | false => rw [hb] at h; cases h
              | true =>
                rw [hb] at h
                simp only [cond_true] at h ⊢
                cases hb2 : Nat.beq a.cells.length sz && Nat.ble (i * sz + sz) c.length && a.cells.all AV.flat with
                | false => rw [hb2] at h; cases h
                | true => rw [hb2] at h; simp only [cond_true] at h ⊢; exact ih h
          obtain ⟨rs, hf, hrc⟩ := fill_ok (E := E) (vs := vs.toList) (hplace hc) hC hl hr
          have hcl : c.length = len * sz := by
            have : ∀ {ps : List (Nat × AV)} {pl : Nat → Option (Nat × Nat)} {c r : List AV}, fillA pl c ps = some r → r.length = c.length := by
              intro ps pl
              induction ps with
              | nil => intro c r h; cases h; rfl
              | cons p ps ih =>
                obtain ⟨i, a⟩ := p
                intro c r h
                rw [fillA] at h
                cases hp : pl i with
                | none => rw [hp] at h; cases h
                | some q =>
                  obtain ⟨off, s⟩ := q
                  rw [hp] at h
                  simp only at h
                  cases hb2 : Nat.beq a.cells.length s && Nat.ble (off + s) c.length && a.cells.all AV.flat with
                  | false => rw [hb2] at h; cases h
                  | true => rw [hb2, cond_true] at h; rw [ih h, wr_length]
            rw [this hc, reps_length, hzl]
          have hrsz : rs.size = len * sz := by rw [← hrc.rel.len, hcl]
          have hrun : (Instr.buildSlice t len vs).run P w = .ok (.slice (some ⟨w.heap.size, 0, none⟩) len len) (w.alloc (.cells rs e)) := by
            unfold Instr.buildSlice
            simp only [Sem.run_bind, run_und hT hu, Result.andThen_ok, run_size hT hsz]
            rw [if_neg (by omega)]
            by_cases h0 : len * sz = 0
            · simp only [Sem.run_bind, Sem.run_pure, Result.andThen_ok, h0, if_true]
              rw [h0] at hf
              have : (Array.range 0).map ((#[] : Array Value)[· % (#[] : Array Value).size]!) = (Array.range 0).map (zv.cells[· % zv.cells.size]!) := by simp
              rw [this, hf]
              simp only [Sem.run_bind, newRow, run_newObj, Result.andThen_ok, Sem.run_pure]
              rfl
            · rw [if_neg h0]
              simp only [Sem.run_bind, Sem.run_pure, Result.andThen_ok, hzr, hf, newRow, run_newObj]
              rfl
          cases hn : AV.noRef.noRefs 0 c && !isByte (T.und e) with
          | true =>
            rw [hn] at h
            simp only [cond_true, Option.some.injEq, Prod.mk.injEq] at h
            obtain ⟨rfl, rfl⟩ := h
            obtain ⟨S', hl'⟩ := S.fix_new (c := rs) (t := e) (fz := (0, 0))
            refine ⟨_, _, _, hrun, hl', S', ?_⟩
            refine rel_chunk (cs := rs) (te := e) (by show (if _ then _ else _) = _; rw [if_pos rfl]) hcl (by omega) (Nat.le_refl _) (fun _ => rfl) ?_ (fun i hi => hrc.flat i (by omega))
            intro i a hi
            rw [Bool.and_eq_true] at hn
            have h1 := (hrc.rel.at_ i a hi).toPure (noRefs_iff.1 hn.1 i a hi)
            exact h1.mono (Env.pure_le hl'.H)
          | false =>
            rw [hn] at h
            simp only [cond_false, Option.some.injEq, Prod.mk.injEq] at h
            obtain ⟨rfl, rfl⟩ := h
            have := new_arr S (c := c) (te := e) (cs := rs) (cap := len) (fz := (0, 0)) (by omega) (fun sz' h' => by rw [hsz] at h'; cases h'; omega) (fun i a hi => hrc.rel.at_ i a hi) (fun i hi => hrc.flat i (by omega)) (m := 0) (fun _ => rfl) (by decide) (by decide)
            exact ⟨_, _, _, hrun, E.le_new _ _ _, this, .sown Nat.one_pos (rel_new S.next.symm) (Nat.le_refl _)⟩
        · cases h
    · cases h
  · cases h
end
end Go.Proofs.YtgklmecijeadlaaGreatDoor.Ab
