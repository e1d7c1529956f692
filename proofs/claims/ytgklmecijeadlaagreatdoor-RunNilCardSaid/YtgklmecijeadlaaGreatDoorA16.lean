import Derived.Test.YtgklmecijeadlaaGreatDoorA15
set_option linter.unusedSimpArgs false
set_option linter.unusedVariables false
set_option linter.unusedSectionVars false
namespace Go.Proofs.YtgklmecijeadlaaGreatDoor.Ab

theorem relO_evalO {E : Env} {ev : Operand → Option AV} {ρ : Operand → Value} (h : EvRel E ev ρ) {o : Option Operand} {r : Option AV} (hr : evalO ev o = some r) : RelO E r (o.map ρ) := by
  cases o with
  | none => cases hr; trivial
  | some x =>
    simp only [evalO, Option.map_eq_some_iff] at hr
    obtain ⟨a, ha, rfl⟩ := hr
    exact h x a ha

theorem relPs {E : Env} {ev : Operand → Option AV} {ρ : Operand → Value} (h : EvRel E ev ρ) {ps : Array (Nat × Operand)} {qs : List (Nat × AV)} (hq : evalPs ev ps.toList = some qs) :
    qs.length = (ps.map fun p => (p.1, ρ p.2)).toList.length ∧ ∀ (k : Nat) (p : Nat × AV) (q : Nat × Value), qs[k]? = some p → (ps.map fun p => (p.1, ρ p.2)).toList[k]? = some q → p.1 = q.1 ∧ Rel E p.2 q.2 := by
  have := rel_evalPs h hq
  rw [Array.toList_map]
  exact this

section
variable {T : Tab} {P : Program} (hT : TabOk T P) {C : Hand} (hC : HandOk T P C) {K : Nat → Prop} {W : World} {E : Env} {σ : St} {w : World} (S : Sim T K W E σ w)

theorem new_var {A : Act} {o : Oper} {next : Act → World → Prop} {Q : Exit → Act → World → Prop} {t : TypeId} {c : List AV} {cs : Array Value} (S : Sim T K W E σ w) (h : RelL E c cs) (hf : ∀ i, i < cs.size → (gd cs i).oneCell' = true)
    (he : (execOp A.eval o).run P w = .ok (.value (.pointer (some ⟨w.heap.size, 0, none⟩))) (w.alloc (.cells cs t)))
    (k : Cont T K W E σ A o next Q (.val (.ptr σ.next 0)) (some (σ.new (.cells c t 0)))) : o.wp P A w next Q := by
  have S' := new_cells S (te := t) h hf
  exact wp_val he (k _ _ _ (E.le_new _ _ _) S' (.ptr (rel_new S.next.symm)))

include hT hC S in
theorem stepA_ok {A : Act} {ev : Operand → Option AV} {o : Oper} {next : Act → World → Prop} {Q : Exit → Act → World → Prop} {r : SR} {s : Option St}
    (h : stepA T C ev o σ = some (r, s)) (hE : EvRel E ev A.eval) (k : Cont T K W E σ A o next Q r s) : o.wp P A w next Q := by
  have silent : ∀ {a : AV} {v : Value}, (r, s) = (SR.val a, none) → (execOp A.eval o).run P w = .ok (.value v) w → Rel E a v → o.wp P A w next Q := by
    intro a v e hr ha
    cases e
    exact wp_val hr (k v w E (Env.le.refl E) S ha)
  unfold stepA at h
  split at h
  case h_1 x hop =>
    obtain ⟨a, ha, e⟩ := one_some h
    exact silent e (by unfold execOp; rw [hop]; rfl) (hE x a ha)
  case h_2 x hop =>
    obtain ⟨a, ha, e⟩ := one_some h
    exact silent e (by unfold execOp; rw [hop]; rfl) (hE x a ha)
  case h_3 c a b hop =>
    split at h
    · rename_i t x y hc ha hb
      have hc' := hE c _ hc
      generalize hg : A.eval c = cv at hc'
      cases hc'
      cases h
      have he : (execOp A.eval o).run P w = .ok (.value (if t = true then A.eval a else A.eval b)) w := by unfold execOp; rw [hop]; simp [hg, asBool]
      refine silent rfl he ?_
      cases t
      · exact hE b _ hb
      · exact hE a _ ha
    · cases h
  case h_4 t hop =>
    split at h
    · rename_i z hz
      cases hf : z.cells.all AV.flat with
      | false => rw [hf] at h; cases h
      | true =>
        rw [hf, cond_true] at h
        cases h
        obtain ⟨v, hv, _, hrl, hcf⟩ := zero_cells hT (E := E) (w := w) hz hf
        refine new_var S hrl hcf ?_ k
        unfold execOp; rw [hop]
        refine run_val ?_
        unfold Instr.alloc
        simp [hv, newVar, newRow]
    · cases h
  case h_5 t x hop =>
    split at h
    · rename_i a ha
      cases hf : a.cells.all AV.flat with
      | false => rw [hf] at h; cases h
      | true =>
        rw [hf, cond_true] at h
        cases h
        obtain ⟨hrl, hcf⟩ := (hE x a ha).cells hf
        refine new_var S hrl hcf ?_ k
        unfold execOp; rw [hop]
        refine run_val ?_
        unfold Instr.box
        simp [newVar, newRow]
    · cases h
  case h_6 t ps hop =>
    split at h
    · rename_i qs hq
      obtain ⟨a, ha, e⟩ := one_some h
      obtain ⟨h1, h2⟩ := relPs hE hq
      obtain ⟨v, hv, hr⟩ := buildA_ok hT (w := w) ha h1 h2
      exact silent e (by unfold execOp; rw [hop]; exact run_val hv) hr
    · cases h
  case h_7 t n ps hop =>
    split at h
    · rename_i qs hq
      obtain ⟨a, s', ha, e⟩ := two_some h
      cases e
      obtain ⟨h1, h2⟩ := relPs hE hq
      exact (buildSliceA_ok hT S ha h1 h2).wp (by unfold execOp; rw [hop]) k
    · cases h
  case h_8 t p hop =>
    split at h
    · rename_i a ha
      obtain ⟨b, hb, e⟩ := one_some h
      obtain ⟨v, hv, hr⟩ := loadA_ok hT S hb (hE p a ha)
      exact silent e (by unfold execOp; rw [hop]; exact run_val hv) hr
    · cases h
  case h_9 t p x hop =>
    split at h
    · rename_i a b ha hb
      obtain ⟨s', hs, e⟩ := skp_some h
      cases e
      obtain ⟨w', hw, S'⟩ := storeA_ok hT S hs (hE p a ha) (hE x b hb)
      exact wp_skp (w' := w') (by unfold execOp; rw [hop]; exact run_skp hw) (k w' E (Env.le.refl E) S')
    · cases h
  case h_10 x hop =>
    split at h
    · rename_i s0 off ha
      cases h
      have h1 := hE x _ ha
      generalize hg : A.eval x = xv at h1
      have : ∃ a, xv = .pointer (some a) := by cases h1 <;> exact ⟨_, rfl⟩
      obtain ⟨a, rfl⟩ := this
      exact silent rfl (by unfold execOp; rw [hop]; simp only [hg]; rfl) h1
    · rename_i s0 g off ha
      cases h
      have h1 := hE x _ ha
      generalize hg : A.eval x = xv at h1
      have : ∃ a, xv = .pointer (some a) := by cases h1 <;> exact ⟨_, rfl⟩
      obtain ⟨a, rfl⟩ := this
      exact silent rfl (by unfold execOp; rw [hop]; simp only [hg]; rfl) h1
    · rename_i row off ha
      cases h
      have h1 := hE x _ ha
      generalize hg : A.eval x = xv at h1
      have : ∃ a, xv = .pointer (some a) := by cases h1 <;> exact ⟨_, rfl⟩
      obtain ⟨a, rfl⟩ := this
      exact silent rfl (by unfold execOp; rw [hop]; simp only [hg]; rfl) h1
    · rename_i f a b ha
      cases h
      have h1 := hE x _ ha
      generalize hg : A.eval x = xv at h1
      have : ∃ a b, xv = .func (.func f) a b := by cases h1; exact ⟨_, _, rfl⟩
      obtain ⟨a, b, rfl⟩ := this
      exact silent rfl (by unfold execOp; rw [hop]; simp only [hg]; rfl) h1
    · rename_i t v ha
      cases h
      have h1 := hE x _ ha
      generalize hg : A.eval x = xv at h1
      have : ∃ v', xv = .iface t v' := by cases h1; exact ⟨_, rfl⟩
      obtain ⟨v', rfl⟩ := this
      exact silent rfl (by unfold execOp; rw [hop]; simp only [hg]; rfl) h1
    · cases h
  case h_11 op t x y yt hop =>
    split at h
    · rename_i a b ha hb
      obtain ⟨c, hc, e⟩ := one_some h
      obtain ⟨v, hv, hr⟩ := binA_ok hT S hc (hE x a ha) (hE y b hb)
      exact silent e (by unfold execOp; rw [hop]; exact run_val hv) hr
    · cases h
  case h_12 op t x hop =>
    split at h
    · rename_i a ha
      obtain ⟨c, hc, e⟩ := one_some h
      obtain ⟨v, hv, hr⟩ := unA_ok (P := P) (w := w) hc (hE x a ha)
      exact silent e (by unfold execOp; rw [hop]; exact run_val hv) hr
    · cases h
  case h_13 sr ds x hop =>
    split at h
    · rename_i a ha
      obtain ⟨c, s', hc, e⟩ := two_some h
      cases e
      exact (convertA_ok hT S hc (hE x a ha)).wp (by unfold execOp; rw [hop]) k
    · cases h
  case h_14 t x hop =>
    split at h
    · cases h
    · rename_i v d hnd ha hd
      cases h
      refine silent rfl (v := .iface t (A.eval x)) ?_ (.iface (hE x v ha))
      unfold execOp; rw [hop]
      refine run_val ?_
      unfold Instr.makeInterface
      simp only [Sem.run_bind, run_und hT hd, Result.andThen_ok]
      cases d <;> first
        | exact absurd hd (hnd _ _ ha)
        | rfl
    · cases h
  case h_15 fn f c hop =>
    split at h
    · rename_i a b ha hb
      cases h
      have r1 := relL_evals hE ha
      have r2 := relL_evals hE hb
      exact silent rfl (v := .func fn (f.map A.eval) (c.map A.eval)) (by unfold execOp; rw [hop]; rfl) (.func r1.len r2.len r1.at_ r2.at_)
    · cases h
  case h_16 t hop =>
    cases h
    have S' := S.new (B := .map []) (o := .map #[] 0) (cap := 0) (g := 0) ⟨rfl, rfl, #[], 0, heap_self, rfl, fun i p h => by simp at h, S.fresh⟩
    refine wp_val (v := .map (some w.heap.size)) (w' := w.alloc (.map #[] 0)) ?_ (k _ _ _ (E.le_new _ _ _) S' (.map (rel_new S.next.symm)))
    unfold execOp; rw [hop]
    rfl
  case h_17 t x hop =>
    split at h
    · rename_i k1 n kt et ha hu
      cases h
      have S' := S.new (B := .map []) (o := .map #[] 0) (cap := 0) (g := 0) ⟨rfl, rfl, #[], 0, heap_self, rfl, fun i p h => by simp at h, S.fresh⟩
      refine wp_val (v := .map (some w.heap.size)) (w' := w.alloc (.map #[] 0)) ?_ (k _ _ _ (E.le_new _ _ _) S' (.map (rel_new S.next.symm)))
      have h1 := hE x _ ha
      generalize hg : A.eval x = xv at h1
      cases h1
      unfold execOp; rw [hop]
      refine run_val ?_
      simp only [Option.map_some, hg]
      unfold Instr.makeMap
      simp [run_und hT hu, asInt, asIntOf]
    · cases h
  case h_18 t l c hop =>
    split at h
    · rename_i a b ha hb
      obtain ⟨r', s', hr, e⟩ := three_some h
      cases e
      exact (makeSliceA_ok hT S hr (hE l a ha) (hE c b hb)).wp (by unfold execOp; rw [hop]) k
    · cases h
  case h_19 t x lo hi mx hop =>
    split at h
    · rename_i a b c d ha hb hc hd
      obtain ⟨r', s', hr, e⟩ := two_some h
      cases e
      exact (sliceA_ok hT S hr (hE x a ha) (relO_evalO hE hb) (relO_evalO hE hc) (relO_evalO hE hd)).wp (by unfold execOp; rw [hop]) k
    · cases h
  case h_20 t x f hop =>
    split at h
    · rename_i a ha
      obtain ⟨c, hc, e⟩ := one_some h
      obtain ⟨v, hv, hr⟩ := fieldAddrA_ok hT (w := w) hc (hE x a ha)
      exact silent e (by unfold execOp; rw [hop]; exact run_val hv) hr
    · cases h
  case h_21 t x f hop =>
    split at h
    · rename_i a ha
      obtain ⟨c, hc, e⟩ := one_some h
      obtain ⟨v, hv, hr⟩ := fieldA_ok hT (w := w) hc (hE x a ha)
      exact silent e (by unfold execOp; rw [hop]; exact run_val hv) hr
    · cases h
  case h_22 t x i hop =>
    split at h
    · rename_i a b ha hb
      obtain ⟨c, hc, e⟩ := one_some h
      obtain ⟨v, hv, hr⟩ := indexAddrA_ok hT S hc (hE x a ha) (hE i b hb)
      exact silent e (by unfold execOp; rw [hop]; exact run_val hv) hr
    · cases h
  case h_23 t x i hop =>
    split at h
    · rename_i a b ha hb
      obtain ⟨c, hc, e⟩ := one_some h
      obtain ⟨v, hv, hr⟩ := indexA_ok hT (w := w) hc (hE x a ha) (hE i b hb)
      exact silent e (by unfold execOp; rw [hop]; exact run_val hv) hr
    · cases h
  case h_24 t m i ok hop =>
    split at h
    · rename_i a b ha hb
      obtain ⟨c, hc, e⟩ := one_some h
      obtain ⟨v, hv, hr⟩ := lookupA_ok hT S hc (hE m a ha) (hE i b hb)
      exact silent e (by unfold execOp; rw [hop]; exact run_val hv) hr
    · cases h
  case h_25 t m i x hop =>
    split at h
    · rename_i a b c ha hb hc
      obtain ⟨s', hs, e⟩ := skp_some h
      cases e
      obtain ⟨w', hw, S'⟩ := mapUpdateA_ok hT S hs (hE m a ha) (hE i b hb) (hE x c hc)
      exact wp_skp (w' := w') (by unfold execOp; rw [hop]; exact run_skp hw) (k w' E (Env.le.refl E) S')
    · cases h
  case h_26 t m i x hop =>
    split at h
    · rename_i a b c ha hb hc
      obtain ⟨s', hs, e⟩ := skp_some h
      cases e
      obtain ⟨w', hw, S'⟩ := mapUpdateA_ok hT S hs (hE m a ha) (hE i b hb) (hE x c hc)
      exact wp_skp (w' := w') (by unfold execOp; rw [hop]; exact run_skp hw) (k w' E (Env.le.refl E) S')
    · cases h
  case h_27 t x hop =>
    split at h
    · rename_i l hu ha
      cases h
      have S' := S.new (B := .iter l 0) (o := .stringIter ⟨l.toArray⟩ 0) (cap := 0) (g := 0) ⟨rfl, rfl, S.fresh, heap_self⟩
      refine wp_val (v := .pointer (some ⟨w.heap.size, 0, none⟩)) (w' := w.alloc (.stringIter ⟨l.toArray⟩ 0)) ?_ (k _ _ _ (E.le_new _ _ _) S' (.ptr (rel_new S.next.symm)))
      have h1 := hE x _ ha
      generalize hg : A.eval x = xv at h1
      cases h1
      unfold execOp; rw [hop]
      refine run_val ?_
      simp only [hg]
      unfold Instr.range
      simp only [Sem.run_bind, run_und hT hu, Result.andThen_ok]
      rfl
    · cases h
  case h_28 x hop =>
    split at h
    · rename_i s0 ha
      split at h
      · rename_i l p hg
        obtain ⟨b, cap, g, hat, hK, rfl, rfl, hH, hh⟩ := S.blk s0 _ hg
        have h1 := hE x _ ha
        have hx := rel_ptr S hg hat h1
        have hget : (getObj b).run P w = .ok (.stringIter ⟨l.toArray⟩ p) w := by unfold getObj; simp only [Sem.run, hh]
        have hsize : (⟨l.toArray⟩ : ByteArray).size = l.length := by simp [ByteArray.size]
        cases hb : Nat.blt p l.length with
        | true =>
          rw [hb, cond_true] at h
          cases h
          have hlt := blt_iff.1 hb
          let w' := setBlk w b (.stringIter ⟨l.toArray⟩ (p + (Utf8.decode ⟨l.toArray⟩ p).2))
          have hset : (setObj b (.stringIter ⟨l.toArray⟩ (p + (Utf8.decode ⟨l.toArray⟩ p).2))).run P w = .ok () w' := by unfold setObj; simp only [Sem.run, hh]; rfl
          have S' : Sim T K W E (σ.put s0 (.iter l (p + (Utf8.decode ⟨l.toArray⟩ p).2))) w' := S.put hg hat rfl rfl rfl setBlk_size (fun j hj => setBlk_ne hj) (.inl hH) ⟨rfl, rfl, hH, setBlk_self (lt_of_some hh)⟩
          refine wp_val (v := .tuple #[.bool true, goInt p, .int .i32 (Utf8.decode ⟨l.toArray⟩ p).1]) (w' := w') ?_ (k _ _ E (Env.le.refl E) S' ?_)
          · unfold execOp; rw [hop]
            refine run_val ?_
            simp only [hx]
            simp only [Instr.next, Sem.run_bind, hget, Result.andThen_ok]
            rw [if_pos (by rw [hsize]; exact hlt)]
            simp only [Sem.run_bind, hset, Result.andThen_ok]
            rfl
          · refine .tuple rfl ?_
            intro i a hi
            match i, hi with
            | 0, hi => simp at hi; subst hi; exact .bool
            | 1, hi => simp at hi; subst hi; exact .int
            | 2, hi => simp at hi; subst hi; exact .int
        | false =>
          rw [hb, cond_false] at h
          cases h
          have hge : ¬ p < l.length := fun h' => by rw [blt_iff.2 h'] at hb; cases hb
          refine silent rfl (v := .tuple #[.bool false]) ?_ ?_
          · unfold execOp; rw [hop]
            refine run_val ?_
            simp only [hx]
            simp only [Instr.next, Sem.run_bind, hget, Result.andThen_ok]
            rw [if_neg (by rw [hsize]; exact hge)]
            rfl
          · refine .tuple rfl ?_
            intro i a hi
            match i, hi with
            | 0, hi => simp at hi; subst hi; exact .bool
      · cases h
    · cases h
  case h_29 x xt t ok hop =>
    split at h
    · cases h
    · rename_i u v d hnd ha hd
      have h1 := hE x _ ha
      generalize hg : A.eval x = xv at h1
      cases h1 with
      | @iface _ _ _ v' hr =>
        have hbody : ∀ (u : TypeId) (v' : Value), (Instr.typeAssert (.iface u v') xt t ok).run P w = (if u = t then (pure (if ok then .tuple #[v', .bool true] else v') : Sem Value) else (do
            if ok then pure (.tuple #[← zeroValue t, .bool false]) else runtimePanic (.typeAssertion (some xt) (some u) t ""))).run P w := by
          intro u v'
          unfold Instr.typeAssert
          simp only [Sem.run_bind, run_und hT hd, Result.andThen_ok]
        rw [nbeq] at h
        by_cases he : u = t
        · subst he
          rw [decide_eq_true rfl, cond_true] at h
          cases h
          have hrun : (execOp A.eval o).run P w = .ok (.value (if ok then .tuple #[v', .bool true] else v')) w := by
            unfold execOp; rw [hop]
            refine run_val ?_
            simp only [hg]
            rw [hbody, if_pos rfl]
            rfl
          refine silent rfl hrun ?_
          cases ok with
          | true =>
            refine .tuple rfl ?_
            intro i a hi
            match i, hi with
            | 0, hi => simp at hi; subst hi; exact hr
            | 1, hi => simp at hi; subst hi; exact .bool
          | false => exact hr
        · rw [decide_eq_false he, cond_false] at h
          cases ok with
          | false => cases h
          | true =>
            rw [cond_true] at h
            split at h
            · rename_i z hz
              cases h
              unfold Tab.zeroA at hz
              cases hzt : T.zero t with
              | none => rw [hzt] at hz; cases hz
              | some zv =>
                rw [hzt] at hz
                have hzr := rel_ofV (E := E) hz
                refine silent rfl (v := .tuple #[zv, .bool false]) ?_ ?_
                · unfold execOp; rw [hop]
                  refine run_val ?_
                  simp only [hg]
                  rw [hbody, if_neg he]
                  simp only [if_true, Sem.run_bind, run_zero hT hzt, Result.andThen_ok]
                  rfl
                · refine .tuple rfl ?_
                  intro i a hi
                  match i, hi with
                  | 0, hi => simp at hi; subst hi; exact hzr
                  | 1, hi => simp at hi; subst hi; exact .bool
            · cases h
    · cases h
  case h_30 x i hop =>
    split at h
    · rename_i c ha
      obtain ⟨a, hc, e⟩ := one_some h
      have h1 := hE x _ ha
      generalize hg : A.eval x = xv at h1
      cases h1 with
      | @tuple _ _ cs hl hr =>
        have hlt : i < c.length := by
          rcases Nat.lt_or_ge i c.length with h' | h'
          · exact h'
          · rw [List.getElem?_eq_none h'] at hc; cases hc
        refine silent e (v := gd cs i) ?_ (hr i a hc)
        unfold execOp; rw [hop]
        refine run_val ?_
        simp only [hg, Instr.extract, gd_lt (show i < cs.size by omega)]
        rfl
    · cases h
  case h_31 c hop =>
    have hex : execOp A.eval o = (do let d ← resolve A.eval c o.type; invoke d.target d.args) := by unfold execOp; rw [hop]
    split at h
    · rename_i b hcal
      split at h
      · rename_i args ha
        refine builtinA_ok (cs := c.args.map fun | .const _ => true | _ => false) (vs := c.args.map A.eval) hT hC S h (relL_evals hE ha) ?_ k
        rw [hex]
        unfold resolve
        rw [hcal]
        rfl
      · cases h
    · rename_i f hcal
      split at h
      · rename_i g args hg ha
        split at h
        · rename_i f' args' ht
          obtain ⟨first, cap, hv, hrl⟩ := target_ok ht (hE f g hg) (relL_evals hE ha)
          refine call_wp hC S h hrl ?_ k
          rw [hex]
          unfold resolve
          rw [hcal]
          simp only [hv, Deferred.ofValue, pure_bind, invoke]
        · cases h
      · cases h
    · rename_i rcv name hcal
      split at h
      · rename_i t v args hg ha
        split at h
        · rename_i f' hm
          have h1 := hE rcv _ hg
          generalize hgv : A.eval rcv = xv at h1
          cases h1 with
          | @iface _ _ _ v' hr =>
            refine call_wp (vs := #[v'] ++ c.args.map A.eval) hC S h (relL_cons hr (relL_evals hE ha)) ?_ k
            rw [hex]
            unfold resolve
            rw [hcal]
            simp only [hgv, pure_bind, invoke]
            have e0 : (#[Value.iface t v'] ++ Array.map A.eval c.args)[0]? = some (.iface t v') := by
              rw [Array.getElem?_append_left (Nat.zero_lt_succ 0)]; rfl
            rw [e0]
            simp only [callMethod, Sem.run_bind, run_program, Result.andThen_ok, hT.meth t name f' hm]
            congr 2
            apply Array.ext'
            simp [List.take_of_length_le]
        · cases h
      · cases h
  case h_32 c hop =>
    split at h
    · rename_i f hcal
      split at h
      · rename_i g args hg ha
        split at h
        · rename_i fn first cap
          cases h
          have hex : (execOp A.eval o) = (do pure (.defer (← resolve A.eval c o.type)) : Sem Next) := by unfold execOp; rw [hop]
          have hgr := hE f _ hg
          generalize hgv : A.eval f = xv at hgr
          cases hgr with
          | func h1 h2 h3 h4 =>
            have hd := DefRel.mk (E := E) (g := .func fn first cap) (args := args) (.func h1 h2 h3 h4) (relL_evals hE ha)
            unfold Oper.wp
            rw [hex]
            unfold resolve
            rw [hcal]
            simp only [hgv, Deferred.ofValue, pure_bind, Sem.run_pure]
            exact k _ w E (Env.le.refl E) S hd
        · cases h
      · cases h
    · cases h
  case h_33 x hop =>
    split at h
    · rename_i t v ha
      cases h
      have h1 := hE x _ ha
      generalize hg : A.eval x = xv at h1
      cases h1 with
      | @iface _ _ _ v' hr =>
        have : (execOp A.eval o).run P w = .halt (.panic (.iface t v')) w := by
          unfold execOp; rw [hop]; simp only [hg]; rfl
        unfold Oper.wp
        rw [this]
        exact k _ w E (Env.le.refl E) S (.iface hr)
    · cases h
  case h_34 => cases h
end
end Go.Proofs.YtgklmecijeadlaaGreatDoor.Ab
