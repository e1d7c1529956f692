import Derived.Test.YtgklmecijeadlaaGreatDoorA9
set_option linter.unusedSimpArgs false
set_option linter.unusedVariables false
set_option linter.unusedSectionVars false
namespace Go.Proofs.YtgklmecijeadlaaGreatDoor.Ab

/-- what a step comes to: a value, the state later -/
def Gives (T : Tab) (K : Nat → Prop) (W : World) (E : Env) (σ : St) (P : Program) (w : World) (s : Sem Value) (r : AV) (σ' : Option St) : Prop :=
  ∃ v w' E', s.run P w = .ok v w' ∧ E.le E' ∧ Sim T K W E' (σ'.getD σ) w' ∧ Rel E' r v

theorem Gives.silent {T K W E σ P w} {s : Sem Value} {r : AV} {v : Value} (S : Sim T K W E σ w) (h : s.run P w = .ok v w) (hr : Rel E r v) : Gives T K W E σ P w s r none := ⟨v, w, E, h, Env.le.refl E, S, hr⟩

theorem appendIn_ok {T : Tab} {P : Program} (hT : TabOk T P) {K W E σ w} (S : Sim T K W E σ w) {ts tx rt e : TypeId} {s x r : AV} {vs vx : Value} {σ' : Option St} (hs : Rel E s vs) (hx : Rel E x vx)
    (hu : T.und ts = some (.slice e)) (hdx : ∃ dx, T.und tx = some dx ∧ ∀ k, dx ≠ .int k) (h : appendIn T σ e s x = some (r, σ')) :
    Gives T K W E σ P w (Builtin.append_ #[ts, tx] rt #[vs, vx]) r σ' := by
    unfold appendIn at h
    split at h
    · rename_i c m d n sz by_ z hc hd hsz hby hz
      cases hsl : isSl s with
      | false => rw [hsl] at h; cases h
      | true =>
      rw [hsl, Bool.not_true, cond_false] at h
      rw [nbeq] at h
      by_cases hn0 : n = 0
      · -- nothing is appended
        subst hn0
        simp only [decide_true, cond_true, Option.some.injEq, Prod.mk.injEq] at h
        obtain ⟨rfl, rfl⟩ := h
        obtain ⟨dx, hdx, hdi⟩ := hdx
        have hzeros : (match dx with | .int _ => true | _ => false) = false := by
          cases dx <;> first | rfl | exact absurd rfl (hdi _)
        obtain ⟨base, cap, rfl, hlc⟩ := slice_of S hsl hc hs
        obtain ⟨hlen, hkind⟩ := len_of S (P := P) hd hx
        refine ⟨.slice base m cap, w, E, ?_, Env.le.refl E, S, hs⟩
        have hnew : ∃ ds : Array Value, (Builtin.firstCells sz 0 vx).run P w = .ok ds w ∧ ds.toList = [] := by
          unfold Builtin.firstCells
          rcases hkind with ⟨b, cap', rfl⟩ | ⟨bs, rfl, hbs⟩
          · cases b with
            | none => exact ⟨#[], rfl, rfl⟩
            | some a => exact ⟨#[], by simp only [Nat.zero_mul]; exact run_loads0, rfl⟩
          · exact ⟨_, rfl, by simp⟩
        obtain ⟨ds, hds, hde⟩ := hnew
        unfold Builtin.append_
        simp only [List.getElem?_toArray, List.getElem?_cons_zero, List.getElem?_cons_succ, Sem.run_bind, run_und hT hu, Result.andThen_ok, run_size hT hsz, run_und hT hdx, Sem.run_pure, hzeros, Bool.false_eq_true, if_false, hlen, Sem.run_ite, Bool.not_false, if_true, Nat.add_zero]
        rw [if_pos hlc]
        simp only [Sem.run_bind, hds, Result.andThen_ok]
        cases base with
        | none => rfl
        | some a => simp only [Sem.run_bind, hde, storeCells, Sem.run_pure, Result.andThen_ok]
      · rw [decide_eq_false hn0, cond_false] at h
        cases hb : Nat.ble ((m + n) * (by_ + 1)) room && Nat.ble by_ 65536 && Nat.beq (m * sz) c.length && Nat.beq (n * sz) d.length with
        | false => rw [hb] at h; cases h
        | true =>
          rw [hb, cond_true] at h
          rw [Bool.and_eq_true, Bool.and_eq_true, Bool.and_eq_true, nble_iff, nble_iff, nbeq_iff, nbeq_iff] at hb
          obtain ⟨⟨⟨hroom, hby2⟩, hm⟩, hn⟩ := hb
          have Hd := holds hT S hd hx hn
          have Hs := holds hT S hc hs hm
          cases s <;> (try simp only at h)
          case snil =>
            cases h
            cases hs
            cases hc
            obtain ⟨_, hgrow⟩ := append_run hT (w := w) (rt := rt) hu hdx hsz hby hz Hs Hd hroom hby2 hm hn
            obtain ⟨q, cs, hq, ⟨a1, a2, a3, a4⟩, w1, o1, o2, o3, o4, hrun⟩ := hgrow (by omega)
            have S1 := S.same o1 o2 o3 o4
            have hsz1 : w1.heap.size = w.heap.size := by rw [o4]
            have := new_arr S1 a1 a2 a3 a4 (fz := (0, 0)) (m := 0) (fun _ => rfl) (by decide) (by decide)
            refine ⟨_, _, _, hrun, E.le_new w1.heap.size q 1, ?_, ?_⟩
            · simpa using this
            · rw [← hsz1, Nat.zero_add]; exact .sown Nat.one_pos (rel_new S.next.symm) (by omega)
          case slist rows tight =>
            cases tight with
            | false => cases h
            | true =>
            cases h
            simp only [cellsIn, Option.some.injEq, Prod.mk.injEq] at hc
            obtain ⟨rfl, rfl⟩ := hc
            have hv : ∃ a, ∃ cap, vs = .slice (some a) rows.length cap ∧ cap = rows.length := by
              cases hs with
              | slist0 ht => exact ⟨_, _, rfl, ht rfl⟩
              | slist h1 h2 h3 h4 h5 h6 h7 => exact ⟨_, _, rfl, h3 rfl⟩
            obtain ⟨a, cap, rfl, hcap⟩ := hv
            obtain ⟨_, hgrow⟩ := append_run hT (w := w) (rt := rt) hu hdx hsz hby hz Hs Hd hroom hby2 hm hn
            obtain ⟨q, cs, hq, ⟨a1, a2, a3, a4⟩, w1, o1, o2, o3, o4, hrun⟩ := hgrow (by omega)
            have S1 := S.same o1 o2 o3 o4
            have hsz1 : w1.heap.size = w.heap.size := by rw [o4]
            have := new_arr S1 a1 a2 a3 a4 (fz := (0, 0)) (m := 0) (fun _ => rfl) (by decide) (by decide)
            refine ⟨_, _, _, hrun, E.le_new w1.heap.size q 1, this, ?_⟩
            rw [← hsz1]; exact .sown Nat.one_pos (rel_new S.next.symm) hq
          case sown k g0 len =>
            split at h
            · rename_i g c' te mode hg
              cases hb2 : (Nat.beq mode 0 || (Nat.beq mode 1 && Nat.beq c'.length c.length)) && Nat.beq te e with
              | false => rw [hb2] at h; cases h
              | true =>
                rw [hb2, cond_true] at h
                cases h
                rw [Bool.and_eq_true, Bool.or_eq_true, Bool.and_eq_true, nbeq_iff, nbeq_iff, nbeq_iff, nbeq_iff] at hb2
                obtain ⟨hmode, rfl⟩ := hb2
                simp only [cellsIn, hg, hsz] at hc
                cases hb3 : Nat.beq g g0 && Nat.ble (len * sz) c'.length with
                | false => rw [hb3] at hc; cases hc
                | true =>
                  rw [hb3, cond_true] at hc
                  rw [Bool.and_eq_true, nbeq_iff, nble_iff] at hb3
                  obtain ⟨rfl, hle⟩ := hb3
                  simp only [Option.some.injEq, Prod.mk.injEq] at hc
                  obtain ⟨rfl, rfl⟩ := hc
                  obtain ⟨b, cap, cs, fz, ha, hK, hcc⟩ := S.arr_at hg
                  obtain ⟨rfl, hlc⟩ := rel_sown ha hs
                  have hsn := E.lt k _ ha
                  have hm2 : mode ≠ 2 := by rcases hmode with h | ⟨h, _⟩ <;> omega
                  have hH := hcc.own hm2
                  obtain ⟨hin, hgrow⟩ := append_run hT (w := w) (rt := rt) hu hdx hsz hby hz Hs Hd hroom hby2 hm hn
                  obtain ⟨r1, r2⟩ := hcc.room sz hsz
                  have htl : (c'.take (len * sz)).length = len * sz := by rw [List.length_take]; omega
                  by_cases hfit : len + n ≤ cap
                  · obtain ⟨ds, hdr, hrun⟩ := hin hfit
                    have hds : ds.size = n * sz := by rw [← hdr.rel.len, hn]
                    have hcapsz : (len + n) * sz ≤ cap * sz := Nat.mul_le_mul_right sz hfit
                    rw [Nat.add_mul] at hcapsz
                    have hst := run_stores (P := P) (b := b) (off := len * sz) (te := te) (fz := fz) ds.toList 0 w cs hcc.heap (by simp [hds]; omega) (fun j h1 h2 => by
                        simp [hds] at h2
                        rcases hmode with rfl | ⟨rfl, hcl⟩
                        · exact hcc.nf0 rfl j (by omega)
                        · have := hcc.fr1 rfl; rw [htl] at hcl; omega) (all_oneCell hdr.flat)
                    simp only [Addr.add_mk, Nat.zero_add, Nat.add_zero] at hrun hst
                    rw [hst, Result.andThen_ok] at hrun
                    have hl := Env.le_turn (x := (b, cap, g + 1)) ha hcc.pos (Nat.lt_succ_self g) hsn
                    refine ⟨_, _, E.turn k (b, cap, g + 1) hsn, hrun, hl, ?_, .sown (Nat.succ_pos g) (by show (if _ then _ else _) = _; rw [if_pos rfl]) hfit⟩
                    refine S.turn hg ha hcc.pos (Nat.lt_succ_self g) hsn rfl rfl rfl (by rw [setBlk_size]; exact Nat.le_refl _) (fun j _ hj => setBlk_ne hj) (.inl rfl) hH ⟨rfl, _, fz, Nat.succ_pos g, setBlk_self (lt_of_some hcc.heap), ?_, ?_, ?_, ?_, ?_, ?_, fun h => absurd h hm2, fun _ => hH⟩
                    · rw [puts_size, List.length_append, htl, ← hn]; omega
                    · intro sz' h'
                      rw [hsz] at h'; cases h'
                      rw [puts_size, List.length_append, htl, ← hn]
                      exact ⟨r1, by omega⟩
                    · intro i a hi
                      rw [gd_puts _ _ _ (by simp [hds]; omega)]
                      refine Rel.mono ?_ hl
                      rcases Nat.lt_or_ge i (len * sz) with hlt | hge
                      · rw [if_neg (by omega)]
                        rw [List.getElem?_append_left (by omega), List.getElem?_take, if_pos hlt] at hi
                        exact hcc.rel i a hi
                      · rw [List.getElem?_append_right (by omega), htl] at hi
                        have hlt2 : i - len * sz < d.length := by
                          rcases Nat.lt_or_ge (i - len * sz) d.length with h' | h'
                          · exact h'
                          · rw [List.getElem?_eq_none h'] at hi; cases hi
                        rw [if_pos (by simp [hds]; omega), gd_toList]
                        exact hdr.rel.at_ _ a hi
                    · intro i hi
                      rw [List.length_append, htl] at hi
                      rw [gd_puts _ _ _ (by simp [hds]; omega)]
                      split
                      · rw [gd_toList]; exact hdr.flat _ (by omega)
                      · rename_i hnot
                        exact hcc.flat i (by simp [hds] at hnot; omega)
                    · intro h0; exact hcc.fr0 h0
                    · intro h1
                      rw [List.length_append, htl]
                      rcases hmode with h0 | ⟨_, hcl⟩
                      · omega
                      · have := hcc.fr1 h1; rw [htl] at hcl; omega
                  · obtain ⟨q, cs2, hq, ⟨a1, a2, a3, a4⟩, w1, o1, o2, o3, o4, hrun⟩ := hgrow (by omega)
                    have S1 := S.same o1 o2 o3 o4
                    have hsz1 : w1.heap.size = w.heap.size := by rw [o4]
                    have hl := Env.le_turn (x := (w1.heap.size, q, g + 1)) ha hcc.pos (Nat.lt_succ_self g) hsn
                    refine ⟨_, _, E.turn k (w1.heap.size, q, g + 1) hsn, hrun, hl, ?_, by rw [← hsz1]; exact .sown (Nat.succ_pos g) (by show (if _ then _ else _) = _; rw [if_pos rfl]) hq⟩
                    exact S1.turn hg ha hcc.pos (Nat.lt_succ_self g) hsn rfl rfl rfl (by simp) (fun j hj _ => heap_push hj) (.inr rfl) hH ⟨rfl, cs2, (0, 0), Nat.succ_pos g, heap_self, a1, a2, fun i a hi => (a3 i a hi).mono hl, a4, fun _ => rfl, fun _ => Nat.zero_le _, fun h => absurd h hm2, fun _ => S1.fresh⟩
            · cases h
          all_goals cases h
    · cases h

theorem appendA_ok {T : Tab} {P : Program} (hT : TabOk T P) {K W E σ w} (S : Sim T K W E σ w) {ts tx rt : TypeId} {s x r : AV} {vs vx : Value} {σ' : Option St} (h : appendA T σ ts tx s x = some (r, σ')) (hs : Rel E s vs) (hx : Rel E x vx) :
    Gives T K W E σ P w (Builtin.append_ #[ts, tx] rt #[vs, vx]) r σ' := by
  unfold appendA at h
  split at h
  · rename_i e dx hu hdx
    exact appendIn_ok hT S hs hx hu ⟨_, hdx, fun k h => by cases h⟩ h
  · rename_i e hu hdx
    exact appendIn_ok hT S hs hx hu ⟨_, hdx, fun k h => by cases h⟩ h
  · cases h
end Go.Proofs.YtgklmecijeadlaaGreatDoor.Ab
