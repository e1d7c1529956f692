import Derived.Test.YtgklmecijeadlaaGreatDoorA6
set_option linter.unusedSimpArgs false
set_option linter.unusedVariables false
set_option linter.unusedSectionVars false
namespace Go.Proofs.YtgklmecijeadlaaGreatDoor.Ab

/-! ### freezing -/
theorem Sim.fix_old {T K W E σ w} (S : Sim T K W E σ w) {s : Nat} {B C : Blk} {b cap g : Nat} {c : Array Value} {t : TypeId} {fz : Nat × Nat} (hs : σ.get s = some B) (ha : E.at_ s = some (b, cap, g)) (hn : E.H b = none)
    (hw : w.heap[b]? = some (.cells c t fz)) (hC : BlkRel T (E.fix b c t) w b cap g C) : Sim T K W (E.fix b c t) (σ.put s C) w ∧ E.le (E.fix b c t) := by
  have hl := Env.le_fix (c := c) (t := t) hn
  obtain ⟨b2, c2, g2, ha2, hK, _⟩ := S.blk s B hs
  rw [ha] at ha2; cases ha2
  refine ⟨⟨S.os, S.tape, S.output, S.size, S.keep, S.kin, ?_, S.next, ?_, ?_, S.inj, fun g row h => (S.glob g row h).mono hl, ?_⟩, hl⟩
  · intro k c' t' hk
    simp only [Env.fix] at hk
    by_cases e : k = b
    · rw [if_pos e] at hk; cases hk; exact ⟨fz, by rw [e]; exact hw⟩
    · rw [if_neg e] at hk; exact S.inn k c' t' hk
  · intro t' b' cap' g' ht
    rw [get_put hs]
    by_cases e : s = t'
    · exact ⟨C, if_pos e⟩
    · rw [if_neg e]; exact S.live t' b' cap' g' ht
  · intro t' D hD
    rw [get_put hs] at hD
    by_cases e : s = t'
    · rw [if_pos e] at hD; cases hD; subst e
      exact ⟨b, cap, g, ha, hK, hC⟩
    · rw [if_neg e] at hD
      obtain ⟨b', cap', g', ht, hK', hb⟩ := S.blk t' D hD
      refine ⟨b', cap', g', ht, hK', hb.carry hl rfl ?_⟩
      intro hnone
      show (if _ then _ else _) = _
      rw [if_neg ?_]
      · exact hnone
      · rintro rfl
        exact e (S.inj s t' _ _ _ _ _ ha ht)
  · intro k hk hd
    show (if _ then _ else _) = _
    rw [if_neg (show ¬ k = b from fun e => hK (e ▸ hk))]; exact S.off k hk hd

theorem Sim.relabel {T K W E σ w} (S : Sim T K W E σ w) {s : Nat} {B : Blk} (hs : σ.get s = some B) : Sim T K W E (σ.put s B) w := by
  obtain ⟨b, cap, g, ha, hK, hb⟩ := S.blk s B hs
  exact S.put hs ha rfl rfl rfl rfl (fun _ _ => rfl) (.inr rfl) hb

theorem mark1_ok {T K W E σ w} (S : Sim T K W E σ w) (s : Nat) : ∃ E', E.le E' ∧ E'.next = E.next ∧ Sim T K W E' (σ.mark1 s) w := by
  unfold St.mark1
  split
  · rename_i c te m hg
    obtain ⟨b, cs, ha, hK, hc⟩ := S.cells_at hg
    by_cases hm : m = 2
    · subst hm
      exact ⟨E, Env.le.refl E, rfl, S.relabel hg⟩
    · have hn := hc.own hm
      have hl := Env.le_fix (c := cs) (t := te) hn
      obtain ⟨S', hl'⟩ := S.fix_old (C := .cells c te 2) hg ha hn hc.heap ⟨rfl, rfl, cs, hc.heap, hc.len, fun i a hi => (hc.rel i a hi).mono hl, hc.flat, fun _ => by show (if _ then _ else _) = _; rw [if_pos rfl], fun h => absurd rfl h⟩
      exact ⟨_, hl', rfl, S'⟩
  · rename_i g c te m hg
    obtain ⟨b, cap, cs, fz, ha, hK, hc⟩ := S.arr_at hg
    by_cases hm : m = 2
    · subst hm
      exact ⟨E, Env.le.refl E, rfl, S.relabel hg⟩
    · have hn := hc.own hm
      have hl := Env.le_fix (c := cs) (t := te) hn
      obtain ⟨S', hl'⟩ := S.fix_old (C := .arr g c te 2) hg ha hn hc.heap ⟨rfl, cs, fz, hc.pos, hc.heap, hc.le, hc.room, fun i a hi => (hc.rel i a hi).mono hl, hc.flat, fun h => (nomatch h), fun h => (nomatch h), fun _ => by show (if _ then _ else _) = _; rw [if_pos rfl], fun h => absurd rfl h⟩
      exact ⟨_, hl', rfl, S'⟩
  · exact ⟨E, Env.le.refl E, rfl, S⟩

theorem markAll_ok {T K W w} : ∀ (l : List Nat) {E σ}, Sim T K W E σ w → ∃ E', E.le E' ∧ E'.next = E.next ∧ Sim T K W E' (σ.markAll l) w
  | [], E, σ, S => ⟨E, Env.le.refl E, rfl, S⟩
  | s :: l, E, σ, S => by
    obtain ⟨E1, h1, n1, S1⟩ := mark1_ok S s
    obtain ⟨E2, h2, n2, S2⟩ := markAll_ok l S1
    exact ⟨E2, h1.trans h2, n2.trans n1, S2⟩

theorem frz_ok {T K W E σ w} (S : Sim T K W E σ w) : ∀ n : Nat,
    (∀ (v v' : AV) (x : Value), frz T σ n v = some v' → Rel E v x → Rel (Env.pure E.H) v' x) ∧
    (∀ (c c' : List AV), frzs T σ n c = some c' → c'.length = c.length ∧ ∀ (i : Nat) (a' : AV), c'[i]? = some a' → ∃ a, c[i]? = some a ∧ ∀ x, Rel E a x → Rel (Env.pure E.H) a' x) := by
  intro n
  induction n with
  | zero => exact ⟨fun v v' x h => by simp [frz] at h, fun c c' h => by simp [frzs] at h⟩
  | succ n ih =>
    obtain ⟨ih1, ih2⟩ := ih
    have lst : ∀ (c c' : List AV) (f : Nat → Value), frzs T σ n c = some c' → (∀ (i : Nat) (a : AV), c[i]? = some a → Rel E a (f i)) → c'.length = c.length ∧ ∀ (i : Nat) (a : AV), c'[i]? = some a → Rel (Env.pure E.H) a (f i) := by
      intro c c' f h hr
      obtain ⟨hl, hh⟩ := ih2 c c' h
      exact ⟨hl, fun i a hi => by obtain ⟨a0, h0, k⟩ := hh i a hi; exact k _ (hr i a0 h0)⟩
    constructor
    · intro v v' x h hr
      cases v <;> simp only [frz] at h
      case ptr s off =>
        split at h
        · rename_i c te hg
          obtain ⟨b, cs, ha, hK, hc⟩ := S.cells_at hg
          have := rel_ptr S hg ha hr
          subst this
          split at h
          · rename_i c' hc'
            cases h
            obtain ⟨hl, hh⟩ := lst c c' _ hc' hc.rel
            have := Rel.iptr (E := Env.pure E.H) (row := c') (off := off) (b := b) (o := 0) (c := cs) (te := te) (hc.ro rfl) (by rw [hl, hc.len]; omega) (fun j hj => by rw [Nat.zero_add]; exact hc.flat j (by omega)) (fun j a hj => by rw [Nat.zero_add]; exact hh j a hj)
            rwa [Nat.zero_add] at this
          · cases h
        · cases h
      case aptr s g off =>
        split at h
        · rename_i k c te hg
          rw [nbeq] at h
          by_cases e : k = g
          · subst e
            rw [decide_eq_true rfl, cond_true] at h
            obtain ⟨b, cap, cs, fz, ha, hK, hc⟩ := S.arr_at hg
            have := rel_aptr ha hr
            subst this
            split at h
            · rename_i c' hc'
              cases h
              obtain ⟨hl, hh⟩ := lst c c' _ hc' hc.rel
              have := Rel.iptr (E := Env.pure E.H) (row := c') (off := off) (b := b) (o := 0) (c := cs) (te := te) (hc.ro rfl) (by rw [hl]; have := hc.le; omega) (fun j hj => by rw [Nat.zero_add]; exact hc.flat j (by omega)) (fun j a hj => by rw [Nat.zero_add]; exact hh j a hj)
              rwa [Nat.zero_add] at this
            · cases h
          · rw [decide_eq_false e, cond_false] at h; cases h
        · cases h
      case sown s g len =>
        split at h
        · rename_i k c te hg
          cases hsz : T.size te with
          | none => rw [hsz] at h; cases h
          | some sz =>
            rw [hsz] at h
            simp only at h
            cases hb : Nat.beq k g && Nat.ble (len * sz) c.length with
            | false => rw [hb] at h; cases h
            | true =>
              rw [hb, cond_true] at h
              rw [Bool.and_eq_true, nbeq_iff, nble_iff] at hb
              obtain ⟨rfl, hle⟩ := hb
              obtain ⟨b, cap, cs, fz, ha, hK, hc⟩ := S.arr_at hg
              obtain ⟨rfl, hlc⟩ := rel_sown ha hr
              split at h
              · rename_i c' hc'
                cases h
                obtain ⟨hl, hh⟩ := lst _ c' (gd cs) hc' (fun i a hi => by
                  have hlt : i < len * sz := by
                    rcases Nat.lt_or_ge i (len * sz) with h' | h'
                    · exact h'
                    · rw [List.getElem?_take, if_neg (by omega)] at hi; cases hi
                  rw [List.getElem?_take, if_pos hlt] at hi
                  exact hc.rel i a hi)
                have hl' : c'.length = len * sz := by rw [hl, List.length_take]; omega
                exact rel_chunk (E := Env.pure E.H) (cs := cs) (te := te) (hc.ro rfl) hl' (by have := hc.le; omega) hlc (fun h => by cases h) hh (fun i hi => hc.flat i (by omega))
              · cases h
        · cases h
      case map o =>
        cases o with
        | none => simp only [frz] at h; cases h; exact hr.toPure rfl
        | some s => simp only [frz] at h; cases h
      case func f a b =>
        split at h
        · rename_i a' b' ha' hb'
          cases h
          cases hr with
          | func h1 h2 h3 h4 =>
            obtain ⟨l1, r1⟩ := lst a a' _ ha' h3
            obtain ⟨l2, r2⟩ := lst b b' _ hb' h4
            exact .func (by rw [l1]; exact h1) (by rw [l2]; exact h2) r1 r2
        · cases h
      case iface t v =>
        split at h
        · rename_i v1 hv1
          cases h
          cases hr with
          | iface h1 => exact .iface (ih1 _ _ _ hv1 h1)
        · cases h
      case agg c =>
        split at h
        · rename_i c' hc'
          cases h
          cases hr with
          | agg h1 h2 h3 =>
            obtain ⟨l1, r1⟩ := lst c c' _ hc' h3
            exact .agg (by rw [l1]; exact h1) (fun i hi => h2 i (by omega)) r1
        · cases h
      case tuple c =>
        split at h
        · rename_i c' hc'
          cases h
          cases hr with
          | tuple h1 h2 =>
            obtain ⟨l1, r1⟩ := lst c c' _ hc' h2
            exact .tuple (by rw [l1]; exact h1) r1
        · cases h
      all_goals
        cases h
        exact hr.toPure rfl
    · intro c c' h
      cases c with
      | nil => rw [frzs] at h; cases h; exact ⟨rfl, fun i a hi => by simp at hi⟩
      | cons v l =>
        rw [frzs] at h
        cases h1 : frz T σ n v with
        | none => rw [h1] at h; cases h
        | some a =>
          cases h2 : frzs T σ n l with
          | none => rw [h1, h2] at h; cases h
          | some r =>
            rw [h1, h2] at h; cases h
            obtain ⟨hl, hh⟩ := ih2 l r h2
            refine ⟨by simp [hl], ?_⟩
            intro i a' hi
            cases i with
            | zero => simp at hi; subst hi; exact ⟨v, rfl, fun x hx => ih1 v a x h1 hx⟩
            | succ i => simpa using hh i a' (by simpa using hi)

theorem freeze_ok {T K W E σ w} (S : Sim T K W E σ w) {v v' : AV} {σ' : St} {x : Value} (h : freeze T σ v = some (v', σ')) (hr : Rel E v x) : ∃ E', E.le E' ∧ E'.next = E.next ∧ Sim T K W E' σ' w ∧ Rel (Env.pure E'.H) v' x := by
  unfold freeze at h
  cases hp : v.pure with
  | true => rw [hp] at h; cases h; exact ⟨E, Env.le.refl E, rfl, S, hr.toPure hp⟩
  | false =>
    rw [hp, cond_false] at h
    simp only at h
    obtain ⟨E', hl, hn, S'⟩ := markAll_ok (marks σ 40 v []) S
    split at h
    · rename_i v1 hv1
      cases h
      exact ⟨E', hl, hn, S', (frz_ok S' 100000).1 _ _ _ hv1 (hr.mono hl)⟩
    · cases h
end Go.Proofs.YtgklmecijeadlaaGreatDoor.Ab
