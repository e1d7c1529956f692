import Derived.Test.YtgklmecijeadlaaGreatDoorA13
set_option linter.unusedSimpArgs false
set_option linter.unusedVariables false
set_option linter.unusedSectionVars false
namespace Go.Proofs.YtgklmecijeadlaaGreatDoor.Ab

/-! ### maps -/
theorem bytes_beq (a b : List UInt8) : ((⟨a.toArray⟩ : ByteArray) == ⟨b.toArray⟩) = (a == b) := by
  show (a.toArray == b.toArray) = _
  simp
theorem bytes_eq {a b : ByteArray} (h : (a == b) = true) : a = b := by
  have : (a.data == b.data) = true := h
  exact ByteArray.ext (eq_of_beq this)
theorem bytes_refl (a : ByteArray) : (a == a) = true := by
  show (a.data == a.data) = true
  simp

theorem scEq_same {E : Env} {kd : TypeDesc} {k j : AV} {kv jv : Value} {r : Bool} (hk : keyKind kd k = true) (hj : keyKind kd j = true) (h : scEq k j = some r) (rk : Rel E k kv) (rj : Rel E j jv) : Instr.sameNow kd kv jv = some r := by
  cases kd <;> cases k <;> (try (simp [keyKind] at hk; done)) <;> cases j <;> (try (simp [keyKind] at hj; done))
  · cases rk; cases rj
    simp only [scEq] at h
    split at h
    · rename_i he; cases h; simp [Instr.sameNow, he]
    · cases h
  · cases rk; cases rj
    simp only [scEq, Option.some.injEq] at h
    subst h
    simp [Instr.sameNow, bytes_beq]

theorem scEq_some {kd : TypeDesc} {k j : AV} (hk : keyKind kd k = true) (hj : keyKind kd j = true) : ∃ r, scEq k j = some r := by
  cases kd <;> cases k <;> (try (simp [keyKind] at hk; done)) <;> cases j <;> (try (simp [keyKind] at hj; done))
  · simp only [keyKind, decide_eq_true_eq] at hk hj
    simp only [scEq, ← hk, ← hj, if_true]
    exact ⟨_, rfl⟩
  · exact ⟨_, rfl⟩

structure RelM (E : Env) (es : List (AV × AV)) (ms : List MapEntry) : Prop where
  len : es.length = ms.length
  rel : ∀ (i : Nat) (p : AV × AV) (m : MapEntry), es[i]? = some p → ms[i]? = some m → Rel E p.1 m.key ∧ Rel E p.2 m.val

theorem RelM.tail {E : Env} {p : AV × AV} {es : List (AV × AV)} {m : MapEntry} {ms : List MapEntry} (h : RelM E (p :: es) (m :: ms)) : RelM E es ms :=
  ⟨by simpa using h.len, fun i q n hq hn => h.rel (i + 1) q n (by simpa using hq) (by simpa using hn)⟩
theorem RelM.head {E : Env} {p : AV × AV} {es : List (AV × AV)} {m : MapEntry} {ms : List MapEntry} (h : RelM E (p :: es) (m :: ms)) : Rel E p.1 m.key ∧ Rel E p.2 m.val := h.rel 0 p m rfl rfl

theorem find_ok {E : Env} {kd : TypeDesc} {k : AV} {kv : Value} (hk : keyKind kd k = true) (rk : Rel E k kv) : ∀ {es : List (AV × AV)} {ms : List MapEntry} (i : Nat), RelM E es ms → (∀ p, p ∈ es → keyKind kd p.1 = true) →
    (mapFind k es = some none ∧ Instr.findNow kd kv ms i = some none) ∨
    (∃ j v m, mapFind k es = some (some v) ∧ ms[j]? = some m ∧ es[j]? = some (((es[j]?).map (·.1)).getD .junk, v) ∧ Instr.findNow kd kv ms i = some (some (i + j, m.val)) ∧ Rel E v m.val ∧ Instr.sameNow kd kv m.key = some true ∧ (∀ t < j, ∀ q, es[t]? = some q → scEq k q.1 = some false) ∧ (∃ q, es[j]? = some q ∧ scEq k q.1 = some true))
  | [], [], i, _, _ => .inl ⟨rfl, rfl⟩
  | [], _ :: _, i, h, _ => by have := h.len; simp at this
  | _ :: _, [], i, h, _ => by have := h.len; simp at this
  | (j, v) :: es, m :: ms, i, h, hall => by
    obtain ⟨r1, r2⟩ := h.head
    have hj := hall (j, v) (by simp)
    obtain ⟨r, hr⟩ := scEq_some hk hj
    have hs := scEq_same hk hj hr rk r1
    cases r with
    | true =>
      right
      exact ⟨0, v, m, by simp [mapFind, hr], rfl, by simp, by simp [Instr.findNow, hs], r2, hs, fun t ht => absurd ht (Nat.not_lt_zero _), (j, v), rfl, hr⟩
    | false =>
      rcases find_ok hk rk (i + 1) h.tail (fun p hp => hall p (by simp [hp])) with ⟨h1, h2⟩ | ⟨t, u, m', h1, h2, h3, h4, h5, h6, h7, q, h8, h9⟩
      · left; exact ⟨by simp [mapFind, hr, h1], by simp [Instr.findNow, hs, h2]⟩
      · right
        refine ⟨t + 1, u, m', by simp [mapFind, hr, h1], by simpa using h2, by simpa using h3, by simp [Instr.findNow, hs, h4]; omega, h5, h6, ?_, q, by simpa using h8, h9⟩
        intro a ha q hq
        cases a with
        | zero => simp at hq; subst hq; exact hr
        | succ a => exact h7 a (by omega) q (by simpa using hq)

theorem mapSet_none {k v : AV} : ∀ {es : List (AV × AV)}, mapFind k es = some none → mapSet k v es = es ++ [(k, v)]
  | [], _ => rfl
  | (j, u) :: es, h => by
    rw [mapFind] at h
    rw [mapSet]
    split at h
    · cases h
    · rename_i he; rw [he]; simp only [List.cons_append]; rw [mapSet_none h]
    · cases h
theorem mapSet_some {k v : AV} : ∀ {es : List (AV × AV)} {j : Nat} {q : AV × AV}, (∀ t < j, ∀ q, es[t]? = some q → scEq k q.1 = some false) → es[j]? = some q → scEq k q.1 = some true → mapSet k v es = es.set j (q.1, v)
  | [], j, q, _, h, _ => by simp at h
  | (i, u) :: es, 0, q, _, h, he => by
    simp at h; subst h
    rw [mapSet, he]; rfl
  | (i, u) :: es, j + 1, q, hlt, h, he => by
    have h0 := hlt 0 (by omega) (i, u) rfl
    simp only at h0
    rw [mapSet, h0]
    simp only [List.set_cons_succ, List.cons.injEq, true_and]
    exact mapSet_some (fun t ht q hq => hlt (t + 1) (by omega) q (by simpa using hq)) (by simpa using h) he

section
variable {T : Tab} {P : Program} (hT : TabOk T P) {K : Nat → Prop} {W : World} {E : Env} {σ : St} {w : World} (S : Sim T K W E σ w)
include hT

theorem run_checkKey {kt : TypeId} {kd : TypeDesc} {k : AV} {kv : Value} {b : Bool} (hu : T.und kt = some kd) (hk : keyKind kd k = true) (rk : Rel E k kv) : (Instr.checkKey b 10000 kt kv).run P w = .ok () w := by
  rw [show (10000 : Nat) = 9999 + 1 from rfl, Instr.checkKey]
  cases kd <;> cases k <;> (try (simp [keyKind] at hk; done)) <;> (cases rk; simp only [Sem.run_bind, run_und hT hu, Result.andThen_ok]; rfl)

include S
theorem mapOf_ok {m : AV} {mv : Value} {es : List (AV × AV)} (h : mapOf σ m = some es) (hr : Rel E m mv) : (mv = .map none ∧ es = []) ∨ ∃ s b ms cl, m = .map (some s) ∧ mv = .map (some b) ∧ σ.get s = some (.map es) ∧ E.at_ s = some (b, 0, 0) ∧ w.heap[b]? = some (.map ms cl) ∧ RelM E es ms.toList ∧ E.H b = none := by
  unfold mapOf at h
  split at h
  · cases h; cases hr; exact .inl ⟨rfl, rfl⟩
  · rename_i s
    split at h
    · rename_i es' hg
      cases h
      obtain ⟨b, cap, g, ha, hK, rfl, rfl, ms, cl, hmo⟩ := S.blk s _ hg
      cases hr with
      | map ha' =>
        rw [ha] at ha'; cases ha'
        refine .inr ⟨s, b, ms, cl, rfl, rfl, hg, ha, hmo.heap, ⟨by simpa using hmo.len, ?_⟩, hmo.own⟩
        intro i p m hp hm
        obtain ⟨m', hm', r1, r2⟩ := hmo.rel i p hp
        have : m' = m := by simp at hm; rw [hm] at hm'; exact (Option.some.inj hm').symm
        subst this
        exact ⟨r1, r2⟩
      | mapS _ hn => exact (S.not_stale hg hn).elim
    · cases h
  · cases h

theorem run_getObj {b : Nat} {ms : Array MapEntry} {cl : Nat} (h : w.heap[b]? = some (.map ms cl)) : (getObj b).run P w = .ok (.map ms cl) w := by unfold getObj; simp only [Sem.run, h]

theorem lookupA_ok {t : TypeId} {m k r : AV} {mv kv : Value} {ok : Bool} (h : lookupA T σ t m k ok = some r) (hm : Rel E m mv) (hk : Rel E k kv) : ∃ y, (Instr.lookup t mv kv ok).run P w = .ok y w ∧ Rel E r y := by
  unfold lookupA at h
  split at h
  · rename_i kt et hu
    split at h
    · rename_i kd es hkd hes
      cases hb : keyKind kd k && es.all (fun p => keyKind kd p.1) with
      | false => rw [hb] at h; cases h
      | true =>
        rw [hb, cond_true] at h
        rw [Bool.and_eq_true, List.all_eq_true] at hb
        obtain ⟨hkk, hall⟩ := hb
        have main : ∀ ms : Array MapEntry, RelM E es ms.toList → (do
            Instr.checkKey ms.isEmpty 10000 kt kv
            let (v, o) ← match ← Instr.findKey kt kv ms.toList with
              | some (_, v) => pure (v, true)
              | none => pure (← zeroValue et, false)
            pure (if ok then .tuple #[v, .bool o] else v) : Sem Value).run P w = (Instr.lookup t mv kv ok).run P w → ∃ y, (Instr.lookup t mv kv ok).run P w = .ok y w ∧ Rel E r y := by
          intro ms hM hrun
          rw [← hrun]
          simp only [Sem.run_bind, run_checkKey hT hkd hkk hk, Result.andThen_ok, Instr.findKey, run_und hT hkd]
          rcases find_ok hkk hk 0 hM hall with ⟨h1, h2⟩ | ⟨j, v, m', h1, h2, h3, h4, h5, _⟩
          · rw [h2]
            rw [h1] at h
            cases hz : T.zeroA et with
            | none => rw [hz] at h; cases h
            | some z =>
              rw [hz] at h
              simp only at h
              unfold Tab.zeroA at hz
              cases hzt : T.zero et with
              | none => rw [hzt] at hz; cases hz
              | some zv =>
                rw [hzt] at hz
                have hzr := rel_ofV (E := E) hz
                simp only [Sem.run_bind, Sem.run_pure, Result.andThen_ok, run_zero hT hzt]
                cases ok with
                | true =>
                  cases h
                  refine ⟨_, rfl, .tuple rfl ?_⟩
                  intro i a hi
                  match i, hi with
                  | 0, hi => simp at hi; subst hi; exact hzr
                  | 1, hi => simp at hi; subst hi; exact .bool
                | false => cases h; exact ⟨_, rfl, hzr⟩
          · rw [h4]
            rw [h1] at h
            simp only at h
            simp only [Sem.run_bind, Sem.run_pure, Result.andThen_ok]
            cases ok with
            | true =>
              cases h
              refine ⟨_, rfl, .tuple rfl ?_⟩
              intro i a hi
              match i, hi with
              | 0, hi => simp at hi; subst hi; exact h5
              | 1, hi => simp at hi; subst hi; exact .bool
            | false => cases h; exact ⟨_, rfl, h5⟩
        rcases mapOf_ok hT S hes hm with ⟨rfl, rfl⟩ | ⟨s, b, ms, cl, rfl, rfl, hg, ha, hh, hM, hH⟩
        · refine main #[] ⟨rfl, fun i p m h => by simp at h⟩ ?_
          unfold Instr.lookup
          simp only [Sem.run_bind, run_und hT hu, Result.andThen_ok, Sem.run_pure]
          rfl
        · refine main ms hM ?_
          unfold Instr.lookup
          simp only [Sem.run_bind, run_und hT hu, Result.andThen_ok, Sem.run_pure, run_getObj hT S hh]
          rfl
    · cases h
  · cases h

theorem sameBits_key {kd : TypeDesc} {a b : Value} (h : Instr.sameNow kd a b = some true) : Instr.sameBits 10000 b a = true ∧ a = b := by
  cases kd <;> cases a <;> (try (simp [Instr.sameNow] at h; done)) <;> cases b <;> (try (simp [Instr.sameNow] at h; done))
  · simp only [Instr.sameNow, Option.some.injEq, beq_iff_eq] at h; subst h; simp [Instr.sameBits]
  · simp only [Instr.sameNow] at h
    split at h
    · rename_i he; subst he
      simp only [Option.some.injEq, beq_iff_eq] at h; subst h; simp [Instr.sameBits]
    · cases h
  · simp only [Instr.sameNow, Option.some.injEq] at h
    have := bytes_eq h
    subst this
    exact ⟨bytes_refl _, rfl⟩

theorem setObj_blk {b : Nat} {ms ms' : Array MapEntry} {cl cl' : Nat} (h : w.heap[b]? = some (.map ms cl)) : (setObj b (.map ms' cl')).run P w = .ok () (setBlk w b (.map ms' cl')) := by
  unfold setObj; simp only [Sem.run, h]; rfl

theorem mapUpdateA_ok {t : TypeId} {m k v : AV} {mv kv vv : Value} {σ' : St} (h : mapUpdateA T σ t m k v = some σ') (hm : Rel E m mv) (hk : Rel E k kv) (hv : Rel E v vv) : ∃ w', (Instr.mapUpdate t mv kv vv).run P w = .ok () w' ∧ Sim T K W E σ' w' := by
  unfold mapUpdateA at h
  split at h
  · rename_i kt et s hu
    split at h
    · rename_i kd es hkd hg
      cases hb : keyKind kd k && es.all (fun p => keyKind kd p.1) with
      | false => rw [hb] at h; cases h
      | true =>
        rw [hb, cond_true] at h
        cases h
        rw [Bool.and_eq_true, List.all_eq_true] at hb
        obtain ⟨hkk, hall⟩ := hb
        have hes : mapOf σ (.map (some s)) = some es := by simp [mapOf, hg]
        rcases mapOf_ok hT S hes hm with ⟨rfl, rfl⟩ | ⟨s', b, ms, cl, e, rfl, hg', ha, hh, hM, hH⟩
        · cases hm with
          | mapS _ hn => exact (S.not_stale hg hn).elim
        · cases e
          have hfin : ∀ (ms' : Array MapEntry) (cl' : Nat), RelM E (mapSet k v es) ms'.toList → Sim T K W E (σ.put s (.map (mapSet k v es))) (setBlk w b (.map ms' cl')) := by
            intro ms' cl' hM'
            refine S.put hg ha rfl rfl rfl setBlk_size (fun j hj => setBlk_ne hj) (.inl hH) ⟨rfl, rfl, ms', cl', setBlk_self (lt_of_some hh), by simpa using hM'.len, ?_, hH⟩
            intro i p hp
            have hlt : i < ms'.size := by
              have := hM'.len
              rcases Nat.lt_or_ge i (mapSet k v es).length with h' | h'
              · simp at this; omega
              · rw [List.getElem?_eq_none h'] at hp; cases hp
            have := hM'.rel i p ms'[i] hp (by simp [hlt])
            exact ⟨ms'[i], by simp [hlt], this.1, this.2⟩
          rcases find_ok hkk hk 0 hM hall with ⟨h1, h2⟩ | ⟨j, u, m', h1, h2, h3, h4, h5, h6, h7, q, h8, h9⟩
          · have hM' : RelM E (mapSet k v es) (ms.push { key := kv, val := vv, born := cl }).toList := by
              rw [mapSet_none h1]
              refine ⟨by simpa using hM.len, ?_⟩
              intro i p m hp hm'
              have hl := hM.len
              rw [Array.toList_push] at hm'
              rcases Nat.lt_or_ge i es.length with hlt | hge
              · rw [List.getElem?_append_left hlt] at hp
                rw [List.getElem?_append_left (by omega)] at hm'
                exact hM.rel i p m hp hm'
              · rw [List.getElem?_append_right hge] at hp
                rw [List.getElem?_append_right (by omega)] at hm'
                rw [← hl] at hm'
                match i - es.length, hp, hm' with
                | 0, hp, hm' => simp at hp hm'; subst hp; subst hm'; exact ⟨hk, hv⟩
            refine ⟨_, ?_, hfin _ (cl + 1) hM'⟩
            unfold Instr.mapUpdate
            simp only [Sem.run_bind, run_und hT hu, Result.andThen_ok, run_getObj hT S hh, run_checkKey hT hkd hkk hk, Instr.findKey, run_und hT hkd]
            rw [h2]
            simp only [Sem.run_pure, Result.andThen_ok]
            exact setObj_blk hT S hh
          · obtain ⟨hsb, hkeq⟩ := sameBits_key hT S h6
            rw [Nat.zero_add] at h4
            have hmj : ms[j]? = some m' := by simpa using h2
            have hjlt : j < ms.size := by
              rcases Nat.lt_or_ge j ms.size with h' | h'
              · exact h'
              · rw [Array.getElem?_eq_none h'] at hmj; cases hmj
            have hM' : RelM E (mapSet k v es) (ms.modify j fun e => { e with key := kv, val := vv }).toList := by
              rw [mapSet_some h7 h8 h9]
              refine ⟨by simpa using hM.len, ?_⟩
              intro i p m hp hm'
              rw [Array.getElem?_toList, Array.getElem?_modify] at hm'
              by_cases e : j = i
              · subst e
                rw [if_pos rfl, hmj] at hm'
                simp only [Option.map_some, Option.some.injEq] at hm'
                subst hm'
                have hlt : j < es.length := by have := hM.len; simp at this; omega
                rw [List.getElem?_set_self hlt] at hp
                simp only [Option.some.injEq] at hp
                subst hp
                refine ⟨?_, hv⟩
                have := (hM.rel j q m' h8 h2).1
                simp only
                rw [hkeq]; exact this
              · rw [if_neg e] at hm'
                rw [List.getElem?_set_ne e] at hp
                exact hM.rel i p m hp (by rw [Array.getElem?_toList]; exact hm')
            refine ⟨_, ?_, hfin _ cl hM'⟩
            unfold Instr.mapUpdate
            simp only [Sem.run_bind, run_und hT hu, Result.andThen_ok, run_getObj hT S hh, run_checkKey hT hkd hkk hk, Instr.findKey, run_und hT hkd]
            rw [h4]
            simp only [Sem.run_pure, Result.andThen_ok, Sem.run_bind, Instr.keyThatStays, hmj, Option.map_some, Option.getD_some, hsb, if_true]
            exact setObj_blk hT S hh
    · cases h
  · cases h
end
end Go.Proofs.YtgklmecijeadlaaGreatDoor.Ab
