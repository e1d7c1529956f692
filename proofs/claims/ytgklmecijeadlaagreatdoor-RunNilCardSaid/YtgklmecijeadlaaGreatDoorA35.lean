import Derived.Test.YtgklmecijeadlaaGreatDoorA34
import Derived.Lib.LaidU8
import Derived.Below
set_option linter.unusedSimpArgs false
set_option linter.unusedVariables false
set_option linter.unusedSectionVars false
namespace Go.Proofs.YtgklmecijeadlaaGreatDoor.Ab
open Go.RowKit Go.Lib

/-! ### a row's begin: what lies there when the law is called is written no more -/
def heapH (W : World) : Hp := fun b => match W.heap[b]? with | some (.cells c t _) => some (c, t) | _ => none
theorem heapH_at {W : World} {b : Nat} {c : Array Value} {t : TypeId} {fz : Nat × Nat} (h : W.heap[b]? = some (.cells c t fz)) : heapH W b = some (c, t) := by unfold heapH; rw [h]
theorem heapH_in (W : World) : (heapH W).In W := by
  intro b c t h
  unfold heapH at h
  split at h
  · rename_i c' t' fz hb
    cases h
    exact ⟨fz, hb⟩
  · cases h

theorem top_sim {T : Tab} {W : World} (hg : ∀ g row, T.glob g = some row → Rel (Env.pure (heapH W)) (.iptr row 0) (.pointer (some ⟨g, 0, none⟩))) :
    Sim T (fun b => b < W.heap.size) { W with drawn := W.heap.size } (Env.pure (heapH W)) ⟨[], 0, []⟩ W where
  os := rfl
  tape := rfl
  output := rfl
  size := Nat.le_refl _
  keep := fun _ _ => rfl
  kin := fun _ h => h
  inn := heapH_in W
  next := rfl
  live := fun s b cap g h => by cases h
  blk := fun s B h => by cases h
  inj := fun s t b cap g cap' g' h => by cases h
  glob := hg
  off := fun b h h' => absurd h' (by show ¬ W.heap.size ≤ b; omega)

theorem top_below {T : Tab} {W W' : World} {E : Env} {σ : St} (S : Sim T (fun b => b < W.heap.size) { W with drawn := W.heap.size } E σ W') : Below W.heap.size W W' :=
  ⟨S.os, S.tape, S.output, S.size, fun k hk => S.keep k hk⟩

/-- from a run of the machine to the call -/
theorem top_calls {T : Tab} {P : Program} (hT : TabOk T P) (hX : ExtOk T P) {W : World} (hg : ∀ g row, T.glob g = some row → Rel (Env.pure (heapH W)) (.iptr row 0) (.pointer (some ⟨g, 0, none⟩)))
    {f : FuncId} {xs : List AV} {vs : Array Value} (hE : (callFunc f vs).run P W = .ok (.enter f vs) W) {n : Nat} {r : AV} {σ' : St} (h : callF T n f xs ⟨[], 0, []⟩ = some (.ret r, σ')) (hr : RelL (Env.pure (heapH W)) xs vs) :
    Calls P f vs W fun e W' => ∃ v E', e = .returned v ∧ Rel E' r v ∧ Below W.heap.size W W' := by
  rw [call_eq] at h
  rcases call_ok hT hX n f xs _ _ _ h _ _ _ W vs (top_sim hg) hr with ⟨_, hc⟩ | ⟨v, w', hv, _⟩
  · refine hc.mono ?_
    rintro e W' ⟨E', hl, S, hre⟩
    cases e with
    | returned v => exact ⟨v, E', rfl, hre, top_below S⟩
    | _ => exact hre.elim
  · rw [hE] at hv
    cases hv

theorem callFunc_enter {P : Program} {f : FuncId} {F : Func} (hf : P.funcs[f]? = some F) (hn : (F.name == "runtime.NumGoroutine") = false) (hb : F.body.isSome = true) (vs : Array Value) (w : World) : (callFunc f vs).run P w = .ok (.enter f vs) w := by
  have h1 : F.name ≠ "runtime.NumGoroutine" := by simpa using hn
  obtain ⟨c, hc⟩ := Option.isSome_iff_exists.1 hb
  simp [callFunc, hf, h1, hc]

/-! ### tables -/
theorem glob_strs {P : Program} {W : World} {name : String} {g : Nat} {t e : TypeId} {ss : List (List UInt8)} (hn : P.globalNamed name = some g) (hty : (P.globals[g]?).map (·.type) = some t) (ht : P.underlying t = some (.array ss.length e)) (he : P.underlying e = some .string)
    (hc : P.cellsOf e = 1) (hct : P.cellsOf t = ss.length) (h : VarReads P W name (.agg (ss.map fun s => .lit (.string s)))) : Rel (Env.pure (heapH W)) (.iptr (ss.map .str) 0) (.pointer (some ⟨g, 0, none⟩)) := by
  obtain ⟨g', t', cs, fuel, p, hg, hty', hvar, hd⟩ := h
  obtain rfl := Option.some.inj (hn.symm.trans hg)
  obtain rfl := Option.some.inj (hty.symm.trans hty')
  have hb : ∃ te fz, W.heap[g]? = some (.cells cs te fz) := by
    unfold World.var? at hvar
    rw [hn] at hvar
    simp only [Option.bind_some] at hvar
    split at hvar
    · rename_i c te fz hh
      cases hvar
      exact ⟨te, fz, hh⟩
    · cases hvar
  obtain ⟨te, fz, hb⟩ := hb
  have hel : ∀ (i : Nat) (s : List UInt8), ss[i]? = some s → cs[i]? = some (Value.string ⟨s.toArray⟩) := by
    intro i s hi
    have hlt : i < ss.length := lt_of_get hi
    obtain ⟨fuel', d, q, hdi, hte⟩ := array_elem ht hd i hlt
    rw [List.getElem?_map, hi] at hdi
    cases hdi
    rw [hc, Nat.mul_one] at hte
    obtain ⟨s', hs', hx, _⟩ := DataW.trod_string he hte
    have e0 := congrArg (fun l : List Value => l[0]?) hs'
    simp only [List.getElem?_take, List.getElem?_drop, Nat.add_zero, Array.getElem?_toList] at e0
    rw [if_pos (by decide)] at e0
    rw [e0]
    have hs : s = s'.data.toList := by
      have := congrArg Prod.fst hx
      simpa using this
    subst hs
    cases s'
    simp
  have hsz : ss.length ≤ cs.size := by
    rcases Nat.lt_or_ge cs.size ss.length with h' | h'
    · have := hel cs.size ss[cs.size] (List.getElem?_eq_getElem h')
      rw [Array.getElem?_eq_none (Nat.le_refl _)] at this
      cases this
    · exact h'
  have hcell : ∀ (i : Nat) (s : List UInt8), ss[i]? = some s → gd cs (0 + i) = Value.string ⟨s.toArray⟩ := fun i s hi => by rw [Nat.zero_add]; exact gd_some (hel i s hi)
  refine Rel.iptr (o := 0) (c := cs) (te := te) (heapH_at hb) (by simpa using hsz) ?_ ?_
  · intro j hj
    rw [List.length_map] at hj
    rw [hcell j _ (List.getElem?_eq_getElem hj)]
    rfl
  · intro j a ha
    rw [List.getElem?_map] at ha
    cases hs : ss[j]? with
    | none => rw [hs] at ha; cases ha
    | some s =>
      rw [hs] at ha
      cases ha
      rw [hcell j s hs]
      exact .str
end Go.Proofs.YtgklmecijeadlaaGreatDoor.Ab
