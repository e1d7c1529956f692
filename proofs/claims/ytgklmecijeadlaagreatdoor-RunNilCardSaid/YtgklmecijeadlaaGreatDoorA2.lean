import Derived.Test.YtgklmecijeadlaaGreatDoorA1
set_option linter.unusedSimpArgs false
set_option linter.unusedVariables false
set_option linter.unusedSectionVars false
namespace Go.Proofs.YtgklmecijeadlaaGreatDoor.Ab

structure TabOk (T : Tab) (P : Program) : Prop where
  fn : ∀ f F, T.fn f = some F → P.funcs[f]? = some F ∧ (F.name == "runtime.NumGoroutine") = false
  und : ∀ t d, T.und t = some d → P.underlying t = some d
  size : ∀ t n, T.size t = some n → ∃ i, P.info? t = some i ∧ i.size = n
  bytes : ∀ t n, T.bytes t = some n → ∃ i, P.info? t = some i ∧ i.bytes = n
  zero : ∀ t v, T.zero t = some v → ∃ i, P.info? t = some i ∧ i.zero = some v
  eqT : ∀ t fs, T.eqT t = true → T.und t = some (.struct fs) → P.stoodInHeld t = false ∧ P.eqGuardType P.depth t = false ∧ offs T 0 fs.toList = true
  mixed : P.follows .mixedOrders = true
  meth : ∀ t name f, T.meth t name = some f → ∀ v w, (method (P.types.size + Made.depth) t v name).run P w = .ok (f, v) w
  zsize : ∀ t v n, T.zero t = some v → T.size t = some n → v.cells.size = n
  flds : ∀ t fs, T.und t = some (.struct fs) → ∀ f, f ∈ fs.toList → ∃ n, T.size f.type = some n

section
variable {T : Tab} {P : Program} (hT : TabOk T P) {w : World}
include hT
theorem run_und {t : TypeId} {d : TypeDesc} (h : T.und t = some d) : (underlying t).run P w = .ok d w := by
  unfold underlying
  simp [hT.und t d h]
theorem run_size {t : TypeId} {n : Nat} (h : T.size t = some n) : (sizeOf t).run P w = .ok n w := by
  obtain ⟨i, hi, rfl⟩ := hT.size t n h
  unfold sizeOf typeInfo
  simp [hi]
theorem run_zero {t : TypeId} {v : Value} (h : T.zero t = some v) : (zeroValue t).run P w = .ok v w := by
  obtain ⟨i, hi, hz⟩ := hT.zero t v h
  unfold zeroValue typeInfo
  simp [hi, hz]
theorem run_bytes {t : TypeId} {n : Nat} (h : T.bytes t = some n) : ∃ i, (typeInfo t).run P w = .ok i w ∧ i.bytes = n := by
  obtain ⟨i, hi, rfl⟩ := hT.bytes t n h
  refine ⟨i, ?_, rfl⟩
  unfold typeInfo
  simp [hi]
theorem run_agg {t : TypeId} {b : Bool} (h : T.agg t = some b) : (isAgg t).run P w = .ok b w := by
  unfold Tab.agg at h
  unfold isAgg
  cases hd : T.und t with
  | none => rw [hd] at h; cases h
  | some d =>
    rw [hd] at h
    simp only [Sem.run_bind, run_und hT hd, Result.andThen_ok]
    cases d <;> simp at h <;> subst h <;> rfl
end

/-! ### constants, operands -/
theorem str_eq (s : ByteArray) : (⟨s.data.toList.toArray⟩ : ByteArray) = s := by cases s; simp
theorem Rel.str' {E : Env} {s : ByteArray} : Rel E (.str s.data.toList) (.string s) := by
  have := Rel.str (E := E) (s := s.data.toList)
  rwa [str_eq] at this

theorem rel_ofV1 {E : Env} {v : Value} {a : AV} (h : ofV1 v = some a) : Rel E a v ∧ v.oneCell' = true := by
  unfold ofV1 at h
  split at h <;> first
    | (cases h; refine ⟨?_, rfl⟩; first | exact .bool | exact .int | exact .float | exact .str' | exact .nilptr | exact .snil | exact .map0 | exact .nilfn | exact .nilif)
    | cases h

theorem rel_ofVs {E : Env} : ∀ {l : List Value} {c : List AV}, ofVs l = some c → c.length = l.length ∧ ∀ (i : Nat) (a : AV), c[i]? = some a → ∃ v, l[i]? = some v ∧ Rel E a v ∧ v.oneCell' = true
  | [], c, h => by cases h; simp
  | v :: l, c, h => by
    rw [ofVs] at h
    cases h1 : ofV1 v with
    | none => rw [h1] at h; cases h
    | some a =>
      cases h2 : ofVs l with
      | none => rw [h1, h2] at h; cases h
      | some r =>
        rw [h1, h2] at h
        cases h
        obtain ⟨hl, hr⟩ := rel_ofVs h2
        refine ⟨by simp [hl], ?_⟩
        intro i x hx
        cases i with
        | zero => simp at hx; subst hx; exact ⟨v, rfl, rel_ofV1 h1⟩
        | succ i => simpa using hr i x (by simpa using hx)

theorem relL_ofVs {E : Env} {cs : Array Value} {c : List AV} (h : ofVs cs.toList = some c) : RelL E c cs ∧ ∀ i, i < c.length → (gd cs i).oneCell' = true := by
  obtain ⟨hl, hr⟩ := rel_ofVs (E := E) h
  refine ⟨⟨by simpa using hl, ?_⟩, ?_⟩
  · intro i a hi
    obtain ⟨v, hv, r, _⟩ := hr i a hi
    rw [gd_of (by simpa using hv)]; exact r
  · intro i hi
    obtain ⟨v, hv, _, f⟩ := hr i c[i] (by simp [hi])
    rw [gd_of (by simpa using hv)]; exact f

theorem rel_ofV {E : Env} {v : Value} {a : AV} (h : ofV v = some a) : Rel E a v := by
  unfold ofV at h
  split at h
  · rename_i cs
    cases h1 : ofVs cs.toList with
    | none => rw [h1] at h; cases h
    | some c =>
      rw [h1] at h; cases h
      obtain ⟨r, f⟩ := relL_ofVs (E := E) h1
      exact .agg r.len f r.at_
  · cases h
    exact .tuple rfl (fun i a hi => by simp at hi)
  · exact (rel_ofV1 h).1

/-- the zero value's cells -/
theorem zero_cells {T : Tab} {P : Program} (hT : TabOk T P) {E : Env} {t : TypeId} {z : AV} {w : World} (h : T.zeroA t = some z) (hf : z.cells.all AV.flat = true) :
    ∃ v, (zeroValue t).run P w = .ok v w ∧ Rel E z v ∧ RelL E z.cells v.cells ∧ ∀ i, i < v.cells.size → (gd v.cells i).oneCell' = true := by
  unfold Tab.zeroA at h
  cases hz : T.zero t with
  | none => rw [hz] at h; cases h
  | some v =>
    rw [hz] at h
    exact ⟨v, run_zero hT hz, rel_ofV h, (rel_ofV h).cells hf⟩

def EvRel (E : Env) (ev : Operand → Option AV) (ρ : Operand → Value) : Prop := ∀ x a, ev x = some a → Rel E a (ρ x)

theorem evRel {T : Tab} {E : Env} {tmps : List AV} {A : Act} (h : RelL E tmps A.tmps) (hg : ∀ g row, T.glob g = some row → Rel E (.iptr row 0) (.pointer (some ⟨g, 0, none⟩))) : EvRel E (evalA T tmps) A.eval := by
  intro x a ha
  cases x with
  | tmp t => exact h.at_ t a ha
  | const v => exact rel_ofV ha
  | global g =>
    simp only [evalA, Option.map_eq_some_iff] at ha
    obtain ⟨row, hr, rfl⟩ := ha
    exact hg g row hr
  | func f =>
    simp only [evalA, Option.some.injEq] at ha
    subst ha
    exact .func rfl rfl (fun i a hi => by simp at hi) (fun i a hi => by simp at hi)

theorem EvRel.mono {E E' : Env} {ev : Operand → Option AV} {ρ : Operand → Value} (h : EvRel E ev ρ) (hl : E.le E') : EvRel E' ev ρ := fun x a ha => (h x a ha).mono hl

theorem rel_evals {E : Env} {ev : Operand → Option AV} {ρ : Operand → Value} (h : EvRel E ev ρ) : ∀ {l : List Operand} {c : List AV}, evals ev l = some c → c.length = l.length ∧ ∀ (i : Nat) (a : AV), c[i]? = some a → ∃ x, l[i]? = some x ∧ Rel E a (ρ x)
  | [], c, hc => by cases hc; simp
  | x :: l, c, hc => by
    rw [evals] at hc
    cases h1 : ev x with
    | none => rw [h1] at hc; cases hc
    | some a =>
      cases h2 : evals ev l with
      | none => rw [h1, h2] at hc; cases hc
      | some r =>
        rw [h1, h2] at hc; cases hc
        obtain ⟨hl, hr⟩ := rel_evals h h2
        refine ⟨by simp [hl], ?_⟩
        intro i y hy
        cases i with
        | zero => simp at hy; subst hy; exact ⟨x, rfl, h x a h1⟩
        | succ i => simpa using hr i y (by simpa using hy)

theorem relL_evals {E : Env} {ev : Operand → Option AV} {ρ : Operand → Value} (h : EvRel E ev ρ) {l : Array Operand} {c : List AV} (hc : evals ev l.toList = some c) : RelL E c (l.map ρ) := by
  obtain ⟨hl, hr⟩ := rel_evals h hc
  refine ⟨by simpa using hl, ?_⟩
  intro i a hi
  obtain ⟨x, hx, r⟩ := hr i a hi
  rw [gd_of (v := ρ x) (by simp at hx; simp [hx])]; exact r

/-! ### reading cells -/
theorem cell_heap {w : World} {b off : Nat} {c : Array Value} {te : TypeId} {fz : Nat × Nat} (h : w.heap[b]? = some (.cells c te fz)) : w.cell? ⟨b, off, none⟩ = c[off]? := by
  simp [World.cell?, h]
theorem Addr.add_mk (b off n : Nat) : (Addr.mk b off none).add n = ⟨b, off + n, none⟩ := by
  unfold Addr.add; split
  · subst_vars; rfl
  · rfl

theorem run_load_at {P : Program} {w : World} {b off : Nat} {c : Array Value} {te : TypeId} {fz : Nat × Nat} {v : Value} (h : w.heap[b]? = some (.cells c te fz)) (hv : c[off]? = some v) : (load ⟨b, off, none⟩).run P w = .ok v w := by
  rw [run_load, cell_heap h, hv]

theorem run_loads_from {P : Program} {w : World} {b off : Nat} {c : Array Value} {te : TypeId} {fz : Nat × Nat} (h : w.heap[b]? = some (.cells c te fz)) : ∀ (n i : Nat) (acc : Array Value), off + i + n ≤ c.size →
    (loadCellsFrom ⟨b, off, none⟩ i n acc).run P w = .ok (acc ++ c.extract (off + i) (off + i + n)) w
  | 0, i, acc, _ => by
    simp [loadCellsFrom]
    omega
  | n + 1, i, acc, hs => by
    have hlt : off + i < c.size := by omega
    rw [loadCellsFrom, Sem.run_bind, Addr.add_mk, run_load_at h (gd_lt hlt), Result.andThen_ok, run_loads_from h n (i + 1) _ (by omega)]
    congr 1
    have e : gd c (off + i) = c[off + i] := by have := gd_lt hlt; rw [Array.getElem?_eq_getElem hlt] at this; exact (Option.some.inj this).symm
    apply Array.ext'
    simp only [Array.toList_append, Array.toList_push, Array.toList_extract, List.extract, e]
    rw [show off + i + (n + 1) - (off + i) = n + 1 by omega, show off + (i + 1) + n - (off + (i + 1)) = n by omega]
    rw [List.append_assoc]
    congr 1
    rw [show off + (i + 1) = off + i + 1 by omega]
    have := List.drop_eq_getElem_cons (l := c.toList) (i := off + i) (by simpa using hlt)
    rw [this]
    simp

theorem run_loads {P : Program} {w : World} {b off n : Nat} {c : Array Value} {te : TypeId} {fz : Nat × Nat} (h : w.heap[b]? = some (.cells c te fz)) (hs : off + n ≤ c.size) :
    (loadCells ⟨b, off, none⟩ n).run P w = .ok (c.extract off (off + n)) w := by
  rw [loadCells, run_loads_from h n 0 #[] (by omega)]
  simp

theorem gd_extract {c : Array Value} {off n i : Nat} (hs : off + n ≤ c.size) (hi : i < n) : gd (c.extract off (off + n)) i = gd c (off + i) := by
  simp only [gd, Array.getD_eq_getD_getElem?]
  rw [Array.getElem?_extract]
  rw [if_pos (by omega)]

/-- what lies behind a row: the concrete block -/
structure Behind (E : Env) (w : World) (c : List AV) (off : Nat) (p : Value) (b o : Nat) (cs : Array Value) (te : TypeId) (fz : Nat × Nat) : Prop where
  p : p = .pointer (some ⟨b, o + off, none⟩)
  heap : w.heap[b]? = some (.cells cs te fz)
  size : o + c.length ≤ cs.size
  rel : ∀ (j : Nat) (a : AV), c[j]? = some a → Rel E a (gd cs (o + j))
  flat : ∀ j, j < c.length → (gd cs (o + j)).oneCell' = true

theorem Sim.at_of {T K W E σ w} (S : Sim T K W E σ w) {s b cap g : Nat} {B : Blk} (hg : σ.get s = some B) (ha : E.at_ s = some (b, cap, g)) : BlkRel T E w b cap g B := by
  obtain ⟨b', cap', g', ha', _, h⟩ := S.blk s B hg
  rw [ha] at ha'; cases ha'
  exact h
theorem Sim.not_stale {T K W E σ w} (S : Sim T K W E σ w) {s : Nat} {B : Blk} (hg : σ.get s = some B) (ha : E.at_ s = none) : False := by
  obtain ⟨b', cap', g', ha', _, _⟩ := S.blk s B hg
  rw [ha] at ha'; cases ha'

/-- an array's header that is valid -/
theorem Sim.arr_at {T K W E σ w} (S : Sim T K W E σ w) {s g : Nat} {c : List AV} {te : TypeId} {m : Nat} (hg : σ.get s = some (.arr g c te m)) : ∃ b cap cs fz, E.at_ s = some (b, cap, g) ∧ ¬ K b ∧ ArrOk T E w b cap g c te m cs fz := by
  obtain ⟨b, cap, g', ha, hK, rfl, cs, fz, h⟩ := S.blk s _ hg
  exact ⟨b, cap, cs, fz, ha, hK, h⟩
theorem Sim.cells_at {T K W E σ w} (S : Sim T K W E σ w) {s : Nat} {c : List AV} {te : TypeId} {m : Nat} (hg : σ.get s = some (.cells c te m)) : ∃ b cs, E.at_ s = some (b, 0, 0) ∧ ¬ K b ∧ CellsOk E w b c te m cs := by
  obtain ⟨b, cap, g', ha, hK, rfl, rfl, cs, h⟩ := S.blk s _ hg
  exact ⟨b, cs, ha, hK, h⟩

theorem rel_ptr {T K W E σ w} (S : Sim T K W E σ w) {s off b : Nat} {B : Blk} {v : Value} (hg : σ.get s = some B) (ha : E.at_ s = some (b, 0, 0)) (h : Rel E (.ptr s off) v) : v = .pointer (some ⟨b, off, none⟩) := by
  cases h with
  | ptr ha' => rw [ha] at ha'; cases ha'; rfl
  | ptrS _ hn => exact (S.not_stale hg hn).elim
theorem rel_aptr {E : Env} {s g off b cap : Nat} {v : Value} (ha : E.at_ s = some (b, cap, g)) (h : Rel E (.aptr s g off) v) : v = .pointer (some ⟨b, off, none⟩) := by
  cases h with
  | aptr _ ha' => rw [ha] at ha'; cases ha'; rfl
  | aptrS _ hn => exact absurd (hn _ _ _ ha) (Nat.lt_irrefl _)
theorem rel_sown {E : Env} {s g len b cap : Nat} {v : Value} (ha : E.at_ s = some (b, cap, g)) (h : Rel E (.sown s g len) v) : v = .slice (some ⟨b, 0, none⟩) len cap ∧ len ≤ cap := by
  cases h with
  | sown _ ha' hl => rw [ha] at ha'; cases ha'; exact ⟨rfl, hl⟩
  | sownS _ hn => exact absurd (hn _ _ _ ha) (Nat.lt_irrefl _)

theorem behind {T K W E σ w} (S : Sim T K W E σ w) {a : AV} {v : Value} {c : List AV} {off : Nat} (h : σ.row a = some (c, off)) (hr : Rel E a v) : ∃ b o cs te fz, Behind E w c off v b o cs te fz := by
  cases a <;> simp only [St.row] at h
  case ptr s off' =>
    split at h
    · rename_i c' te m hg
      cases h
      obtain ⟨b, cs, ha, _, hc⟩ := S.cells_at hg
      exact ⟨b, 0, cs, te, (0, 0), by rw [Nat.zero_add]; exact rel_ptr S hg ha hr, hc.heap, by rw [hc.len]; omega, fun j a hj => by rw [Nat.zero_add]; exact hc.rel j a hj, fun j hj => by rw [Nat.zero_add]; exact hc.flat j hj⟩
    · cases h
  case aptr s g off' =>
    split at h
    · rename_i g' c' te m hg
      rw [nbeq] at h
      by_cases e : g' = g
      · subst e
        simp at h
        obtain ⟨rfl, rfl⟩ := h
        obtain ⟨b, cap, cs, fz, ha, _, hc⟩ := S.arr_at hg
        exact ⟨b, 0, cs, te, fz, by rw [Nat.zero_add]; exact rel_aptr ha hr, hc.heap, by have := hc.le; omega, fun j a hj => by rw [Nat.zero_add]; exact hc.rel j a hj, fun j hj => by rw [Nat.zero_add]; exact hc.flat j hj⟩
      · simp [e] at h
    · cases h
  case iptr row off' =>
    cases h
    cases hr with
    | @iptr _ _ _ b o c te hH hl h1 h2 =>
      obtain ⟨fz, hh⟩ := S.inn b c te hH
      exact ⟨b, o, c, te, fz, rfl, hh, hl, fun j a hj => (h2 j a hj).mono E.pure_le', h1⟩
  all_goals cases h

theorem loadA_ok {T : Tab} {P : Program} (hT : TabOk T P) {K W E σ w} (S : Sim T K W E σ w) {t : TypeId} {p r : AV} {v : Value} (h : loadA T σ t p = some r) (hr : Rel E p v) :
    ∃ x, (Instr.loadAt t v).run P w = .ok x w ∧ Rel E r x := by
  unfold loadA at h
  cases hrow : σ.row p with
  | none => rw [hrow] at h; cases h
  | some q =>
    obtain ⟨c, off⟩ := q
    rw [hrow] at h
    simp only at h
    obtain ⟨b, o, cs, te, fz, B⟩ := behind S hrow hr
    unfold partA at h
    rw [B.p]
    cases hag : T.agg t with
    | none => rw [hag] at h; simp at h
    | some g =>
      rw [hag] at h
      cases g with
      | true =>
        cases hsz : T.size t with
        | none => rw [hsz] at h; simp at h
        | some n =>
          rw [hsz] at h
          simp only at h
          cases hb : Nat.ble (off + n) c.length with
          | false => rw [hb] at h; cases h
          | true =>
            rw [hb] at h
            simp only [cond_true, Option.some.injEq] at h
            subst h
            have hle := nble_iff.1 hb
            have hs : o + off + n ≤ cs.size := by have := B.size; omega
            refine ⟨.agg (cs.extract (o + off) (o + off + n)), ?_, ?_⟩
            · simp only [Instr.loadAt, Instr.sureAddr, loadVar, Sem.run_bind, Sem.run_pure, Result.andThen_ok, run_agg hT hag, if_true, run_size hT hsz, run_loads B.heap hs]
            · have hlen : ((c.drop off).take n).length = n := by simp; omega
              refine .agg (by rw [hlen]; simp; omega) ?_ ?_
              · intro i hi
                rw [hlen] at hi
                rw [gd_extract hs hi, Nat.add_assoc]
                exact B.flat (off + i) (by omega)
              · intro i a hi
                have hin : i < n := by
                  rcases Nat.lt_or_ge i n with h' | h'
                  · exact h'
                  · rw [List.getElem?_eq_none (by omega)] at hi; cases hi
                rw [gd_extract hs hin, Nat.add_assoc]
                rw [List.getElem?_take, if_pos hin, List.getElem?_drop] at hi
                exact B.rel (off + i) a hi
      | false =>
        simp only at h
        have hlt : off < c.length := by
          rcases Nat.lt_or_ge off c.length with h' | h'
          · exact h'
          · rw [List.getElem?_eq_none h'] at h; cases h
        have hs : o + off < cs.size := by have := B.size; omega
        refine ⟨gd cs (o + off), ?_, B.rel off r h⟩
        simp only [Instr.loadAt, Instr.sureAddr, loadVar, Sem.run_bind, Sem.run_pure, Result.andThen_ok, run_agg hT hag, Bool.false_eq_true, if_false, run_load_at B.heap (gd_lt hs)]
end Go.Proofs.YtgklmecijeadlaaGreatDoor.Ab
