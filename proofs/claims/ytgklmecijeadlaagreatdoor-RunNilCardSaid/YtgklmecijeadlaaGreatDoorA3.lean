import Derived.Test.YtgklmecijeadlaaGreatDoorA2
set_option linter.unusedSimpArgs false
set_option linter.unusedVariables false
set_option linter.unusedSectionVars false
namespace Go.Proofs.YtgklmecijeadlaaGreatDoor.Ab

/-! ### writing cells -/
theorem wr_length : ∀ (l c : List AV) (off : Nat), (wr c off l).length = c.length
  | [], c, off => rfl
  | v :: l, c, off => by rw [wr, wr_length l]; simp
theorem wr_get : ∀ (l c : List AV) (off : Nat), off + l.length ≤ c.length → ∀ i : Nat, (wr c off l)[i]? = if off ≤ i ∧ i < off + l.length then l[i - off]? else c[i]?
  | [], c, off, _, i => by rw [wr, if_neg (by simp only [List.length_nil]; omega)]
  | v :: l, c, off, h, i => by
    rw [wr, wr_get l _ (off + 1) (by simp at h ⊢; omega) i]
    simp only [List.length_cons] at h ⊢
    by_cases h1 : off + 1 ≤ i ∧ i < off + 1 + l.length
    · rw [if_pos h1, if_pos (by omega)]
      rw [show i - off = (i - (off + 1)) + 1 by omega]
      simp
    · rw [if_neg h1]
      by_cases h2 : i = off
      · subst h2
        rw [if_pos (by omega), List.getElem?_set_self (by omega)]
        simp
      · rw [if_neg (by omega), List.getElem?_set_ne (by omega)]

def puts (cs : Array Value) (off : Nat) : List Value → Array Value
  | [] => cs
  | v :: l => puts (cs.setIfInBounds off v) (off + 1) l
theorem puts_size : ∀ (l : List Value) (cs : Array Value) (off : Nat), (puts cs off l).size = cs.size
  | [], cs, off => rfl
  | v :: l, cs, off => by rw [puts, puts_size l]; simp
theorem gd_set {cs : Array Value} {off i : Nat} {v : Value} (h : off < cs.size) : gd (cs.setIfInBounds off v) i = if off = i then v else gd cs i := by
  simp only [gd, Array.getD_eq_getD_getElem?, Array.getElem?_setIfInBounds]
  by_cases e : off = i
  · subst e; simp [h]
  · simp [e]
theorem gd_puts : ∀ (l : List Value) (cs : Array Value) (off : Nat), off + l.length ≤ cs.size → ∀ i : Nat, gd (puts cs off l) i = if off ≤ i ∧ i < off + l.length then l.getD (i - off) undef else gd cs i
  | [], cs, off, _, i => by rw [puts, if_neg (by simp only [List.length_nil]; omega)]
  | v :: l, cs, off, h, i => by
    simp only [List.length_cons] at h
    rw [puts, gd_puts l _ (off + 1) (by simp; omega) i, gd_set (by omega)]
    simp only [List.length_cons]
    by_cases h1 : off + 1 ≤ i ∧ i < off + 1 + l.length
    · rw [if_pos h1, if_pos (by omega)]
      rw [show i - off = (i - (off + 1)) + 1 by omega]
      simp
    · rw [if_neg h1]
      by_cases h2 : off = i
      · subst h2
        rw [if_pos rfl, if_pos (by omega)]
        simp
      · rw [if_neg h2, if_neg (by omega)]

theorem gd_toList {cs : Array Value} {i : Nat} : cs.toList.getD i undef = gd cs i := by
  simp [gd, Array.getD_eq_getD_getElem?, List.getD_eq_getElem?_getD]

/-- related cells, written over -/
theorem rel_wr {E : Env} {c d : List AV} {cs : Array Value} {ds : List Value} {off o : Nat} (h : off + d.length ≤ c.length) (hd : d.length = ds.length) (hs : o + c.length ≤ cs.size)
    (hc : ∀ (i : Nat) (a : AV), c[i]? = some a → Rel E a (gd cs (o + i))) (hf : ∀ i, i < c.length → (gd cs (o + i)).oneCell' = true)
    (hr : ∀ (i : Nat) (a : AV), d[i]? = some a → Rel E a (ds.getD i undef)) (hfd : ∀ i, i < d.length → (ds.getD i undef).oneCell' = true) :
    (∀ (i : Nat) (a : AV), (wr c off d)[i]? = some a → Rel E a (gd (puts cs (o + off) ds) (o + i))) ∧ (∀ i, i < (wr c off d).length → (gd (puts cs (o + off) ds) (o + i)).oneCell' = true) := by
  constructor
  · intro i a hi
    rw [wr_get d c off h i] at hi
    rw [gd_puts ds cs (o + off) (by omega) (o + i)]
    by_cases h1 : off ≤ i ∧ i < off + d.length
    · rw [if_pos h1] at hi
      rw [if_pos (by omega), show o + i - (o + off) = i - off by omega]
      exact hr _ _ hi
    · rw [if_neg h1] at hi
      rw [if_neg (by omega)]
      exact hc i a hi
  · intro i hi
    rw [wr_length] at hi
    rw [gd_puts ds cs (o + off) (by omega) (o + i)]
    by_cases h1 : off ≤ i ∧ i < off + d.length
    · rw [if_pos (by omega), show o + i - (o + off) = i - off by omega]
      exact hfd _ (by omega)
    · rw [if_neg (by omega)]
      exact hf i hi

/-- the world with one block turned -/
def setBlk (w : World) (b : Nat) (o : Obj) : World := { w with heap := w.heap.setIfInBounds b o }
theorem setBlk_self {w : World} {b : Nat} {o : Obj} (h : b < w.heap.size) : (setBlk w b o).heap[b]? = some o := by
  simp [setBlk, Array.getElem?_setIfInBounds, h]
theorem setBlk_ne {w : World} {b k : Nat} {o : Obj} (h : k ≠ b) : (setBlk w b o).heap[k]? = w.heap[k]? := by
  simp [setBlk, Array.getElem?_setIfInBounds]
  intro e; exact absurd e.symm h
theorem setBlk_size {w : World} {b : Nat} {o : Obj} : (setBlk w b o).heap.size = w.heap.size := by simp [setBlk]
theorem setBlk_twice {w : World} {b : Nat} {o o' : Obj} : setBlk (setBlk w b o) b o' = setBlk w b o' := by
  simp only [setBlk]
  congr 1
  apply Array.ext_getElem?
  intro i
  simp only [Array.getElem?_setIfInBounds]
  split <;> simp_all
theorem setBlk_eq {w : World} {b : Nat} {o : Obj} (h : w.heap[b]? = some o) : setBlk w b o = w := by
  have : w.heap.setIfInBounds b o = w.heap := by
    apply Array.ext_getElem?
    intro i
    rw [Array.getElem?_setIfInBounds]
    split
    · subst_vars; rw [h]; simp [lt_of_some h]
    · rfl
  simp [setBlk, this]

theorem setCell_blk {w : World} {b off : Nat} {v : Value} {cs : Array Value} {te : TypeId} {fz : Nat × Nat} (h : w.heap[b]? = some (.cells cs te fz)) :
    w.setCell ⟨b, off, none⟩ v = setBlk w b (.cells (cs.setIfInBounds off v) te fz) := by
  simp only [World.setCell, setBlk]
  congr 1
  apply Array.ext_getElem?
  intro i
  rw [Array.getElem?_modify, Array.getElem?_setIfInBounds]
  by_cases e : b = i
  · subst e
    rw [if_pos rfl, if_pos rfl, h, if_pos (lt_of_some h)]
    rfl
  · rw [if_neg e, if_neg e]

theorem frozen_blk {w : World} {b off : Nat} {cs : Array Value} {te : TypeId} {fz : Nat × Nat} (h : w.heap[b]? = some (.cells cs te fz)) (hf : ¬ (fz.1 ≤ off ∧ off < fz.2)) : w.frozen? ⟨b, off, none⟩ = false := by
  simp only [World.frozen?, h]
  rw [Bool.eq_false_iff]
  intro hh
  simp only [Bool.and_eq_true, decide_eq_true_eq] at hh
  exact hf hh

theorem run_stores {P : Program} {b off : Nat} {te : TypeId} {fz : Nat × Nat} : ∀ (l : List Value) (i : Nat) (w : World) (cs : Array Value), w.heap[b]? = some (.cells cs te fz) → off + i + l.length ≤ cs.size →
    (∀ k, off + i ≤ k → k < off + i + l.length → ¬ (fz.1 ≤ k ∧ k < fz.2)) → (∀ v, v ∈ l → v.oneCell' = true) →
    (storeCells ⟨b, off, none⟩ l i).run P w = .ok () (setBlk w b (.cells (puts cs (off + i) l) te fz))
  | [], i, w, cs, h, _, _, _ => by simp [storeCells, puts, setBlk_eq h]
  | v :: l, i, w, cs, h, hs, hz, hv => by
    simp only [List.length_cons] at hs hz
    have hc : w.cell? ⟨b, off + i, none⟩ = some (gd cs (off + i)) := by rw [cell_heap h]; exact gd_lt (by omega)
    have hst : (store ⟨b, off + i, none⟩ v).run P w = .ok () (setBlk w b (.cells (cs.setIfInBounds (off + i) v) te fz)) := by
      rw [run_store P w _ v .plain (hv v (by simp)), hc]
      simp only
      rw [frozen_blk h (hz (off + i) (by omega) (by omega)), setCell_blk h]
      simp
    rw [storeCells, Addr.add_mk, Sem.run_bind, hst, Result.andThen_ok]
    rw [run_stores l (i + 1) _ _ (setBlk_self (lt_of_some h)) (by simp; omega) (fun k h1 h2 => hz k (by omega) (by omega)) (fun u hu => hv u (by simp [hu]))]
    rw [setBlk_twice]
    rfl

theorem all_oneCell {cs : Array Value} (h : ∀ i, i < cs.size → (gd cs i).oneCell' = true) : ∀ v, v ∈ cs.toList → v.oneCell' = true := by
  intro v hv
  obtain ⟨i, hi, e⟩ := List.getElem_of_mem hv
  have hi' : i < cs.size := by simpa using hi
  have := h i hi'
  rw [gd_of (v := v) (by rw [Array.getElem?_eq_getElem hi']; rw [← e]; simp)] at this
  exact this

theorem run_storeVar {T : Tab} {P : Program} (hT : TabOk T P) {t : TypeId} {n : Nat} {b off : Nat} {te : TypeId} {fz : Nat × Nat} {w : World} {cs : Array Value} {v : Value}
    (hn : T.size t = some n) (hv : v.cells.size = n) (h : w.heap[b]? = some (.cells cs te fz)) (hs : off + n ≤ cs.size) (hz : ∀ k, off ≤ k → k < off + n → ¬ (fz.1 ≤ k ∧ k < fz.2)) (hf : ∀ i, i < v.cells.size → (gd v.cells i).oneCell' = true) :
    (storeVar t ⟨b, off, none⟩ v).run P w = .ok () (setBlk w b (.cells (puts cs off v.cells.toList) te fz)) := by
  unfold storeVar
  simp only [Sem.run_bind, run_size hT hn, Result.andThen_ok]
  rw [if_neg (by rw [hv]; simp)]
  have := run_stores (P := P) (b := b) (off := off) (te := te) (fz := fz) v.cells.toList 0 w cs h (by simp; omega) (fun k h1 h2 => hz k (by omega) (by simp at h2; omega)) (all_oneCell hf)
  simpa using this

theorem storeA_ok {T : Tab} {P : Program} (hT : TabOk T P) {K W E σ w} (S : Sim T K W E σ w) {t : TypeId} {p a : AV} {pv v : Value} {σ' : St} (h : storeA T σ t p a = some σ') (hp : Rel E p pv) (ha : Rel E a v) :
    ∃ w', (Instr.storeAt t pv v).run P w = .ok () w' ∧ Sim T K W E σ' w' := by
  unfold storeA at h
  cases hsz : T.size t with
  | none => rw [hsz] at h; cases h
  | some n =>
    rw [hsz] at h
    simp only at h
    cases hb : Nat.beq a.cells.length n && a.cells.all AV.flat with
    | false => rw [hb] at h; cases h
    | true =>
      rw [hb] at h
      simp only [cond_true] at h
      rw [Bool.and_eq_true, nbeq_iff] at hb
      obtain ⟨hlen, hfl⟩ := hb
      obtain ⟨hRL, hcf⟩ := ha.cells hfl
      have hvs : v.cells.size = n := by rw [← hRL.len, hlen]
      cases p <;> simp only at h
      case ptr s off =>
        split at h
        · rename_i c te hg
          cases hb2 : Nat.ble (off + n) c.length with
          | false => rw [hb2] at h; cases h
          | true =>
            rw [hb2] at h
            simp only [cond_true, Option.some.injEq] at h
            subst h
            have hle := nble_iff.1 hb2
            obtain ⟨b, cs, hat, hK, hc⟩ := S.cells_at hg
            have hpv := rel_ptr S hg hat hp
            subst hpv
            have hrun := run_storeVar hT hsz hvs hc.heap (off := off) (by rw [← hc.len]; exact hle) (fun k _ _ h => by simp only at h; omega) hcf
            refine ⟨_, by simp only [Instr.storeAt, Instr.sureAddr, Sem.run_bind, Sem.run_pure, Result.andThen_ok]; exact hrun, ?_⟩
            obtain ⟨r1, r2⟩ := rel_wr (E := E) (c := c) (d := a.cells) (cs := cs) (ds := v.cells.toList) (off := off) (o := 0) (by rw [hlen]; exact hle) (by rw [hlen]; simp [hvs]) (by rw [hc.len]; omega)
              (fun i x hi => by rw [Nat.zero_add]; exact hc.rel i x hi) (fun i hi => by rw [Nat.zero_add]; exact hc.flat i hi) (fun i x hi => by rw [gd_toList]; exact hRL.at_ i x hi) (fun i hi => by rw [gd_toList]; exact hcf i (by rw [← hRL.len]; exact hi))
            simp only [Nat.zero_add] at r1 r2
            refine S.put hg hat rfl rfl rfl setBlk_size (fun k hk => setBlk_ne hk) (.inl (hc.own (by decide))) ⟨rfl, rfl, _, setBlk_self (lt_of_some hc.heap), by rw [wr_length, puts_size]; exact hc.len, r1, r2, fun e => (nomatch e), hc.own⟩
        · cases h
      case aptr s g off =>
        split at h
        · rename_i g' c te hg
          cases hb2 : Nat.beq g' g && Nat.ble (off + n) c.length with
          | false => rw [hb2] at h; cases h
          | true =>
            rw [hb2] at h
            simp only [cond_true, Option.some.injEq] at h
            subst h
            rw [Bool.and_eq_true, nbeq_iff, nble_iff] at hb2
            obtain ⟨rfl, hle⟩ := hb2
            obtain ⟨b, cap, cs, fz, hat, hK, hc⟩ := S.arr_at hg
            have hpv := rel_aptr hat hp
            subst hpv
            have hrun := run_storeVar hT hsz hvs hc.heap (off := off) (by have := hc.le; omega) (fun k _ h2 => hc.nf0 rfl k (by have := hc.le; omega)) hcf
            refine ⟨_, by simp only [Instr.storeAt, Instr.sureAddr, Sem.run_bind, Sem.run_pure, Result.andThen_ok]; exact hrun, ?_⟩
            obtain ⟨r1, r2⟩ := rel_wr (E := E) (c := c) (d := a.cells) (cs := cs) (ds := v.cells.toList) (off := off) (o := 0) (by rw [hlen]; exact hle) (by rw [hlen]; simp [hvs]) (by have := hc.le; omega)
              (fun i x hi => by rw [Nat.zero_add]; exact hc.rel i x hi) (fun i hi => by rw [Nat.zero_add]; exact hc.flat i hi) (fun i x hi => by rw [gd_toList]; exact hRL.at_ i x hi) (fun i hi => by rw [gd_toList]; exact hcf i (by rw [← hRL.len]; exact hi))
            simp only [Nat.zero_add] at r1 r2
            refine S.put hg hat rfl rfl rfl setBlk_size (fun k hk => setBlk_ne hk) (.inl (hc.own (by decide))) ⟨rfl, _, fz, hc.pos, setBlk_self (lt_of_some hc.heap), by rw [wr_length, puts_size]; exact hc.le, ?_, r1, r2, ?_, fun e => (nomatch e), fun e => (nomatch e), hc.own⟩
            · intro sz hz; rw [wr_length, puts_size]; exact hc.room sz hz
            · intro _; exact hc.fr0 rfl
        · cases h
      all_goals cases h

/-! ### new variables -/
theorem new_cells {T K W E σ w} (S : Sim T K W E σ w) {c : List AV} {te : TypeId} {cs : Array Value} (h : RelL E c cs) (hf : ∀ i, i < cs.size → (gd cs i).oneCell' = true) :
    Sim T K W (E.new w.heap.size 0 0) (σ.new (.cells c te 0)) (w.alloc (.cells cs te)) := by
  have hl := E.le_new w.heap.size 0 0
  have hH : E.H w.heap.size = none := by
    cases he : E.H w.heap.size with
    | none => rfl
    | some x =>
      obtain ⟨fz, hh⟩ := S.inn _ x.1 x.2 he
      have := lt_of_some hh
      exact absurd this (Nat.lt_irrefl _)
  exact S.new ⟨rfl, rfl, cs, heap_self, h.len, fun i a hi => (h.at_ i a hi).mono hl, fun i hi => hf i (by rw [← h.len]; exact hi), fun e => (nomatch e), fun _ => hH⟩

theorem Sim.fresh {T K W E σ w} (S : Sim T K W E σ w) : E.H w.heap.size = none := by
  cases he : E.H w.heap.size with
  | none => rfl
  | some x =>
    obtain ⟨fz, hh⟩ := S.inn _ x.1 x.2 he
    have := lt_of_some hh
    exact absurd this (Nat.lt_irrefl _)

theorem rel_new {E : Env} {b cap g n : Nat} (hn : n = E.next) : (E.new b cap g).at_ n = some (b, cap, g) := by
  show (if _ then _ else _) = _; rw [if_pos hn]

/-- a new array of a slice: c its cells, m of them known -/
theorem new_arr {T K W E σ w} (S : Sim T K W E σ w) {c : List AV} {te : TypeId} {cs : Array Value} {cap : Nat} {fz : Nat × Nat} (hle : c.length ≤ cs.size) (hroom : ∀ sz, T.size te = some sz → cap * sz ≤ cs.size ∧ c.length ≤ cap * sz)
    (h : ∀ (i : Nat) (a : AV), c[i]? = some a → Rel E a (gd cs i)) (hf : ∀ i, i < c.length → (gd cs i).oneCell' = true) {m : Nat} (hz : m = 0 → fz.1 = fz.2) (hm1 : m ≠ 1) (hm2 : m ≠ 2) :
    Sim T K W (E.new w.heap.size cap 1) (σ.new (.arr 1 c te m)) (w.alloc (.cells cs te fz)) := by
  have hl := E.le_new w.heap.size cap 1
  exact S.new ⟨rfl, cs, fz, Nat.one_pos, heap_self, hle, hroom, fun i a hi => (h i a hi).mono hl, hf, hz, fun e => absurd e hm1, fun e => absurd e hm2, fun _ => S.fresh⟩
end Go.Proofs.YtgklmecijeadlaaGreatDoor.Ab
