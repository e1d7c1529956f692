import Derived.Test.YtgklmecijeadlaaGreatDoorA8
set_option linter.unusedSimpArgs false
set_option linter.unusedVariables false
set_option linter.unusedSectionVars false
namespace Go.Proofs.YtgklmecijeadlaaGreatDoor.Ab

/-! ### append -/
theorem gd_append {a b : Array Value} {i : Nat} : gd (a ++ b) i = if i < a.size then gd a i else gd b (i - a.size) := by
  simp only [gd, Array.getD_eq_getD_getElem?, Array.getElem?_append]
  split <;> rfl

theorem relC_append {E : Env} {c d : List AV} {cs ds : Array Value} (h : RelC E c cs) (h' : RelC E d ds) : RelC E (c ++ d) (cs ++ ds) := by
  have hl := h.rel.len
  have hl' := h'.rel.len
  refine ⟨⟨by simp [hl, hl'], ?_⟩, ?_⟩
  · intro i a hi
    rw [gd_append]
    rcases Nat.lt_or_ge i c.length with hc | hc
    · rw [if_pos (by omega)]
      rw [List.getElem?_append_left hc] at hi
      exact h.rel.at_ i a hi
    · rw [if_neg (by omega)]
      rw [List.getElem?_append_right hc] at hi
      rw [← hl]; exact h'.rel.at_ _ a hi
  · intro i hi
    rw [gd_append]
    simp at hi
    split
    · rename_i hlt; exact h.flat i hlt
    · exact h'.flat _ (by omega)

theorem nextslicecap_le (need cap : Nat) (h : cap < need) : Builtin.nextslicecap need cap ≤ 2 * need + 1024 := by
  have grow : ∀ (r c : Nat), c ≤ need + (need + 768) / 4 → Builtin.growBy need r c ≤ need + (need + 768) / 4 := by
    intro r
    induction r with
    | zero => intro c hc; exact hc
    | succ r ih =>
      intro c hc
      rw [Builtin.growBy]
      split
      · exact hc
      · rename_i hlt
        refine ih _ ?_
        omega
  unfold Builtin.nextslicecap
  split
  · omega
  · split
    · omega
    · have := grow 4 cap (by omega)
      omega

def ArrNew (E : Env) (c : List AV) (te : TypeId) (T : Tab) (cap : Nat) (cs : Array Value) : Prop :=
  c.length ≤ cs.size ∧ (∀ sz, T.size te = some sz → cap * sz ≤ cs.size ∧ c.length ≤ cap * sz) ∧ (∀ (i : Nat) (a : AV), c[i]? = some a → Rel E a (gd cs i)) ∧ (∀ i, i < c.length → (gd cs i).oneCell' = true)

theorem load_heap {P : Program} {w w1 : World} {a : Addr} {v : Value} (h : (load a).run P w = .ok v w) (hh : w1.heap = w.heap) (hc : ∃ x, w.cell? a = some x) : (load a).run P w1 = .ok v w1 := by
  obtain ⟨x, hx⟩ := hc
  have : w1.cell? a = w.cell? a := by simp [World.cell?, hh]
  rw [run_load, hx] at h
  rw [run_load, this, hx]
  cases h; rfl

theorem append_run {T : Tab} {P : Program} (hT : TabOk T P) {E : Env} {w : World} {ts tx e : TypeId} {base : Option Addr} {m cap n sz by_ : Nat} {x : Value} {c d : List AV} {z : AV} {rt : TypeId}
    (hu : T.und ts = some (.slice e)) (hx : ∃ dx, T.und tx = some dx ∧ ∀ k, dx ≠ .int k) (hsz : T.size e = some sz) (hby : T.bytes e = some by_) (hz : T.zeroA e = some z)
    (hs : Holds P E w c m sz (.slice base m cap)) (hd : Holds P E w d n sz x) (hroom : (m + n) * (by_ + 1) ≤ room) (hb2 : by_ ≤ 65536) (hm : m * sz = c.length) (hn : n * sz = d.length) :
    (m + n ≤ cap → ∃ ds, RelC E d ds ∧ ((Builtin.append_ #[ts, tx] rt #[.slice base m cap, x]).run P w = (match base with | some a => (storeCells (a.add (m * sz)) ds.toList).run P w | none => .ok () w).andThen fun _ w' => .ok (.slice base (m + n) cap) w')) ∧
    (cap < m + n → ∃ newCap cs, m + n ≤ newCap ∧ ArrNew E (c ++ d) e T newCap cs ∧ ∃ w1 : World, w1.os = w.os ∧ w1.tape = w.tape ∧ w1.output = w.output ∧ w1.heap = w.heap ∧
      (Builtin.append_ #[ts, tx] rt #[.slice base m cap, x]).run P w = .ok (.slice (some ⟨w.heap.size, 0, none⟩) (m + n) newCap) (w1.alloc (.cells cs e))) := by
  obtain ⟨dx, hdx, hdi⟩ := hx
  obtain ⟨ds, hds0, hdr⟩ := hd.cells n (Nat.le_refl n)
  obtain ⟨cs0, hcs0, hcr⟩ := hs.cells m (Nat.le_refl m)
  have hds := hds0 w rfl
  have hcs := hcs0 w rfl
  rw [hn, List.take_length] at hdr
  rw [hm, List.take_length] at hcr
  obtain ⟨bi, hbi, hbb⟩ := run_bytes hT (w := w) hby
  have hzeros : (match dx with | .int _ => true | _ => false) = false := by
    cases dx <;> first | rfl | exact absurd rfl (hdi _)
  have hroom' : room = 1099511627776 := rfl
  have hmn : m + n ≤ 1099511627776 := by
    have : m + n ≤ (m + n) * (by_ + 1) := Nat.le_mul_of_pos_right _ (by omega)
    omega
  have hpre : (Builtin.append_ #[ts, tx] rt #[.slice base m cap, x]).run P w =
      (if m + n ≤ cap then
        (do let new ← Builtin.firstCells sz n x
            if let some a := base then storeCells (a.add (m * sz)) new.toList
            pure (.slice base (m + n) cap) : Sem Value).run P w
      else (do
        if ((m + n : Nat) : Int) > IntKind.i64.max ∧ (false = true ∨ (← typeInfo e).bytes = 0) then runtimePanic (.error "growslice: len out of range")
        if Builtin.nextslicecap (m + n) cap * (← typeInfo e).bytes > 2 ^ 48 then (if false = true then runtimePanic (.error "growslice: len out of range") else do
          if !(← Builtin.mayShare sz m n base x) then mark .noRoom
          unsupported (.resourceLimit "append: a slice or a string whose bytes no memory bears"))
        let newCap ← choose (.appendCap (m + n) cap e)
        askRoom (newCap * (← typeInfo e).bytes)
        let old ← Builtin.firstCells sz m (.slice base m cap)
        let new ← Builtin.firstCells sz n x
        let rest := Builtin.zeroCells (← zeroValue e).cells (newCap - (m + n))
        pure (.slice (some (← newRow e (old ++ new ++ rest))) (m + n) newCap) : Sem Value).run P w) := by
    unfold Builtin.append_
    simp only [List.getElem?_toArray, List.getElem?_cons_zero, List.getElem?_cons_succ, Sem.run_bind, run_und hT hu, Result.andThen_ok, run_size hT hsz, run_und hT hdx, Sem.run_pure, hzeros, Bool.false_eq_true, if_false, hd.len, Sem.run_ite, Bool.not_false, if_true]
    rfl
  constructor
  · intro hle
    refine ⟨ds, hdr, ?_⟩
    rw [hpre, if_pos hle]
    simp only [Sem.run_bind, hds, Result.andThen_ok]
    cases base with
    | none => rfl
    | some a => simp only [Sem.run_bind]; rfl
  · intro hlt
    obtain ⟨zv, hzv, hzr⟩ : ∃ zv, (∀ w, (zeroValue e).run P w = .ok zv w) ∧ zv.cells.size = sz := by
      unfold Tab.zeroA at hz
      cases hz' : T.zero e with
      | none => rw [hz'] at hz; cases hz
      | some zv => exact ⟨zv, fun w => run_zero hT hz', hT.zsize e zv sz hz' hsz⟩
    have hnc := nextslicecap_le (m + n) cap hlt
    have hbig : ¬ (Builtin.nextslicecap (m + n) cap * bi.bytes > 2 ^ 48) := by
      rw [hbb]
      have h1 : Builtin.nextslicecap (m + n) cap * by_ ≤ (2 * (m + n) + 1024) * by_ := Nat.mul_le_mul_right by_ hnc
      have h2 : (2 * (m + n) + 1024) * by_ = 2 * ((m + n) * by_) + 1024 * by_ := by rw [Nat.add_mul, Nat.mul_assoc]
      have h3 : (m + n) * by_ ≤ (m + n) * (by_ + 1) := Nat.mul_le_mul_left _ (by omega)
      omega
    have hlong : ¬ (((m + n : Nat) : Int) > IntKind.i64.max ∧ (false = true ∨ bi.bytes = 0)) := by
      have : IntKind.i64.max = 9223372036854775807 := by decide
      rw [this]; intro h; omega
    obtain ⟨q, hq⟩ : ∃ q, q = (Question.appendCap (m + n) cap e).cut (w.tape w.drawn (.appendCap (m + n) cap e)) := ⟨_, rfl⟩
    have hqge : m + n ≤ q := by rw [hq]; simp only [Question.cut]; omega
    let w1 : World := { w with drawn := w.drawn + 1 }
    have hch : (choose (.appendCap (m + n) cap e)).run P w = .ok q w1 := by
      rw [run_choose, hq]; rfl
    have hw1 : ∀ {α : Type} (s : Sem α) (a : α), True := fun _ _ => trivial
    have hold : (Builtin.firstCells sz m (.slice base m cap)).run P w1 = .ok cs0 w1 := hcs0 w1 rfl
    have hnew : (Builtin.firstCells sz n x).run P w1 = .ok ds w1 := hds0 w1 rfl
    have hti : (typeInfo e).run P w1 = .ok bi w1 := by
      unfold typeInfo at hbi ⊢
      cases hi : P.info? e with
      | none => simp [hi] at hbi
      | some i => simp [hi] at hbi ⊢; exact hbi
    refine ⟨q, cs0 ++ ds ++ Builtin.zeroCells zv.cells (q - (m + n)), hqge, ?_, w1, rfl, rfl, rfl, rfl, ?_⟩
    · have hA := relC_append hcr hdr
      have hsz1 : (c ++ d).length = (cs0 ++ ds).size := hA.rel.len
      have hlen : (c ++ d).length = (m + n) * sz := by rw [List.length_append, ← hm, ← hn, Nat.add_mul]
      have hzs : (Builtin.zeroCells zv.cells (q - (m + n))).size = (q - (m + n)) * sz := by simp [Builtin.zeroCells, hzr]
      refine ⟨by rw [Array.size_append]; omega, ?_, ?_, ?_⟩
      · intro sz' h'
        rw [hsz] at h'; cases h'
        rw [Array.size_append, ← hsz1, hlen, hzs, ← Nat.add_mul]
        constructor
        · rw [Nat.add_sub_cancel' hqge]; exact Nat.le_refl _
        · exact Nat.mul_le_mul_right _ hqge
      · intro i a hi
        have hlt' : i < (c ++ d).length := by
          rcases Nat.lt_or_ge i (c ++ d).length with h' | h'
          · exact h'
          · rw [List.getElem?_eq_none h'] at hi; cases hi
        rw [gd_append, if_pos (by omega)]
        exact hA.rel.at_ i a hi
      · intro i hi
        rw [gd_append, if_pos (by omega)]
        exact hA.flat i (by omega)
    · rw [hpre, if_neg (by omega)]
      simp only [Sem.run_bind, hbi, Result.andThen_ok, Sem.run_ite, if_neg hlong, Sem.run_pure, if_neg hbig, hch, hti, run_askRoom, hold, hnew, hzv, newRow, run_newObj]
      rfl
end Go.Proofs.YtgklmecijeadlaaGreatDoor.Ab
