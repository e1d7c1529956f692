import Derived.Test.YtgklmecijeadlaaGreatDoorA0
set_option linter.unusedSimpArgs false
set_option linter.unusedVariables false
set_option linter.unusedSectionVars false
namespace Go.Proofs.YtgklmecijeadlaaGreatDoor.Ab

/-- immutable blocks -/
abbrev Hp := Nat → Option (Array Value × TypeId)
def Hp.In (H : Hp) (w : World) : Prop := ∀ b c t, H b = some (c, t) → ∃ fz, w.heap[b]? = some (.cells c t fz)

/-- where own blocks lie: a stamp's block, its capacity, its state's number -/
structure Env where
  H : Hp
  at_ : Nat → Option (Nat × Nat × Nat)
  next : Nat
  lt : ∀ s x, at_ s = some x → s < next

def Env.pure (H : Hp) : Env := ⟨H, fun _ => none, 0, fun _ _ h => by cases h⟩

def gd (c : Array Value) (i : Nat) : Value := c.getD i undef

inductive Rel : Env → AV → Value → Prop
  | junk {E : Env} {v : Value} : Rel E .junk v
  | bool {E : Env} {b : Bool} : Rel E (.bool b) (.bool b)
  | int {E : Env} {k : IntKind} {n : Int} : Rel E (.int k n) (.int k n)
  | float {E : Env} {k : FloatKind} {n : Nat} : Rel E (.float k n) (.float k n)
  | str {E : Env} {s : List UInt8} : Rel E (.str s) (.string ⟨s.toArray⟩)
  | nilptr {E : Env} : Rel E .nilptr (.pointer none)
  | ptr {E : Env} {s off b : Nat} : E.at_ s = some (b, 0, 0) → Rel E (.ptr s off) (.pointer (some ⟨b, off, none⟩))
  | ptrS {E : Env} {s off b : Nat} : s < E.next → E.at_ s = none → Rel E (.ptr s off) (.pointer (some ⟨b, off, none⟩))
  | aptr {E : Env} {s g off b cap : Nat} : 0 < g → E.at_ s = some (b, cap, g) → Rel E (.aptr s g off) (.pointer (some ⟨b, off, none⟩))
  | aptrS {E : Env} {s g off b0 : Nat} : s < E.next → (∀ b cap g', E.at_ s = some (b, cap, g') → g < g') → Rel E (.aptr s g off) (.pointer (some ⟨b0, off, none⟩))
  | iptr {E : Env} {row : List AV} {off b o : Nat} {c : Array Value} {te : TypeId} : E.H b = some (c, te) → o + row.length ≤ c.size →
      (∀ j, j < row.length → (gd c (o + j)).oneCell' = true) → (∀ j a, row[j]? = some a → Rel (Env.pure E.H) a (gd c (o + j))) →
      Rel E (.iptr row off) (.pointer (some ⟨b, o + off, none⟩))
  | snil {E : Env} : Rel E .snil (.slice none 0 0)
  | slist0 {E : Env} {tight : Bool} {a : Addr} {cap : Nat} : (tight = true → cap = 0) → Rel E (.slist [] tight) (.slice (some a) 0 cap)
  | slist {E : Env} {rows : List (List AV)} {tight : Bool} {b o sz cap : Nat} {c : Array Value} {te : TypeId} : E.H b = some (c, te) → rows.length ≤ cap → (tight = true → cap = rows.length) →
      (∀ row, row ∈ rows → row.length = sz) → o + rows.length * sz ≤ c.size →
      (∀ i j, i < rows.length → j < sz → (gd c (o + i * sz + j)).oneCell' = true) →
      (∀ i row j a, rows[i]? = some row → row[j]? = some a → Rel (Env.pure E.H) a (gd c (o + i * sz + j))) →
      Rel E (.slist rows tight) (.slice (some ⟨b, o, none⟩) rows.length cap)
  | sown {E : Env} {s g len b cap : Nat} : 0 < g → E.at_ s = some (b, cap, g) → len ≤ cap → Rel E (.sown s g len) (.slice (some ⟨b, 0, none⟩) len cap)
  | sownS {E : Env} {s g len : Nat} {a : Option Addr} {n cap : Nat} : s < E.next → (∀ b cap g', E.at_ s = some (b, cap, g') → g < g') → Rel E (.sown s g len) (.slice a n cap)
  | map0 {E : Env} : Rel E (.map none) (.map none)
  | map {E : Env} {s b : Nat} : E.at_ s = some (b, 0, 0) → Rel E (.map (some s)) (.map (some b))
  | mapS {E : Env} {s : Nat} {r : Option Nat} : s < E.next → E.at_ s = none → Rel E (.map (some s)) (.map r)
  | func {E : Env} {fn : Fn} {first cap : List AV} {f c : Array Value} : first.length = f.size → cap.length = c.size →
      (∀ i a, first[i]? = some a → Rel E a (gd f i)) → (∀ i a, cap[i]? = some a → Rel E a (gd c i)) → Rel E (.func fn first cap) (.func fn f c)
  | nilfn {E : Env} : Rel E .nilfn .nilFunc
  | iface {E : Env} {t : TypeId} {a : AV} {v : Value} : Rel E a v → Rel E (.iface t a) (.iface t v)
  | nilif {E : Env} : Rel E .nilif .nilIface
  | agg {E : Env} {c : List AV} {cs : Array Value} : c.length = cs.size → (∀ i, i < c.length → (gd cs i).oneCell' = true) → (∀ i a, c[i]? = some a → Rel E a (gd cs i)) → Rel E (.agg c) (.agg cs)
  | tuple {E : Env} {c : List AV} {cs : Array Value} : c.length = cs.size → (∀ i a, c[i]? = some a → Rel E a (gd cs i)) → Rel E (.tuple c) (.tuple cs)

/-- values side by side -/
structure RelL (E : Env) (c : List AV) (cs : Array Value) : Prop where
  len : c.length = cs.size
  at_ : ∀ (i : Nat) (a : AV), c[i]? = some a → Rel E a (gd cs i)

/-- what comes later: own blocks turn or end, nothing else -/
structure Env.le (E E' : Env) : Prop where
  H : ∀ b x, E.H b = some x → E'.H b = some x
  next : E.next ≤ E'.next
  gone : ∀ s, s < E.next → E.at_ s = none → E'.at_ s = none
  at_ : ∀ s b cap g, E.at_ s = some (b, cap, g) → E'.at_ s = none ∨ E'.at_ s = some (b, cap, g) ∨ ∃ b' cap' g', E'.at_ s = some (b', cap', g') ∧ 0 < g ∧ g < g'

theorem Env.le.refl (E : Env) : E.le E := ⟨fun _ _ h => h, Nat.le_refl _, fun _ _ h => h, fun _ _ _ _ h => .inr (.inl h)⟩
theorem Env.le.trans {E E' E'' : Env} (h : E.le E') (h' : E'.le E'') : E.le E'' := by
  refine ⟨fun b x hx => h'.H b x (h.H b x hx), Nat.le_trans h.next h'.next, fun s hs hn => h'.gone s (Nat.lt_of_lt_of_le hs h.next) (h.gone s hs hn), ?_⟩
  intro s b cap g ha
  have hs := E.lt s _ ha
  rcases h.at_ s b cap g ha with h1 | h1 | ⟨b', cap', g', h1, h0, hg⟩
  · exact .inl (h'.gone s (Nat.lt_of_lt_of_le hs h.next) h1)
  · exact h'.at_ s b cap g h1
  · rcases h'.at_ s b' cap' g' h1 with h2 | h2 | ⟨b2, c2, g2, h2, _, hg2⟩
    · exact .inl h2
    · exact .inr (.inr ⟨b', cap', g', h2, h0, hg⟩)
    · exact .inr (.inr ⟨b2, c2, g2, h2, h0, Nat.lt_trans hg hg2⟩)

theorem Env.pure_le {H H' : Hp} (h : ∀ b x, H b = some x → H' b = some x) : (Env.pure H).le (Env.pure H') :=
  ⟨h, Nat.le_refl _, fun s hs => absurd hs (Nat.not_lt_zero _), fun s b cap g h => by cases h⟩
theorem Env.pure_le' (E : Env) : (Env.pure E.H).le E :=
  ⟨fun _ _ h => h, Nat.zero_le _, fun s hs => absurd hs (Nat.not_lt_zero _), fun s b cap g h => by cases h⟩

theorem stale_le {E E' : Env} (h : E.le E') {s g : Nat} (hs : s < E.next) (hst : ∀ b cap g', E.at_ s = some (b, cap, g') → g < g') : ∀ b cap g', E'.at_ s = some (b, cap, g') → g < g' := by
  intro b cap g' ha
  cases he : E.at_ s with
  | none => rw [h.gone s hs he] at ha; cases ha
  | some x =>
    obtain ⟨b0, c0, g0⟩ := x
    have := hst b0 c0 g0 he
    rcases h.at_ s b0 c0 g0 he with h1 | h1 | ⟨b1, c1, g1, h1, _, hg⟩
    · rw [h1] at ha; cases ha
    · rw [h1] at ha; cases ha; exact this
    · rw [h1] at ha; cases ha; omega

theorem Rel.mono {E : Env} {a : AV} {v : Value} (h : Rel E a v) : ∀ {E' : Env}, E.le E' → Rel E' a v := by
  induction h with
  | junk => intro E' _; exact .junk
  | bool => intro E' _; exact .bool
  | int => intro E' _; exact .int
  | float => intro E' _; exact .float
  | str => intro E' _; exact .str
  | nilptr => intro E' _; exact .nilptr
  | @ptr E s off b ha =>
    intro E' hl
    rcases hl.at_ s b 0 0 ha with h | h | ⟨_, _, _, _, h0, _⟩
    · exact .ptrS (Nat.lt_of_lt_of_le (E.lt s _ ha) hl.next) h
    · exact .ptr h
    · exact absurd h0 (Nat.lt_irrefl _)
  | ptrS hs hn => intro E' hl; exact .ptrS (Nat.lt_of_lt_of_le hs hl.next) (hl.gone _ hs hn)
  | @aptr E s g off b cap hg ha =>
    intro E' hl
    rcases hl.at_ s b cap g ha with h | h | ⟨b', cap', g', h, h0, hlt⟩
    · exact .aptrS (Nat.lt_of_lt_of_le (E.lt s _ ha) hl.next) (fun _ _ _ h' => by rw [h] at h'; cases h')
    · exact .aptr hg h
    · exact .aptrS (Nat.lt_of_lt_of_le (E.lt s _ ha) hl.next) (fun _ _ _ h' => by rw [h] at h'; cases h'; exact hlt)
  | aptrS hs hn => intro E' hl; exact .aptrS (Nat.lt_of_lt_of_le hs hl.next) (stale_le hl hs hn)
  | iptr hH hlen h1 h2 ih => intro E' hl; exact .iptr (hl.H _ _ hH) hlen h1 (fun j a hj => ih j a hj (Env.pure_le hl.H))
  | snil => intro E' _; exact .snil
  | slist0 h => intro E' _; exact .slist0 h
  | slist hH h1 h2 h3 h4 h5 h6 ih => intro E' hl; exact .slist (hl.H _ _ hH) h1 h2 h3 h4 h5 (fun i row j a hi hj => ih i row j a hi hj (Env.pure_le hl.H))
  | @sown E s g len b cap hg ha hle =>
    intro E' hl
    rcases hl.at_ s b cap g ha with h | h | ⟨b', cap', g', h, h0, hlt⟩
    · exact .sownS (Nat.lt_of_lt_of_le (E.lt s _ ha) hl.next) (fun _ _ _ h' => by rw [h] at h'; cases h')
    · exact .sown hg h hle
    · exact .sownS (Nat.lt_of_lt_of_le (E.lt s _ ha) hl.next) (fun _ _ _ h' => by rw [h] at h'; cases h'; exact hlt)
  | sownS hs hn => intro E' hl; exact .sownS (Nat.lt_of_lt_of_le hs hl.next) (stale_le hl hs hn)
  | map0 => intro E' _; exact .map0
  | @map E s b ha =>
    intro E' hl
    rcases hl.at_ s b 0 0 ha with h | h | ⟨_, _, _, _, h0, _⟩
    · exact .mapS (Nat.lt_of_lt_of_le (E.lt s _ ha) hl.next) h
    · exact .map h
    · exact absurd h0 (Nat.lt_irrefl _)
  | mapS hs hn => intro E' hl; exact .mapS (Nat.lt_of_lt_of_le hs hl.next) (hl.gone _ hs hn)
  | func h1 h2 h3 h4 ih1 ih2 => intro E' hl; exact .func h1 h2 (fun i a hi => ih1 i a hi hl) (fun i a hi => ih2 i a hi hl)
  | nilfn => intro E' _; exact .nilfn
  | iface h ih => intro E' hl; exact .iface (ih hl)
  | nilif => intro E' _; exact .nilif
  | agg h1 h2 h3 ih => intro E' hl; exact .agg h1 h2 (fun i a hi => ih i a hi hl)
  | tuple h1 h2 ih => intro E' hl; exact .tuple h1 (fun i a hi => ih i a hi hl)

theorem RelL.mono {E E' : Env} {c : List AV} {cs : Array Value} (h : RelL E c cs) (hl : E.le E') : RelL E' c cs := ⟨h.len, fun i a hi => (h.at_ i a hi).mono hl⟩

/-! references are bounded -/
theorem noRefs_iff {n : Nat} : ∀ {c : List AV}, AV.noRef.noRefs n c = true ↔ ∀ (i : Nat) (a : AV), c[i]? = some a → a.noRef n = true
  | [] => by simp [AV.noRef.noRefs]
  | v :: l => by
    rw [AV.noRef.noRefs, Bool.and_eq_true, noRefs_iff (c := l)]
    constructor
    · rintro ⟨h1, h2⟩ i a hi
      cases i with
      | zero => simp at hi; subst hi; exact h1
      | succ i => exact h2 i a (by simpa using hi)
    · intro h
      exact ⟨h 0 v rfl, fun i a hi => h (i + 1) a (by simpa using hi)⟩

theorem nbeq (k s : Nat) : Nat.beq k s = decide (k = s) := by
  by_cases h : k = s
  · subst h; simp [Nat.beq_refl]
  · rw [decide_eq_false h]
    cases hb : Nat.beq k s with
    | false => rfl
    | true => exact absurd (Nat.eq_of_beq_eq_true hb) h
theorem nbeq_iff {k s : Nat} : Nat.beq k s = true ↔ k = s := by rw [nbeq]; simp
theorem nble_iff {k s : Nat} : Nat.ble k s = true ↔ k ≤ s := ⟨Nat.le_of_ble_eq_true, Nat.ble_eq_true_of_le⟩
theorem blt_iff {a b : Nat} : Nat.blt a b = true ↔ a < b := by simp [Nat.blt]; omega

theorem Rel.noRef {E : Env} {a : AV} {v : Value} (h : Rel E a v) : a.noRef E.next = true := by
  induction h with
  | @ptr E s off b ha => exact blt_iff.2 (E.lt s _ ha)
  | ptrS hs hn => exact blt_iff.2 hs
  | @aptr E s g off b cap hg ha => exact blt_iff.2 (E.lt s _ ha)
  | aptrS hs hn => exact blt_iff.2 hs
  | @sown E s g len b cap hg ha hle => exact blt_iff.2 (E.lt s _ ha)
  | sownS hs hn => exact blt_iff.2 hs
  | @map E s b ha => exact blt_iff.2 (E.lt s _ ha)
  | mapS hs hn => exact blt_iff.2 hs
  | func h1 h2 h3 h4 ih1 ih2 => rw [AV.noRef, Bool.and_eq_true]; exact ⟨noRefs_iff.2 ih1, noRefs_iff.2 ih2⟩
  | iface h ih => exact ih
  | agg h1 h2 h3 ih => exact noRefs_iff.2 ih
  | tuple h1 h2 ih => exact noRefs_iff.2 ih
  | _ => rfl

/-- own blocks from n on are let go -/
def Env.cut (E : Env) (n : Nat) : Env := ⟨E.H, fun s => if s < n then E.at_ s else none, n, fun s x h => by
  by_cases hs : s < n
  · exact hs
  · rw [if_neg hs] at h; cases h⟩

theorem Rel.cut {E : Env} {a : AV} {v : Value} {n : Nat} (h : Rel E a v) : a.noRef n = true → Rel (E.cut n) a v := by
  induction h with
  | junk => intro _; exact .junk
  | bool => intro _; exact .bool
  | int => intro _; exact .int
  | float => intro _; exact .float
  | str => intro _; exact .str
  | nilptr => intro _; exact .nilptr
  | ptr ha => intro hn; exact .ptr (by show (if _ then _ else _) = _; rw [if_pos (blt_iff.1 hn)]; exact ha)
  | ptrS hs hst => intro hn; exact .ptrS (blt_iff.1 hn) (by show (if _ then _ else _) = _; rw [if_pos (blt_iff.1 hn)]; exact hst)
  | aptr hg ha => intro hn; exact .aptr hg (by show (if _ then _ else _) = _; rw [if_pos (blt_iff.1 hn)]; exact ha)
  | aptrS hs hst => intro hn; exact .aptrS (blt_iff.1 hn) (fun b cap g' h => by
      exact hst b cap g' (by have h' := h; simp only [Env.cut] at h'; rw [if_pos (blt_iff.1 hn)] at h'; exact h'))
  | iptr hH hlen h1 h2 ih => intro _; exact .iptr hH hlen h1 h2
  | snil => intro _; exact .snil
  | slist0 h => intro _; exact .slist0 h
  | slist hH h1 h2 h3 h4 h5 h6 ih => intro _; exact .slist hH h1 h2 h3 h4 h5 h6
  | sown hg ha hle => intro hn; exact .sown hg (by show (if _ then _ else _) = _; rw [if_pos (blt_iff.1 hn)]; exact ha) hle
  | sownS hs hst => intro hn; exact .sownS (blt_iff.1 hn) (fun b cap g' h => by
      exact hst b cap g' (by have h' := h; simp only [Env.cut] at h'; rw [if_pos (blt_iff.1 hn)] at h'; exact h'))
  | map0 => intro _; exact .map0
  | map ha => intro hn; exact .map (by show (if _ then _ else _) = _; rw [if_pos (blt_iff.1 hn)]; exact ha)
  | mapS hs hst => intro hn; exact .mapS (blt_iff.1 hn) (by show (if _ then _ else _) = _; rw [if_pos (blt_iff.1 hn)]; exact hst)
  | func h1 h2 h3 h4 ih1 ih2 =>
    intro hn
    rw [AV.noRef, Bool.and_eq_true] at hn
    exact .func h1 h2 (fun i a hi => ih1 i a hi (noRefs_iff.1 hn.1 i a hi)) (fun i a hi => ih2 i a hi (noRefs_iff.1 hn.2 i a hi))
  | nilfn => intro _; exact .nilfn
  | iface h ih => intro hn; exact .iface (ih hn)
  | nilif => intro _; exact .nilif
  | agg h1 h2 h3 ih => intro hn; exact .agg h1 h2 (fun i a hi => ih i a hi (noRefs_iff.1 hn i a hi))
  | tuple h1 h2 ih => intro hn; exact .tuple h1 (fun i a hi => ih i a hi (noRefs_iff.1 hn i a hi))

theorem Env.cut_zero (E : Env) : (E.cut 0).le (Env.pure E.H) := ⟨fun _ _ h => h, Nat.le_refl _, fun s hs => absurd hs (Nat.not_lt_zero _), fun s b cap g h => by
  change (if s < 0 then E.at_ s else none) = _ at h; rw [if_neg (Nat.not_lt_zero _)] at h; cases h⟩
theorem Rel.toPure {E : Env} {a : AV} {v : Value} (h : Rel E a v) (hp : a.noRef 0 = true) : Rel (Env.pure E.H) a v := (h.cut hp).mono E.cut_zero

theorem Env.le_cut {E E' : Env} (h : E.le E') : E.le (E'.cut E.next) := by
  refine ⟨h.H, Nat.le_refl _, ?_, ?_⟩
  · intro s hs hn
    show (if _ then _ else _) = _
    rw [if_pos hs]; exact h.gone s hs hn
  · intro s b cap g ha
    have : (E'.cut E.next).at_ s = E'.at_ s := by show (if _ then _ else _) = _; rw [if_pos (E.lt s _ ha)]
    rw [this]; exact h.at_ s b cap g ha

/-! cells are flat -/
theorem Rel.flat {E : Env} {a : AV} {v : Value} (h : Rel E a v) (hf : a.flat = true) : v.oneCell' = true := by
  cases h <;> first | rfl | cases hf

theorem gd_lt {c : Array Value} {i : Nat} (h : i < c.size) : c[i]? = some (gd c i) := by
  simp [gd, Array.getD_eq_getD_getElem?, Array.getElem?_eq_getElem h]
theorem gd_of {c : Array Value} {i : Nat} {v : Value} (h : c[i]? = some v) : gd c i = v := by
  simp [gd, Array.getD_eq_getD_getElem?, h]

/-- the cells of a value -/
theorem Rel.cells {E : Env} {a : AV} {v : Value} (h : Rel E a v) (hf : a.cells.all AV.flat = true) : RelL E a.cells v.cells ∧ ∀ i, i < v.cells.size → (gd v.cells i).oneCell' = true := by
  by_cases ha : ∃ c, a = .agg c
  · obtain ⟨c, rfl⟩ := ha
    cases h with
    | agg h1 h2 h3 => exact ⟨⟨h1, h3⟩, fun i hi => h2 i (by rw [h1]; exact hi)⟩
  · have hc : a.cells = [a] := by cases a <;> first | rfl | exact absurd ⟨_, rfl⟩ ha
    rw [hc] at hf
    simp only [List.all_cons, List.all_nil, Bool.and_true] at hf
    have hv : v.cells = #[v] := by
      have := h.flat hf
      cases v <;> first | rfl | cases this
    rw [hc, hv]
    refine ⟨⟨rfl, ?_⟩, ?_⟩
    · intro i x hx
      cases i with
      | zero => simp at hx; subst hx; exact h
      | succ i => simp at hx
    · intro i hi
      simp at hi; subst hi
      exact h.flat hf

/-! ### blocks -/
structure ArrOk (T : Tab) (E : Env) (w : World) (b cap g : Nat) (c : List AV) (te : TypeId) (mode : Nat) (cs : Array Value) (fz : Nat × Nat) : Prop where
  pos : 0 < g
  heap : w.heap[b]? = some (.cells cs te fz)
  le : c.length ≤ cs.size
  room : ∀ sz, T.size te = some sz → cap * sz ≤ cs.size ∧ c.length ≤ cap * sz
  rel : ∀ (i : Nat) (a : AV), c[i]? = some a → Rel E a (gd cs i)
  flat : ∀ i, i < c.length → (gd cs i).oneCell' = true
  fr0 : mode = 0 → fz.1 = fz.2
  fr1 : mode = 1 → fz.2 ≤ c.length
  ro : mode = 2 → E.H b = some (cs, te)
  own : mode ≠ 2 → E.H b = none

theorem ArrOk.nf0 {T E w b cap g c te mode cs fz} (h : ArrOk T E w b cap g c te mode cs fz) (h0 : mode = 0) (i : Nat) (hi : i < cs.size) : ¬ (fz.1 ≤ i ∧ i < fz.2) := by
  have := h.fr0 h0; omega

structure CellsOk (E : Env) (w : World) (b : Nat) (c : List AV) (te : TypeId) (mode : Nat) (cs : Array Value) : Prop where
  heap : w.heap[b]? = some (.cells cs te (0, 0))
  len : c.length = cs.size
  rel : ∀ (i : Nat) (a : AV), c[i]? = some a → Rel E a (gd cs i)
  flat : ∀ i, i < c.length → (gd cs i).oneCell' = true
  ro : mode = 2 → E.H b = some (cs, te)
  own : mode ≠ 2 → E.H b = none

structure MapOk (E : Env) (w : World) (b : Nat) (es : List (AV × AV)) (ms : Array MapEntry) (clock : Nat) : Prop where
  heap : w.heap[b]? = some (.map ms clock)
  len : es.length = ms.size
  rel : ∀ (i : Nat) (p : AV × AV), es[i]? = some p → ∃ m : MapEntry, ms[i]? = some m ∧ Rel E p.1 m.key ∧ Rel E p.2 m.val
  own : E.H b = none

def BlkRel (T : Tab) (E : Env) (w : World) (b cap g : Nat) : Blk → Prop
  | .cells c te mode => cap = 0 ∧ g = 0 ∧ ∃ cs, CellsOk E w b c te mode cs
  | .arr g' c te mode => g' = g ∧ ∃ cs fz, ArrOk T E w b cap g c te mode cs fz
  | .map es => cap = 0 ∧ g = 0 ∧ ∃ ms clock, MapOk E w b es ms clock
  | .iter s pos => cap = 0 ∧ g = 0 ∧ E.H b = none ∧ w.heap[b]? = some (.stringIter ⟨s.toArray⟩ pos)

structure Sim (T : Tab) (K : Nat → Prop) (W : World) (E : Env) (σ : St) (w : World) : Prop where
  os : w.os = W.os
  tape : w.tape = W.tape
  output : w.output = W.output
  size : W.heap.size ≤ w.heap.size
  keep : ∀ b, K b → w.heap[b]? = W.heap[b]?
  kin : ∀ b, K b → b < W.heap.size
  inn : Hp.In E.H w
  next : E.next = σ.next
  live : ∀ s b cap g, E.at_ s = some (b, cap, g) → ∃ B, σ.get s = some B
  blk : ∀ s B, σ.get s = some B → ∃ b cap g, E.at_ s = some (b, cap, g) ∧ ¬ K b ∧ BlkRel T E w b cap g B
  inj : ∀ s t b cap g cap' g', E.at_ s = some (b, cap, g) → E.at_ t = some (b, cap', g') → s = t
  glob : ∀ g row, T.glob g = some row → Rel E (.iptr row 0) (.pointer (some ⟨g, 0, none⟩))
  off : ∀ b, K b → W.drawn ≤ b → E.H b = none

theorem lt_of_some {w : World} {b : Nat} {o : Obj} (h : w.heap[b]? = some o) : b < w.heap.size := by
  rcases Nat.lt_or_ge b w.heap.size with h' | h'
  · exact h'
  · rw [Array.getElem?_eq_none h'] at h; exact absurd h (by simp)

theorem Sim.lt {T K W E σ w} (S : Sim T K W E σ w) {s : Nat} {B : Blk} (h : σ.get s = some B) : s < σ.next := by
  obtain ⟨b, cap, g, ha, _⟩ := S.blk s B h
  rw [← S.next]; exact E.lt s _ ha

theorem BlkRel.lt {T E w b cap g B} (h : BlkRel T E w b cap g B) : b < w.heap.size := by
  cases B with
  | cells c te m => obtain ⟨_, _, cs, h⟩ := h; exact lt_of_some h.heap
  | arr g' c te m => obtain ⟨_, cs, fz, h⟩ := h; exact lt_of_some h.heap
  | map es => obtain ⟨_, _, ms, cl, h⟩ := h; exact lt_of_some h.heap
  | iter s p => exact lt_of_some h.2.2.2

/-- a block's relation, in a later state in which that block lies as it did -/
theorem BlkRel.carry {T E E' w w' b cap g B} (h : BlkRel T E w b cap g B) (hl : E.le E') (hw : w'.heap[b]? = w.heap[b]?) (hH : E.H b = none → E'.H b = none) : BlkRel T E' w' b cap g B := by
  cases B with
  | cells c te m =>
    obtain ⟨h1, h2, cs, h⟩ := h
    exact ⟨h1, h2, cs, by rw [hw]; exact h.heap, h.len, fun i a hi => (h.rel i a hi).mono hl, h.flat, fun e => hl.H _ _ (h.ro e), fun e => hH (h.own e)⟩
  | arr g' c te m =>
    obtain ⟨h1, cs, fz, h⟩ := h
    exact ⟨h1, cs, fz, h.pos, by rw [hw]; exact h.heap, h.le, h.room, fun i a hi => (h.rel i a hi).mono hl, h.flat, h.fr0, h.fr1, fun e => hl.H _ _ (h.ro e), fun e => hH (h.own e)⟩
  | map es =>
    obtain ⟨h1, h2, ms, cl, h⟩ := h
    refine ⟨h1, h2, ms, cl, by rw [hw]; exact h.heap, h.len, fun i p hi => ?_, hH h.own⟩
    obtain ⟨m, hm, r1, r2⟩ := h.rel i p hi
    exact ⟨m, hm, r1.mono hl, r2.mono hl⟩
  | iter s p => exact ⟨h.1, h.2.1, hH h.2.2.1, by rw [hw]; exact h.2.2.2⟩

/-! ### new blocks, turned blocks -/
theorem look_new {l : List (Nat × Blk)} {n s : Nat} {B : Blk} : look ((n, B) :: l) s = if n = s then some B else look l s := by
  rw [look, nbeq]
  by_cases h : n = s
  · subst h; simp
  · rw [if_neg h]; simp [h]

theorem look_chng {s : Nat} {B C : Blk} : ∀ {l : List (Nat × Blk)} {t : Nat}, look l s = some B → look (chng l s C) t = if s = t then some C else look l t
  | [], t, h => by cases h
  | (k, D) :: l, t, h => by
    rw [look_new] at h
    rw [chng]
    by_cases hk : k = s
    · subst hk
      rw [nbeq, decide_eq_true rfl, cond_true]
      rw [look_new, look_new]
      split <;> rfl
    · rw [if_neg hk] at h
      rw [nbeq, decide_eq_false hk, cond_false, look_new, look_new, look_chng h]
      by_cases hkt : k = t
      · subst hkt
        rw [if_pos rfl, if_neg (fun e => hk e.symm)]
        exact (if_pos rfl).symm
      · rw [if_neg hkt, if_neg hkt]

theorem get_new {σ : St} {B : Blk} {s : Nat} : (σ.new B).get s = if σ.next = s then some B else σ.get s := look_new
theorem get_put {σ : St} {s t : Nat} {B C : Blk} (h : σ.get s = some B) : (σ.put s C).get t = if s = t then some C else σ.get t := look_chng h

/-- one more own block -/
def Env.new (E : Env) (b cap g : Nat) : Env := ⟨E.H, fun s => if s = E.next then some (b, cap, g) else E.at_ s, E.next + 1, fun s x h => by
  by_cases hs : s = E.next
  · omega
  · rw [if_neg hs] at h; have := E.lt s x h; omega⟩

theorem Env.le_new (E : Env) (b cap g : Nat) : E.le (E.new b cap g) := by
  refine ⟨fun _ _ h => h, Nat.le_succ _, ?_, ?_⟩
  · intro s hs hn
    show (if _ then _ else _) = _
    rw [if_neg (by omega)]; exact hn
  · intro s b' cap' g' ha
    have := E.lt s _ ha
    exact .inr (.inl (by show (if _ then _ else _) = _; rw [if_neg (by omega)]; exact ha))

theorem heap_push {w : World} {o : Obj} {b : Nat} (h : b < w.heap.size) : (w.alloc o).heap[b]? = w.heap[b]? := by
  show (w.heap.push o)[b]? = _
  rw [Array.getElem?_push, if_neg (by omega)]
theorem heap_self {w : World} {o : Obj} : (w.alloc o).heap[w.heap.size]? = some o := by
  show (w.heap.push o)[w.heap.size]? = _
  simp

theorem Hp.In.alloc {H : Hp} {w : World} {o : Obj} (h : H.In w) : H.In (w.alloc o) := by
  intro b c t hb
  obtain ⟨fz, h'⟩ := h b c t hb
  exact ⟨fz, by rw [heap_push (lt_of_some h')]; exact h'⟩

/-- a new own block -/
theorem Sim.new {T K W E σ w} (S : Sim T K W E σ w) {B : Blk} {o : Obj} {cap g : Nat}
    (hB : BlkRel T (E.new w.heap.size cap g) (w.alloc o) w.heap.size cap g B) : Sim T K W (E.new w.heap.size cap g) (σ.new B) (w.alloc o) := by
  have hl := E.le_new w.heap.size cap g
  have hnone : ∀ s b cap' g', E.at_ s = some (b, cap', g') → b < w.heap.size := fun s b cap' g' ha => by
    obtain ⟨B', hB'⟩ := S.live s b cap' g' ha
    obtain ⟨b2, c2, g2, ha2, _, hb2⟩ := S.blk s B' hB'
    rw [ha] at ha2; cases ha2
    exact hb2.lt
  refine ⟨S.os, S.tape, S.output, by have := S.size; simp; omega, ?_, S.kin, S.inn.alloc, ?_, ?_, ?_, ?_, ?_, S.off⟩
  · intro b hb
    rw [heap_push (Nat.lt_of_lt_of_le (S.kin b hb) S.size)]; exact S.keep b hb
  · show E.next + 1 = σ.next + 1
    rw [S.next]
  · intro s b cap' g' ha
    rw [get_new]
    by_cases hs : σ.next = s
    · exact ⟨B, if_pos hs⟩
    · rw [if_neg hs]
      simp only [Env.new] at ha
      rw [if_neg (by rw [S.next]; exact fun e => hs e.symm)] at ha
      exact S.live s b cap' g' ha
  · intro s B' hB'
    rw [get_new] at hB'
    by_cases hs : σ.next = s
    · rw [if_pos hs] at hB'; cases hB'
      refine ⟨w.heap.size, cap, g, by show (if _ then _ else _) = _; rw [if_pos (by rw [S.next]; exact hs.symm)], ?_, hB⟩
      intro hK; have := S.kin _ hK; have := S.size; omega
    · rw [if_neg hs] at hB'
      obtain ⟨b, cap', g', ha, hK, hb⟩ := S.blk s B' hB'
      refine ⟨b, cap', g', by show (if _ then _ else _) = _; rw [if_neg (by rw [S.next]; exact fun e => hs e.symm)]; exact ha, hK, ?_⟩
      exact hb.carry hl (heap_push hb.lt) (fun h => h)
  · intro s t b c1 g1 c2 g2 h1 h2
    simp only [Env.new] at h1
    simp only [Env.new] at h2
    by_cases hs : s = E.next
    · by_cases ht : t = E.next
      · rw [hs, ht]
      · rw [if_pos hs] at h1; rw [if_neg ht] at h2
        cases h1
        have := hnone t _ _ _ h2; omega
    · by_cases ht : t = E.next
      · rw [if_neg hs] at h1; rw [if_pos ht] at h2
        cases h2
        have := hnone s _ _ _ h1; omega
      · rw [if_neg hs] at h1; rw [if_neg ht] at h2
        exact S.inj s t b c1 g1 c2 g2 h1 h2
  · exact fun g row h => (S.glob g row h).mono hl

/-- the world turns at one own block alone -/
theorem Sim.put {T K W E σ w} (S : Sim T K W E σ w) {s : Nat} {B C : Blk} {b cap g : Nat} {w' : World} (hs : σ.get s = some B) (ha : E.at_ s = some (b, cap, g))
    (hos : w'.os = w.os) (htape : w'.tape = w.tape) (hout : w'.output = w.output) (hsz : w'.heap.size = w.heap.size) (hoth : ∀ k, k ≠ b → w'.heap[k]? = w.heap[k]?)
    (hH : E.H b = none ∨ w'.heap[b]? = w.heap[b]?) (hC : BlkRel T E w' b cap g C) : Sim T K W E (σ.put s C) w' := by
  obtain ⟨b2, c2, g2, ha2, hK, _⟩ := S.blk s B hs
  rw [ha] at ha2; cases ha2
  refine ⟨hos.trans S.os, htape.trans S.tape, hout.trans S.output, by rw [hsz]; exact S.size, ?_, S.kin, ?_, S.next, ?_, ?_, S.inj, S.glob, S.off⟩
  · intro k hk
    rw [hoth k (fun e => hK (e ▸ hk))]; exact S.keep k hk
  · intro k c t hk
    obtain ⟨fz, h⟩ := S.inn k c t hk
    by_cases e : k = b
    · subst e
      rcases hH with hH | hH
      · rw [hH] at hk; cases hk
      · exact ⟨fz, by rw [hH]; exact h⟩
    · exact ⟨fz, by rw [hoth k e]; exact h⟩
  · intro t b' cap' g' ht
    rw [get_put hs]
    by_cases e : s = t
    · exact ⟨C, if_pos e⟩
    · rw [if_neg e]; exact S.live t b' cap' g' ht
  · intro t D hD
    rw [get_put hs] at hD
    by_cases e : s = t
    · rw [if_pos e] at hD; cases hD; subst e
      exact ⟨b, cap, g, ha, hK, hC⟩
    · rw [if_neg e] at hD
      obtain ⟨b', cap', g', ht, hK', hb⟩ := S.blk t D hD
      refine ⟨b', cap', g', ht, hK', hb.carry (Env.le.refl E) (hoth b' ?_) (fun h => h)⟩
      rintro rfl
      exact e (S.inj s t _ _ _ _ _ ha ht)

/-- nothing but the count of draws turns -/
theorem Sim.same {T K W E σ w w'} (S : Sim T K W E σ w) (hos : w'.os = w.os) (htape : w'.tape = w.tape) (hout : w'.output = w.output) (hh : w'.heap = w.heap) : Sim T K W E σ w' := by
  refine ⟨hos.trans S.os, htape.trans S.tape, hout.trans S.output, by rw [hh]; exact S.size, fun b hb => by rw [hh]; exact S.keep b hb, S.kin, ?_, S.next, S.live, ?_, S.inj, S.glob, S.off⟩
  · intro b c t h; obtain ⟨fz, h'⟩ := S.inn b c t h; exact ⟨fz, by rw [hh]; exact h'⟩
  · intro s B h
    obtain ⟨b, cap, g, ha, hK, hb⟩ := S.blk s B h
    exact ⟨b, cap, g, ha, hK, hb.carry (Env.le.refl E) (by rw [hh]) (fun h => h)⟩
end Go.Proofs.YtgklmecijeadlaaGreatDoor.Ab
