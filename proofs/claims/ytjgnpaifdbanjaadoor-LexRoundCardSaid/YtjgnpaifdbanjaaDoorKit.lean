import Derived.WalkKit
import Derived.WalkSpells
import Derived.WalkLawsBesides
import Derived.Deep.QuietTactic
import Derived.BigQuiet
import Derived.Deep.LoopGhost
import Derived.Deep.DeepCutAuto
set_option linter.unusedSimpArgs false
set_option linter.unusedVariables false
namespace Go.Proofs.YtjgnpaifdbanjaaDoor
open Go.RowKit

/-- immutable blocks: what they hold, and their element type -/
abbrev Hp := Nat → Option (Array Value × TypeId)

def Hp.In (H : Hp) (w : World) : Prop := ∀ b c t, H b = some (c, t) → ∃ fz, w.heap[b]? = some (.cells c t fz)

theorem hid {p : Prop} (h : p) : Hid p := h

abbrev Own := List (Nat × Obj)

structure Tr (w0 : World) (H0 : Hp) (L0 : Own) (w : World) (H : Hp) (L : Own) : Prop where
  os : w.os = w0.os
  tape : w.tape = w0.tape
  output : w.output = w0.output
  size : w0.heap.size ≤ w.heap.size
  keep : ∀ b, b < w0.heap.size → b ∉ L0.map Prod.fst → w.heap[b]? = w0.heap[b]?
  le : ∀ b x, H0 b = some x → H b = some x
  new : ∀ b, H b ≠ none → H0 b ≠ none ∨ w0.heap.size ≤ b ∨ b ∈ L0.map Prod.fst
  inn : H.In w
  own : ∀ p, p ∈ L → w.heap[p.1]? = some p.2
  fresh : ∀ p, p ∈ L → H p.1 = none ∧ (w0.heap.size ≤ p.1 ∨ p.1 ∈ L0.map Prod.fst)
  nodup : (L.map Prod.fst).Nodup

/-- a state that is well formed -/
structure St (w : World) (H : Hp) (L : Own) : Prop where
  inn : H.In w
  own : ∀ p, p ∈ L → w.heap[p.1]? = some p.2
  apart : ∀ p, p ∈ L → H p.1 = none
  nodup : (L.map Prod.fst).Nodup

theorem lt_of_some {w : World} {b : Nat} {o : Obj} (h : w.heap[b]? = some o) : b < w.heap.size := by
  rcases Nat.lt_or_ge b w.heap.size with h' | h'
  · exact h'
  · rw [Array.getElem?_eq_none h'] at h; exact absurd h (by simp)

theorem Tr.st {w0 H0 L0 w H L} (T : Tr w0 H0 L0 w H L) : St w H L := ⟨T.inn, T.own, fun p h => (T.fresh p h).1, T.nodup⟩

theorem Tr.start {w H L} (S : St w H L) : Tr w H L w H L :=
  ⟨rfl, rfl, rfl, Nat.le_refl _, fun _ _ _ => rfl, fun _ _ h => h, fun _ h => .inl h, S.inn, S.own,
    fun p h => ⟨S.apart p h, .inr (List.mem_map_of_mem h)⟩, S.nodup⟩

theorem St.nil {w : World} {H : Hp} (h : H.In w) : St w H [] := ⟨h, (fun _ h => nomatch h), (fun _ h => nomatch h), by simp⟩

theorem Tr.below {w0 H0 w H L} (T : Tr w0 H0 [] w H L) : Below w0.heap.size w0 w :=
  ⟨T.os, T.tape, T.output, T.size, fun k hk => T.keep k hk (by simp)⟩

theorem Tr.lt {w0 H0 L0 w H L} (T : Tr w0 H0 L0 w H L) {p} (h : p ∈ L) : p.1 < w.heap.size := lt_of_some (T.own p h)

/-- a call (a step) that touches only the front of what is owned -/
theorem Tr.frame {w0 H0 L0 w H L1 R w' H' L1'} (T : Tr w0 H0 L0 w H (L1 ++ R)) (C : Tr w H L1 w' H' L1') : Tr w0 H0 L0 w' H' (L1' ++ R) := by
  have hmem : ∀ p, p ∈ R → p ∈ L1 ++ R := fun p h => List.mem_append_right _ h
  have hnd : (L1.map Prod.fst ++ R.map Prod.fst).Nodup := by simpa using T.nodup
  have hR : ∀ p, p ∈ R → p.1 ∉ L1.map Prod.fst := fun p hp hin =>
    (List.nodup_append.1 hnd).2.2 p.1 hin p.1 (List.mem_map_of_mem hp) rfl
  refine ⟨C.os.trans T.os, C.tape.trans T.tape, C.output.trans T.output, Nat.le_trans T.size C.size, ?_, fun b x h => C.le b x (T.le b x h), ?_, C.inn, ?_, ?_, ?_⟩
  · intro b hb hn
    have hw : b < w.heap.size := Nat.lt_of_lt_of_le hb T.size
    have : b ∉ L1.map Prod.fst := by
      intro hin
      obtain ⟨p, hp, rfl⟩ := List.mem_map.1 hin
      rcases (T.fresh p (List.mem_append_left _ hp)).2 with h | h
      · omega
      · exact hn h
    rw [C.keep b hw this, T.keep b hb hn]
  · intro b hb
    rcases C.new b hb with h | h | h
    · exact T.new b h
    · exact .inr (.inl (Nat.le_trans T.size h))
    · obtain ⟨p, hp, rfl⟩ := List.mem_map.1 h
      exact .inr (T.fresh p (List.mem_append_left _ hp)).2
  · intro p hp
    rcases List.mem_append.1 hp with h | h
    · exact C.own p h
    · have := T.own p (hmem p h)
      rw [C.keep p.1 (lt_of_some this) (hR p h)]
      exact this
  · intro p hp
    rcases List.mem_append.1 hp with h | h
    · refine ⟨(C.fresh p h).1, ?_⟩
      rcases (C.fresh p h).2 with h' | h'
      · exact .inl (Nat.le_trans T.size h')
      · obtain ⟨q, hq, e⟩ := List.mem_map.1 h'
        rw [← e]
        exact (T.fresh q (List.mem_append_left _ hq)).2
    · have hf := T.fresh p (hmem p h)
      refine ⟨?_, hf.2⟩
      cases hk : H' p.1 with
      | none => rfl
      | some x =>
        exfalso
        rcases C.new p.1 (by rw [hk]; simp) with h' | h' | h'
        · exact h' hf.1
        · have := T.lt (hmem p h); omega
        · exact hR p h h'
  · rw [List.map_append]
    refine List.nodup_append.2 ⟨C.nodup, (List.nodup_append.1 hnd).2.1, ?_⟩
    intro x hx y hy e
    subst e
    obtain ⟨p, hp, rfl⟩ := List.mem_map.1 hx
    obtain ⟨q, hq, e⟩ := List.mem_map.1 hy
    rcases (C.fresh p hp).2 with h' | h'
    · have := T.lt (hmem q hq); omega
    · rw [← e] at h'; exact hR q hq h'

theorem Tr.trans {w0 H0 L0 w H L w' H' L'} (T : Tr w0 H0 L0 w H L) (C : Tr w H L w' H' L') : Tr w0 H0 L0 w' H' L' := by
  have := Tr.frame (L1 := L) (R := []) (by simpa using T) C
  simpa using this

/-- what is owned, in another order, or less of it -/
theorem Tr.perm {w0 H0 L0 w H L L'} (T : Tr w0 H0 L0 w H L) (hs : ∀ p, p ∈ L' → p ∈ L) (hn : (L'.map Prod.fst).Nodup) : Tr w0 H0 L0 w H L' :=
  { T with own := fun p h => T.own p (hs p h), fresh := fun p h => T.fresh p (hs p h), nodup := hn }

theorem Tr.drop {w0 H0 L0 w H p L} (T : Tr w0 H0 L0 w H (p :: L)) : Tr w0 H0 L0 w H L :=
  T.perm (fun _ h => List.mem_cons_of_mem _ h) (by have := T.nodup; simp at this ⊢; exact this.2)

theorem Tr.drops {w0 H0 L0 w H L} (T : Tr w0 H0 L0 w H L) : Tr w0 H0 L0 w H [] :=
  T.perm (fun _ h => by cases h) (by simp)

theorem Tr.swap {w0 H0 L0 w H p q L} (T : Tr w0 H0 L0 w H (p :: q :: L)) : Tr w0 H0 L0 w H (q :: p :: L) :=
  T.perm (fun x h => by simp at h ⊢; rcases h with h | h | h <;> simp [h]) (by
    have := T.nodup
    simp only [List.map_cons, List.nodup_cons, List.mem_cons, not_or] at this ⊢
    exact ⟨⟨fun e => this.1.1 e.symm, this.2.1⟩, this.1.2, this.2.2⟩)

theorem Tr.rot {w0 H0 L0 w H L M} (T : Tr w0 H0 L0 w H (L ++ M)) : Tr w0 H0 L0 w H (M ++ L) :=
  T.perm (fun x h => by simp at h ⊢; exact h.symm) (by
    have := T.nodup
    simp only [List.map_append] at this ⊢
    exact (List.perm_append_comm.nodup_iff).1 this)

theorem Tr.of_below {w0 H0 L0 w H L w'} (T : Tr w0 H0 L0 w H L) (B : Below w.heap.size w w') : Tr w0 H0 L0 w' H L := by
  refine Tr.trans T ⟨B.os, B.tape, B.output, B.size, fun b hb _ => B.block b hb, fun _ _ h => h, fun _ h => .inl h, ?_, ?_, fun p h => ⟨(T.fresh p h).1, .inr (List.mem_map_of_mem h)⟩, T.nodup⟩
  · intro b c t hb
    obtain ⟨fz, h⟩ := T.inn b c t hb
    exact ⟨fz, by rw [B.block b (lt_of_some h)]; exact h⟩
  · intro p hp
    have := T.own p hp
    rw [B.block p.1 (lt_of_some this)]; exact this

theorem Tr.drew {w0 H0 L0 w H L} (T : Tr w0 H0 L0 w H L) : Tr w0 H0 L0 w.drew H L := T.of_below (Below.refl _ _).drew

theorem Tr.drewN {w0 H0 L0 w H L} (T : Tr w0 H0 L0 w H L) (n : Nat) : Tr w0 H0 L0 (w.drewN n) H L :=
  T.of_below ⟨rfl, rfl, rfl, Nat.le_refl _, fun _ _ => rfl⟩

/-- a new block -/
theorem Tr.alloc {w0 H0 L0 w H L} (T : Tr w0 H0 L0 w H L) (o : Obj) : Tr w0 H0 L0 (w.alloc o) H ((w.heap.size, o) :: L) := by
  have hlt : ∀ b c t, H b = some (c, t) → b < w.heap.size := fun b c t h => (T.inn b c t h).elim fun _ h => lt_of_some h
  have hnew : H w.heap.size = none := by
    cases h : H w.heap.size with
    | none => rfl
    | some x => have := hlt _ x.1 x.2 h; omega
  have hb : Below w.heap.size w (w.alloc o) := (Below.refl _ _).alloc (Nat.le_refl _) o
  have hself : (w.alloc o).heap[w.heap.size]? = some o := by show (w.heap.push o)[w.heap.size]? = _; simp
  refine ⟨T.os, T.tape, T.output, by have := T.size; simp; omega, ?_, T.le, T.new, ?_, ?_, ?_, ?_⟩
  · intro b hb' hn
    rw [hb.block b (Nat.lt_of_lt_of_le hb' T.size)]; exact T.keep b hb' hn
  · intro b c t h
    obtain ⟨fz, h'⟩ := T.inn b c t h
    exact ⟨fz, by rw [hb.block b (hlt b c t h)]; exact h'⟩
  · intro p hp
    rcases List.mem_cons.1 hp with rfl | hp
    · exact hself
    · have := T.own p hp; rw [hb.block p.1 (lt_of_some this)]; exact this
  · intro p hp
    rcases List.mem_cons.1 hp with rfl | hp
    · exact ⟨hnew, .inl T.size⟩
    · exact T.fresh p hp
  · simp only [List.map_cons, List.nodup_cons]
    refine ⟨?_, T.nodup⟩
    intro h
    obtain ⟨p, hp, e⟩ := List.mem_map.1 h
    have := T.lt hp
    omega

/-- a store into the block that stands first among what is owned -/
theorem Tr.setCell {w0 H0 L0 w H b c t fz L} (T : Tr w0 H0 L0 w H ((b, .cells c t fz) :: L)) (off : Nat) (v : Value) :
    Tr w0 H0 L0 (w.setCell ⟨b, off, none⟩ v) H ((b, .cells (c.setIfInBounds off v) t fz) :: L) := by
  have h1 := T.own _ (List.mem_cons_self ..)
  have hself : (w.setCell ⟨b, off, none⟩ v).heap[b]? = some (.cells (c.setIfInBounds off v) t fz) := by
    simp only [World.setCell, Array.getElem?_modify, if_true]
    simp only at h1
    rw [h1]; rfl
  have hoth : ∀ k, k ≠ b → (w.setCell ⟨b, off, none⟩ v).heap[k]? = w.heap[k]? := fun k hk => Below.heap_setCell _ _ _ _ hk
  have hf := T.fresh _ (List.mem_cons_self ..)
  have hnd := T.nodup
  simp only [List.map_cons, List.nodup_cons] at hnd
  refine ⟨T.os, T.tape, T.output, by have := T.size; simpa [World.setCell] using this, ?_, T.le, T.new, ?_, ?_, ?_, ?_⟩
  · intro k hk hn
    have : k ≠ b := by
      rintro rfl
      rcases hf.2 with h | h
      · simp only at h; omega
      · exact hn h
    rw [hoth k this]; exact T.keep k hk hn
  · intro k c' t' h
    have : k ≠ b := by rintro rfl; rw [hf.1] at h; cases h
    rw [hoth k this]; exact T.inn k c' t' h
  · intro p hp
    rcases List.mem_cons.1 hp with rfl | hp
    · exact hself
    · have hne : p.1 ≠ b := fun e => hnd.1 (e ▸ List.mem_map_of_mem hp)
      rw [hoth p.1 hne]; exact T.own p (List.mem_cons_of_mem _ hp)
  · intro p hp
    rcases List.mem_cons.1 hp with rfl | hp
    · exact hf
    · exact T.fresh p (List.mem_cons_of_mem _ hp)
  · simpa using T.nodup

/-- what was owned is never written any more -/
def Hp.put (H : Hp) (b : Nat) (c : Array Value) (t : TypeId) : Hp := fun k => if k = b then some (c, t) else H k

theorem Hp.put_self (H : Hp) (b c t) : H.put b c t b = some (c, t) := by simp [Hp.put]
theorem Hp.put_le {H : Hp} {b c t} (h : H b = none) (k x) (hk : H k = some x) : H.put b c t k = some x := by
  have : k ≠ b := by rintro rfl; rw [h] at hk; cases hk
  simp [Hp.put, this, hk]

theorem Tr.settle {w0 H0 L0 w H b c t fz L} (T : Tr w0 H0 L0 w H ((b, .cells c t fz) :: L)) : Tr w0 H0 L0 w (H.put b c t) L := by
  have h1 := T.own _ (List.mem_cons_self ..)
  have hf := T.fresh _ (List.mem_cons_self ..)
  have hnd := T.nodup
  simp only [List.map_cons, List.nodup_cons] at hnd
  refine { T.drop with le := fun k x h => Hp.put_le hf.1 k x (T.le k x h), new := ?_, inn := ?_, fresh := ?_ }
  · intro k hk
    by_cases e : k = b
    · subst e; exact .inr hf.2
    · exact T.new k (by simpa [Hp.put, e] using hk)
  · intro k c' t' h
    by_cases e : k = b
    · subst e
      rw [Hp.put_self] at h
      cases h
      exact ⟨fz, h1⟩
    · exact T.inn k c' t' (by simpa [Hp.put, e] using h)
  · intro p hp
    have hne : p.1 ≠ b := fun e => hnd.1 (e ▸ List.mem_map_of_mem hp)
    exact ⟨by simp [Hp.put, hne, (T.drop.fresh p hp).1], (T.drop.fresh p hp).2⟩

def Hp.le (H H' : Hp) : Prop := ∀ b x, H b = some x → H' b = some x


/-! ### operations -/
section
variable {P : Program} {a : Act} {w : World} {K : Act → World → Prop} {Q : Exit → Act → World → Prop}

variable {ops : Array Oper} {rest : List Oper}
theorem wp_value {o : Oper} {v : Value} {w' : World} (hw : Region.wanted o (yielded ops a.tmps) = true) (h : (execOp a.eval o).run P w = .ok (.value v) w')
    (k : wpList P ops Q rest (a.put o.dst v) w') : wpList P ops Q (o :: rest) a w := by
  refine wpList_step fun K hK => ?_
  rw [if_pos hw]
  unfold Oper.wp; rw [h]; exact hK _ _ k

theorem wp_skipped {o : Oper} {w' : World} (hw : Region.wanted o (yielded ops a.tmps) = true) (h : (execOp a.eval o).run P w = .ok .skip w')
    (k : wpList P ops Q rest (a.put o.dst undef) w') : wpList P ops Q (o :: rest) a w := by
  refine wpList_step fun K hK => ?_
  rw [if_pos hw]
  unfold Oper.wp; rw [h]; exact hK _ _ k

variable {w0 : World} {H0 H : Hp} {L0 L : Own} {dst : Option Tmp} {ty : TypeId} {pos : String} {after : Array Edge} {guard : Option (Nat × Bool)}

/-- the n-th of a list: it comes to the very term that stands there -/
def nth {α : Type} : List α → Nat → Option α
  | [], _ => none
  | x :: _, 0 => some x
  | _ :: l, n + 1 => nth l n
theorem nth_eq {α : Type} (l : List α) (n : Nat) : nth l n = l[n]? := by
  induction l generalizing n with
  | nil => simp [nth]
  | cons x l ih => cases n <;> simp [nth, ih]
theorem nth_arr {α : Type} {c : Array α} {n : Nat} {v : α} (h : nth c.toList n = some v) : c[n]? = some v := by
  rw [nth_eq] at h; simpa using h

/-- what an operand holds, if it is seen -/
def evalO (a : Act) : Operand → Option Value
  | .tmp t => nth a.tmps.toList t
  | .const v => some v
  | .global g => some (.pointer (some ⟨g, 0, none⟩))
  | .func f => some (.func (.func f) #[] #[])

theorem eval_of {a : Act} {x : Operand} {v : Value} (h : evalO a x = some v) : a.eval x = v := by
  cases x with
  | tmp t => have := nth_arr h; simp [Act.eval, Array.getD_eq_getD_getElem?, this]
  | _ => simp_all [evalO, Act.eval]

theorem run_v {s : Sem Value} {v : Value} {w' : World} (h : s.run P w = .ok v w') : (do pure (Next.value (← s)) : Sem Next).run P w = .ok (.value v) w' := by
  simp [h, go_sem]

theorem op_alloc (hw : ∀ op, Region.wanted (Oper.mk dst op ty pos after guard) (yielded ops a.tmps) = true) {t : TypeId} {z : Value} (hz : ∀ w, (zeroValue t).run P w = .ok z w) (T : Tr w0 H0 L0 w H L)
    (k : ∀ w' b, Tr w0 H0 L0 w' H ((b, .cells z.cells t) :: L) → wpList P ops Q rest (a.put dst (.pointer (some ⟨b, 0, none⟩))) w') :
    wpList P ops Q (Oper.mk dst (.alloc t) ty pos after guard :: rest) a w := by
  refine wp_value (hw _) (v := .pointer (some ⟨w.heap.size, 0, none⟩)) (w' := w.alloc (.cells z.cells t)) ?_ (k _ _ (T.alloc _))
  simp only [execOp]
  refine run_v ?_
  simp only [Instr.alloc, Sem.run_bind, hz, Result.andThen_ok]
  rfl

theorem op_box (hw : ∀ op, Region.wanted (Oper.mk dst op ty pos after guard) (yielded ops a.tmps) = true) {t : TypeId} {x : Operand} {v : Value} (hx : evalO a x = some v) (T : Tr w0 H0 L0 w H L)
    (k : ∀ w' b, Tr w0 H0 L0 w' H ((b, .cells v.cells t) :: L) → wpList P ops Q rest (a.put dst (.pointer (some ⟨b, 0, none⟩))) w') :
    wpList P ops Q (Oper.mk dst (.box t x) ty pos after guard :: rest) a w := by
  refine wp_value (hw _) (v := .pointer (some ⟨w.heap.size, 0, none⟩)) (w' := w.alloc (.cells v.cells t)) ?_ (k _ _ (T.alloc _))
  simp only [execOp, eval_of hx]
  refine run_v ?_
  simp only [Instr.box]
  rfl

theorem cell_of_heap {w : World} {b off c te fz} (h : w.heap[b]? = some (.cells c te fz)) : w.cell? ⟨b, off, none⟩ = c[off]? := by
  simp [World.cell?, h]

theorem Addr.add_mk (b off n : Nat) : (Addr.mk b off none).add n = ⟨b, off + n, none⟩ := by
  unfold Addr.add; split
  · subst_vars; rfl
  · rfl

theorem run_load_at {w : World} {b off c te fz v} (h : w.heap[b]? = some (.cells c te fz)) (hv : c[off]? = some v) : (load ⟨b, off, none⟩).run P w = .ok v w := by
  rw [run_load, cell_of_heap h, hv]

theorem run_loads_at {w : World} {b off c te fz} {vs : Array Value} (h : w.heap[b]? = some (.cells c te fz)) (hv : ∀ j, j < vs.size → c[off + j]? = vs[j]?) :
    (loadCells ⟨b, off, none⟩ vs.size).run P w = .ok vs w := by
  have := run_loadCells_list (P := P) (w := w) ⟨b, off, none⟩ vs.toList (fun j v hj => by
    rw [Addr.add_mk, cell_of_heap h]
    have hlt : j < vs.size := by
      rcases Nat.lt_or_ge j vs.size with h' | h'
      · exact h'
      · rw [List.getElem?_eq_none (by simpa using h')] at hj; cases hj
    rw [hv j hlt, ← hj]; simp)
  simpa using this

theorem op_load1_at (hw : ∀ op, Region.wanted (Oper.mk dst op ty pos after guard) (yielded ops a.tmps) = true) {t : TypeId} {x : Operand} {b off c te fz v} (hu : ∀ w, (isAgg t).run P w = .ok false w)
    (hx : a.eval x = .pointer (some ⟨b, off, none⟩)) (h : w.heap[b]? = some (.cells c te fz)) (hv : c[off]? = some v)
    (k : wpList P ops Q rest (a.put dst v) w) : wpList P ops Q (Oper.mk dst (.load t x) ty pos after guard :: rest) a w := by
  refine wp_value (hw _) (v := v) (w' := w) ?_ k
  simp only [execOp, hx]
  refine run_v ?_
  simp only [Instr.loadAt, Instr.sureAddr, loadVar, Sem.run_bind, Sem.run_pure, Result.andThen_ok, hu, Bool.false_eq_true, if_false, Sem.run_ite, run_load_at h hv]

theorem op_loads_at (hw : ∀ op, Region.wanted (Oper.mk dst op ty pos after guard) (yielded ops a.tmps) = true) {t : TypeId} {x : Operand} {b off c te fz} {vs : Array Value} (hu : ∀ w, (isAgg t).run P w = .ok true w) (hs : ∀ w, (sizeOf t).run P w = .ok vs.size w)
    (hx : a.eval x = .pointer (some ⟨b, off, none⟩)) (h : w.heap[b]? = some (.cells c te fz)) (hv : ∀ j, j < vs.size → c[off + j]? = vs[j]?)
    (k : wpList P ops Q rest (a.put dst (.agg vs)) w) : wpList P ops Q (Oper.mk dst (.load t x) ty pos after guard :: rest) a w := by
  refine wp_value (hw _) (v := .agg vs) (w' := w) ?_ k
  simp only [execOp, hx]
  refine run_v ?_
  simp only [Instr.loadAt, Instr.sureAddr, loadVar, Sem.run_bind, Sem.run_pure, Result.andThen_ok, hu, if_true, Sem.run_ite, hs, run_loads_at h hv]

theorem op_load1_own (hw : ∀ op, Region.wanted (Oper.mk dst op ty pos after guard) (yielded ops a.tmps) = true) (i : Nat) {t : TypeId} {x : Operand} {b off c te fz v} (T : Tr w0 H0 L0 w H L) (hL : L[i]? = some (b, .cells c te fz))
    (hx : a.eval x = .pointer (some ⟨b, off, none⟩)) (hu : ∀ w, (isAgg t).run P w = .ok false w) (hv : nth c.toList off = some v)
    (k : wpList P ops Q rest (a.put dst v) w) : wpList P ops Q (Oper.mk dst (.load t x) ty pos after guard :: rest) a w :=
  op_load1_at hw hu hx (T.own _ (List.mem_of_getElem? hL)) (nth_arr hv) k

theorem op_loads_own (hw : ∀ op, Region.wanted (Oper.mk dst op ty pos after guard) (yielded ops a.tmps) = true) (i : Nat) {t : TypeId} {x : Operand} {b c te fz} (T : Tr w0 H0 L0 w H L) (hL : L[i]? = some (b, .cells c te fz))
    (hx : a.eval x = .pointer (some ⟨b, 0, none⟩)) (hu : ∀ w, (isAgg t).run P w = .ok true w) (hs : ∀ w, (sizeOf t).run P w = .ok c.size w)
    (k : wpList P ops Q rest (a.put dst (.agg c)) w) : wpList P ops Q (Oper.mk dst (.load t x) ty pos after guard :: rest) a w :=
  op_loads_at hw hu hs hx (T.own _ (List.mem_of_getElem? hL)) (fun j _ => by rw [Nat.zero_add]) k

theorem op_load1_held (hw : ∀ op, Region.wanted (Oper.mk dst op ty pos after guard) (yielded ops a.tmps) = true) {t : TypeId} {x : Operand} {b off c te v} (T : Tr w0 H0 L0 w H L) (hH : H b = some (c, te))
    (hx : a.eval x = .pointer (some ⟨b, off, none⟩)) (hu : ∀ w, (isAgg t).run P w = .ok false w) (hv : c[off]? = some v)
    (k : wpList P ops Q rest (a.put dst v) w) : wpList P ops Q (Oper.mk dst (.load t x) ty pos after guard :: rest) a w :=
  (T.inn _ _ _ hH).elim fun _ h => op_load1_at hw hu hx h hv k

theorem op_loads_held (hw : ∀ op, Region.wanted (Oper.mk dst op ty pos after guard) (yielded ops a.tmps) = true) {t : TypeId} {x : Operand} {b off c te} {vs : Array Value} (T : Tr w0 H0 L0 w H L) (hH : H b = some (c, te))
    (hx : a.eval x = .pointer (some ⟨b, off, none⟩)) (hu : ∀ w, (isAgg t).run P w = .ok true w) (hs : ∀ w, (sizeOf t).run P w = .ok vs.size w)
    (hv : ∀ j, j < vs.size → c[off + j]? = vs[j]?)
    (k : wpList P ops Q rest (a.put dst (.agg vs)) w) : wpList P ops Q (Oper.mk dst (.load t x) ty pos after guard :: rest) a w :=
  (T.inn _ _ _ hH).elim fun _ h => op_loads_at hw hu hs hx h hv k

/-- cells written in a row -/
def puts (c : Array Value) (off : Nat) : List Value → Array Value
  | [] => c
  | v :: vs => puts (c.setIfInBounds off v) (off + 1) vs

theorem puts_size (vs : List Value) : ∀ (c : Array Value) (off : Nat), (puts c off vs).size = c.size := by
  induction vs with
  | nil => intro c off; rfl
  | cons v vs ih => intro c off; simp [puts, ih]

theorem own_set {L : Own} {i : Nat} {p : Nat × Obj} (hL : L[i]? = some p) : L.set i p = L := by
  apply List.ext_getElem?
  intro j
  rw [List.getElem?_set]
  split
  · subst_vars; split
    · exact hL.symm
    · rename_i h; rw [List.getElem?_eq_none (by omega)] 
  · rfl

/-- a store into a block that is owned, wherever it stands -/
theorem Tr.setCellAt {w0 H0 L0 w H b c t fz} {L : Own} (i : Nat) (T : Tr w0 H0 L0 w H L) (hL : L[i]? = some (b, .cells c t fz)) (off : Nat) (v : Value) :
    Tr w0 H0 L0 (w.setCell ⟨b, off, none⟩ v) H (L.set i (b, .cells (c.setIfInBounds off v) t fz)) := by
  have hm := List.mem_of_getElem? hL
  have hi : i < L.length := by
    rcases Nat.lt_or_ge i L.length with h | h
    · exact h
    · rw [List.getElem?_eq_none h] at hL; cases hL
  have hsplit : L = L.take i ++ (b, .cells c t fz) :: L.drop (i + 1) := by
    rw [List.getElem?_eq_getElem hi] at hL
    have : L[i] = (b, .cells c t fz) := by simpa using hL
    rw [← this, ← List.drop_eq_getElem_cons hi, List.take_append_drop]
  have hset : L.set i (b, .cells (c.setIfInBounds off v) t fz) = L.take i ++ (b, .cells (c.setIfInBounds off v) t fz) :: L.drop (i + 1) := by
    rw [List.set_eq_take_append_cons_drop, if_pos hi]
  rw [hset]
  rw [hsplit] at T
  have T2 := T.rot
  rw [List.cons_append] at T2
  have T3 := (T2.setCell off v)
  rw [← List.cons_append] at T3
  exact T3.rot

/-- one cell's value -/
def flat : Value → Bool
  | .agg _ | .tuple _ => false
  | _ => true

theorem run_store_at {w : World} {b off c te} {v : Value} (h : w.heap[b]? = some (.cells c te (0, 0))) (ho : off < c.size) (hv : flat v = true) :
    (store ⟨b, off, none⟩ v).run P w = .ok () (w.setCell ⟨b, off, none⟩ v) := by
  have hc : w.cell? ⟨b, off, none⟩ = some c[off] := by rw [cell_of_heap h]; simp [ho]
  have hf : w.frozen? ⟨b, off, none⟩ = false := by simp [World.frozen?, h]
  unfold store
  cases v <;> (try (simp [flat] at hv; done)) <;> (simp only [Sem.run, hc, hf]; rfl)

theorem run_stores_at {b off : Nat} {te : TypeId} (i : Nat) : ∀ (vs : List Value) (k : Nat) {w : World} {c : Array Value} {L : Own}, Tr w0 H0 L0 w H L → L[i]? = some (b, .cells c te (0, 0)) →
    off + k + vs.length ≤ c.size → (∀ v, v ∈ vs → flat v = true) →
    ∃ w', (storeCells ⟨b, off, none⟩ vs k).run P w = .ok () w' ∧ Tr w0 H0 L0 w' H (L.set i (b, .cells (puts c (off + k) vs) te (0, 0))) := by
  intro vs
  induction vs with
  | nil =>
    intro k w c L T hL _ _
    exact ⟨w, by unfold storeCells; rfl, by simp only [puts]; rw [own_set hL]; exact T⟩
  | cons v vs ih =>
    intro k w c L T hL hs hf
    have h1 := T.own _ (List.mem_of_getElem? hL)
    have hst := run_store_at (P := P) (off := off + k) h1 (by simp at hs; omega) (hf v (by simp))
    have T1 := T.setCellAt i hL (off + k) v
    have hi : i < L.length := by
      rcases Nat.lt_or_ge i L.length with h | h
      · exact h
      · rw [List.getElem?_eq_none h] at hL; cases hL
    obtain ⟨w', hr, T'⟩ := ih (k + 1) T1 (c := c.setIfInBounds (off + k) v) (by rw [List.getElem?_set_self hi]) (by simp at hs ⊢; omega) (fun u hu => hf u (by simp [hu]))
    refine ⟨w', ?_, ?_⟩
    · unfold storeCells
      rw [Addr.add_mk, Sem.run_bind, hst, Result.andThen_ok, hr]
    · rw [List.set_set] at T'
      exact T'

theorem op_store_own (hw : ∀ op, Region.wanted (Oper.mk dst op ty pos after guard) (yielded ops a.tmps) = true) (i : Nat) {t : TypeId} {x y : Operand} {b off c te} {v : Value} (T : Tr w0 H0 L0 w H L) (hL : L[i]? = some (b, .cells c te (0, 0)))
    (hx : a.eval x = .pointer (some ⟨b, off, none⟩)) (hy : evalO a y = some v) (hs : ∀ w, (sizeOf t).run P w = .ok v.cells.size w)
    (hsz : off + v.cells.toList.length ≤ c.size) (hf : v.cells.toList.all flat = true)
    (k : ∀ w', Tr w0 H0 L0 w' H (L.set i (b, .cells (puts c off v.cells.toList) te (0, 0))) → wpList P ops Q rest (a.put dst undef) w') :
    wpList P ops Q (Oper.mk dst (.store t x y) ty pos after guard :: rest) a w := by
  obtain ⟨w', hr, T'⟩ := run_stores_at (P := P) i v.cells.toList 0 T hL (by simpa using hsz) (List.all_eq_true.1 hf)
  refine wp_skipped (hw _) (w' := w') ?_ (k w' (by simpa using T'))
  simp only [execOp, hx, eval_of hy]
  simp only [Instr.storeAt, Instr.sureAddr, storeVar, Sem.run_bind, Sem.run_pure, Result.andThen_ok, hs, ne_eq, not_true, if_false, hr]

/-! shapes: which operation stands first (for the walk's arms) -/
theorem is_alloc {t : TypeId} (k : wpList P ops Q (Oper.mk dst (.alloc t) ty pos after guard :: rest) a w) : wpList P ops Q (Oper.mk dst (.alloc t) ty pos after guard :: rest) a w := k
theorem is_box {t : TypeId} {x : Operand} (k : wpList P ops Q (Oper.mk dst (.box t x) ty pos after guard :: rest) a w) : wpList P ops Q (Oper.mk dst (.box t x) ty pos after guard :: rest) a w := k
theorem is_load {t : TypeId} {x : Operand} (k : wpList P ops Q (Oper.mk dst (.load t x) ty pos after guard :: rest) a w) : wpList P ops Q (Oper.mk dst (.load t x) ty pos after guard :: rest) a w := k
theorem is_store {t : TypeId} {x y : Operand} (k : wpList P ops Q (Oper.mk dst (.store t x y) ty pos after guard :: rest) a w) : wpList P ops Q (Oper.mk dst (.store t x y) ty pos after guard :: rest) a w := k
theorem is_range {t : TypeId} {x : Operand} (k : wpList P ops Q (Oper.mk dst (.range t x) ty pos after guard :: rest) a w) : wpList P ops Q (Oper.mk dst (.range t x) ty pos after guard :: rest) a w := k
theorem is_next {x : Operand} {b : Bool} (k : wpList P ops Q (Oper.mk dst (.next x b) ty pos after guard :: rest) a w) : wpList P ops Q (Oper.mk dst (.next x b) ty pos after guard :: rest) a w := k

/-! range over a string -/
theorem Tr.setObj {w0 H0 L0 w H b o o'} {L : Own} (i : Nat) (T : Tr w0 H0 L0 w H L) (hL : L[i]? = some (b, o)) :
    Tr w0 H0 L0 { w with heap := w.heap.setIfInBounds b o' } H (L.set i (b, o')) := by
  have hm := List.mem_of_getElem? hL
  have hi : i < L.length := by
    rcases Nat.lt_or_ge i L.length with h | h
    · exact h
    · rw [List.getElem?_eq_none h] at hL; cases hL
  have hLi : L[i] = (b, o) := by rw [List.getElem?_eq_getElem hi] at hL; simpa using hL
  have hlt := T.lt hm
  have hf := T.fresh _ hm
  have hoth : ∀ k, k ≠ b → (w.heap.setIfInBounds b o')[k]? = w.heap[k]? := fun k hk => by
    rw [Array.getElem?_setIfInBounds]; split
    · rename_i h; exact absurd h.symm hk
    · rfl
  have hnd := T.nodup
  have hmap : (L.set i (b, o')).map Prod.fst = L.map Prod.fst := by
    rw [List.map_set]
    apply List.ext_getElem?
    intro j
    rw [List.getElem?_set]
    split
    · subst_vars
      rw [if_pos (by simpa using hi)]
      rw [List.getElem?_map, hL]; rfl
    · rfl
  have huniq : ∀ p, p ∈ L.set i (b, o') → p = (b, o') ∨ (p ∈ L ∧ p.1 ≠ b) := by
    intro p hp
    obtain ⟨j, hj, e⟩ := List.getElem_of_mem hp
    rw [List.getElem_set] at e
    split at e
    · exact .inl e.symm
    · rename_i hne
      have hj' : j < L.length := by simpa using hj
      refine .inr ⟨e ▸ List.getElem_mem hj', ?_⟩
      intro hb
      have := (List.getElem_inj (xs := L.map Prod.fst) (i := i) (j := j) (h₀ := by simpa using hi) (h₁ := by simpa using hj') hnd).1 (by
        simp only [List.getElem_map, hLi, e, hb])
      exact hne this
  refine ⟨T.os, T.tape, T.output, by simpa using T.size, ?_, T.le, T.new, ?_, ?_, ?_, ?_⟩
  · intro k hk hn
    have : k ≠ b := by
      rintro rfl
      rcases hf.2 with h | h
      · simp only at h; omega
      · exact hn h
    show (w.heap.setIfInBounds b o')[k]? = _
    rw [hoth k this]; exact T.keep k hk hn
  · intro k c' t' h
    have : k ≠ b := by rintro rfl; rw [hf.1] at h; cases h
    show ∃ fz, (w.heap.setIfInBounds b o')[k]? = _
    rw [hoth k this]; exact T.inn k c' t' h
  · intro p hp
    show (w.heap.setIfInBounds b o')[p.1]? = _
    rcases huniq p hp with rfl | ⟨h, hne⟩
    · rw [Array.getElem?_setIfInBounds]; simp [hlt]
    · rw [hoth p.1 hne]; exact T.own p h
  · intro p hp
    rcases huniq p hp with rfl | ⟨h, _⟩
    · exact hf
    · exact T.fresh p h
  · rw [hmap]; exact hnd

theorem op_range_str (hw : ∀ op, Region.wanted (Oper.mk dst op ty pos after guard) (yielded ops a.tmps) = true) {t : TypeId} {x : Operand} {s : ByteArray}
    (hx : a.eval x = .string s) (hu : P.underlying t = some .string) (T : Tr w0 H0 L0 w H L)
    (k : ∀ w' b, Tr w0 H0 L0 w' H ((b, .stringIter s 0) :: L) → wpList P ops Q rest (a.put dst (.pointer (some ⟨b, 0, none⟩))) w') :
    wpList P ops Q (Oper.mk dst (.range t x) ty pos after guard :: rest) a w := by
  refine wp_value (hw _) (v := .pointer (some ⟨w.heap.size, 0, none⟩)) (w' := w.alloc (.stringIter s 0)) ?_ (k _ _ (T.alloc _))
  simp only [execOp, hx]
  refine run_v ?_
  simp only [Instr.range, Sem.run_bind]
  have : (underlying t).run P w = .ok .string w := by
    unfold underlying program
    simp only [Sem.run_bind, Sem.run, hu, Result.andThen_ok]
    rfl
  rw [this]
  rfl

theorem op_next_str (i : Nat) (hw : ∀ op, Region.wanted (Oper.mk dst op ty pos after guard) (yielded ops a.tmps) = true) {x : Operand} {b : Nat} {s : ByteArray} {p : Nat}
    (T : Tr w0 H0 L0 w H L) (hL : L[i]? = some (b, .stringIter s p)) (hx : a.eval x = .pointer (some ⟨b, 0, none⟩))
    (kend : ¬ p < s.size → wpList P ops Q rest (a.put dst (.tuple #[.bool false])) w)
    (k : p < s.size → ∀ w', Tr w0 H0 L0 w' H (L.set i (b, .stringIter s (p + (Utf8.decode s p).2))) →
      wpList P ops Q rest (a.put dst (.tuple #[.bool true, goInt p, .int .i32 (Utf8.decode s p).1])) w') :
    wpList P ops Q (Oper.mk dst (.next x true) ty pos after guard :: rest) a w := by
  have h1 := T.own _ (List.mem_of_getElem? hL)
  have hget : (getObj b).run P w = .ok (.stringIter s p) w := by unfold getObj; simp only [Sem.run, h1]
  by_cases hp : p < s.size
  · refine wp_value (hw _) (v := .tuple #[.bool true, goInt p, .int .i32 (Utf8.decode s p).1]) (w' := { w with heap := w.heap.setIfInBounds b (.stringIter s (p + (Utf8.decode s p).2)) }) ?_ (k hp _ (T.setObj i hL))
    simp only [execOp, hx]
    refine run_v ?_
    have hset : (setObj b (.stringIter s (p + (Utf8.decode s p).2))).run P w = .ok () { w with heap := w.heap.setIfInBounds b (.stringIter s (p + (Utf8.decode s p).2)) } := by
      unfold setObj; simp only [Sem.run, h1]
    simp only [Instr.next, Sem.run_bind, hget, Result.andThen_ok, if_pos hp, hset]
    rfl
  · refine wp_value (hw _) (v := .tuple #[.bool false]) (w' := w) ?_ (kend hp)
    simp only [execOp, hx]
    refine run_v ?_
    simp only [Instr.next, Sem.run_bind, hget, Result.andThen_ok, if_neg hp]
    rfl

/-- what a guard asks for, and what was found -/
def guardVal (ops : Array Oper) (tmps : Array Value) : Option (Nat × Bool) → Option (Bool × Bool)
  | some (j, want) => (yielded ops tmps j).map fun b => (b, want)
  | none => none

theorem wanted_of {b want : Bool} (h1 : guardVal ops a.tmps guard = some (b, want)) (h2 : b = want) :
    ∀ op, Region.wanted (Oper.mk dst op ty pos after guard) (yielded ops a.tmps) = true := by
  intro op
  cases guard with
  | none => rfl
  | some g =>
    obtain ⟨j, wt⟩ := g
    simp only [guardVal] at h1
    simp only [Region.wanted]
    cases hy : yielded ops a.tmps j with
    | none => rw [hy] at h1; cases h1
    | some b' => rw [hy] at h1; cases h1; subst h2; simp

theorem is_binOp (t : TypeId) {op : BinOp} {x y : Operand} {yt : TypeId} (k : wpList P ops Q (Oper.mk dst (.binOp op t x y yt) ty pos after guard :: rest) a w) : wpList P ops Q (Oper.mk dst (.binOp op t x y yt) ty pos after guard :: rest) a w := k

theorem op_bin (hw : ∀ op, Region.wanted (Oper.mk dst op ty pos after guard) (yielded ops a.tmps) = true) {op : BinOp} {t yt : TypeId} {x y : Operand} {vx vy r : Value}
    (hx : evalO a x = some vx) (hy : evalO a y = some vy) (hr : ∀ w, (do eqGuard op t x y vx vy; binOp op t vx vy : Sem Value).run P w = .ok r w)
    (k : wpList P ops Q rest (a.put dst r) w) : wpList P ops Q (Oper.mk dst (.binOp op t x y yt) ty pos after guard :: rest) a w := by
  refine wp_value (hw _) (v := r) (w' := w) ?_ k
  simp only [execOp, eval_of hx, eval_of hy]
  exact run_v (hr w)

theorem op_load1_cell (hw : ∀ op, Region.wanted (Oper.mk dst op ty pos after guard) (yielded ops a.tmps) = true) {t : TypeId} {x : Operand} {ad : Addr} {v : Value} (hu : ∀ w, (isAgg t).run P w = .ok false w)
    (hx : a.eval x = .pointer (some ad)) (hc : w.cell? ad = some v)
    (k : wpList P ops Q rest (a.put dst v) w) : wpList P ops Q (Oper.mk dst (.load t x) ty pos after guard :: rest) a w := by
  refine wp_value (hw _) (v := v) (w' := w) ?_ k
  simp only [execOp, hx]
  refine run_v ?_
  simp only [Instr.loadAt, Instr.sureAddr, loadVar, Sem.run_bind, Sem.run_pure, Result.andThen_ok, hu, Bool.false_eq_true, if_false, Sem.run_ite, run_load, hc]

theorem op_load2_cell (hw : ∀ op, Region.wanted (Oper.mk dst op ty pos after guard) (yielded ops a.tmps) = true) {t : TypeId} {x : Operand} {b off : Nat} {v v' : Value} (hu : ∀ w, (isAgg t).run P w = .ok true w)
    (hs : ∀ w, (sizeOf t).run P w = .ok 2 w) (hx : a.eval x = .pointer (some ⟨b, off, none⟩)) (hc : w.cell? ⟨b, off, none⟩ = some v) (hc' : w.cell? ⟨b, off + 1, none⟩ = some v')
    (k : wpList P ops Q rest (a.put dst (.agg #[v, v'])) w) : wpList P ops Q (Oper.mk dst (.load t x) ty pos after guard :: rest) a w := by
  refine wp_value (hw _) (v := .agg #[v, v']) (w' := w) ?_ k
  simp only [execOp, hx]
  refine run_v ?_
  have : (loadCells ⟨b, off, none⟩ 2).run P w = .ok #[v, v'] w := by
    have := run_loadCells_list (P := P) (w := w) ⟨b, off, none⟩ [v, v'] (fun j u hj => by
      match j, hj with
      | 0, hj => simp at hj; subst hj; rw [Addr.add_mk]; exact hc
      | 1, hj => simp at hj; subst hj; rw [Addr.add_mk]; exact hc'
      | n + 2, hj => simp at hj)
    simpa using this
  simp only [Instr.loadAt, Instr.sureAddr, loadVar, Sem.run_bind, Sem.run_pure, Result.andThen_ok, hu, if_true, Sem.run_ite, hs, this]

/-! results -/
variable {fn : Func} {R : Ending → World → Prop}
theorem getD_of {a : Act} {t : Tmp} {v : Value} (h : evalO a (.tmp t) = some v) : a.tmps.getD t undef = v := by
  have : a.tmps[t]? = some v := nth_arr h
  simp [Array.getD_eq_getD_getElem?, this]

theorem at_of {a : Act} {t : Tmp} {v : Value} (h : evalO a (.tmp t) = some v) : a.tmps[t]? = some v := nth_arr h

theorem ret1_of {t : Tmp} {v : Value} (hres : fn.results = #[.tmp t]) (h1 : evalO a (.tmp t) = some v) (hd : a.defers = []) (hR : R (.returned v) w) : bodyPost P fn R .ret a w :=
  bodyPost_ret (v := v) (by rw [results_tmp hres, getD_of h1]) hd hR
theorem ret2_of {t u : Tmp} {v v' : Value} (hres : fn.results = #[.tmp t, .tmp u]) (h1 : evalO a (.tmp t) = some v) (h2 : evalO a (.tmp u) = some v') (hd : a.defers = [])
    (hR : R (.returned (.tuple #[v, v'])) w) : bodyPost P fn R .ret a w :=
  bodyPost_ret (v := .tuple #[v, v']) (by rw [results_tmp2 hres, getD_of h1, getD_of h2]) hd hR
theorem ret3_of {t u x : Tmp} {v v' v'' : Value} (hres : fn.results = #[.tmp t, .tmp u, .tmp x]) (h1 : evalO a (.tmp t) = some v) (h2 : evalO a (.tmp u) = some v') (h3 : evalO a (.tmp x) = some v'')
    (hd : a.defers = []) (hR : R (.returned (.tuple #[v, v', v''])) w) : bodyPost P fn R .ret a w :=
  bodyPost_ret (v := .tuple #[v, v', v'']) (by simp [results, hres, at_of h1, at_of h2, at_of h3]) hd hR

theorem run_loadVar_own {t : TypeId} {b c te fz} (i : Nat) (T : Tr w0 H0 L0 w H L) (hL : L[i]? = some (b, .cells c te fz))
    (hu : ∀ w, (isAgg t).run P w = .ok true w) (hs : ∀ w, (sizeOf t).run P w = .ok c.size w) : (loadVar t ⟨b, 0, none⟩).run P w = .ok (.agg c) w := by
  simp only [loadVar, Sem.run_bind, Result.andThen_ok, hu, if_true, Sem.run_ite, hs, run_loads_at (T.own _ (List.mem_of_getElem? hL)) (vs := c) (fun j _ => by rw [Nat.zero_add]), Sem.run_pure]

theorem retc_of (i : Nat) {p : Tmp} {t : TypeId} {b c te fz} (hres : fn.results = #[.cell p t]) (T : Tr w0 H0 L0 w H L) (hL : L[i]? = some (b, .cells c te fz))
    (hp : evalO a (.tmp p) = some (.pointer (some ⟨b, 0, none⟩))) (hu : ∀ w, (isAgg t).run P w = .ok true w) (hs : ∀ w, (sizeOf t).run P w = .ok c.size w)
    (hd : a.defers = []) (hR : R (.returned (.agg c)) w) : bodyPost P fn R .ret a w :=
  bodyPost_ret (v := .agg c) (by simp [results, hres, at_of hp, asAddr, run_loadVar_own i T hL hu hs]) hd hR
theorem retct_of (i : Nat) {p u : Tmp} {t : TypeId} {b c te fz} {v : Value} (hres : fn.results = #[.cell p t, .tmp u]) (T : Tr w0 H0 L0 w H L) (hL : L[i]? = some (b, .cells c te fz))
    (hp : evalO a (.tmp p) = some (.pointer (some ⟨b, 0, none⟩))) (h1 : evalO a (.tmp u) = some v) (hu : ∀ w, (isAgg t).run P w = .ok true w) (hs : ∀ w, (sizeOf t).run P w = .ok c.size w)
    (hd : a.defers = []) (hR : R (.returned (.tuple #[.agg c, v])) w) : bodyPost P fn R .ret a w :=
  bodyPost_ret (v := .tuple #[.agg c, v]) (by simp [results, hres, at_of hp, at_of h1, asAddr, run_loadVar_own i T hL hu hs]) hd hR
theorem retctt_of (i : Nat) {p u x : Tmp} {t : TypeId} {b c te fz} {v v' : Value} (hres : fn.results = #[.cell p t, .tmp u, .tmp x]) (T : Tr w0 H0 L0 w H L) (hL : L[i]? = some (b, .cells c te fz))
    (hp : evalO a (.tmp p) = some (.pointer (some ⟨b, 0, none⟩))) (h1 : evalO a (.tmp u) = some v) (h2 : evalO a (.tmp x) = some v') (hu : ∀ w, (isAgg t).run P w = .ok true w) (hs : ∀ w, (sizeOf t).run P w = .ok c.size w)
    (hd : a.defers = []) (hR : R (.returned (.tuple #[.agg c, v, v'])) w) : bodyPost P fn R .ret a w :=
  bodyPost_ret (v := .tuple #[.agg c, v, v']) (by simp [results, hres, at_of hp, at_of h1, at_of h2, asAddr, run_loadVar_own i T hL hu hs]) hd hR

end

end Go.Proofs.YtjgnpaifdbanjaaDoor
