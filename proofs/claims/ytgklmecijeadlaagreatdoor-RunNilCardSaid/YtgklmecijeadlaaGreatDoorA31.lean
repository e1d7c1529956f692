import Derived.Test.YtgklmecijeadlaaGreatDoorA30
set_option linter.unusedSimpArgs false
set_option linter.unusedVariables false
set_option linter.unusedSectionVars false
namespace Go.Proofs.YtgklmecijeadlaaGreatDoor.Ab

/-! ### tables out of trees -/
inductive Tree (α : Type) where
  | leaf
  | node (k : Nat) (v : α) (l r : Tree α)
def Tree.get {α : Type} : Tree α → Nat → Option α
  | .leaf, _ => none
  | .node k v l r, n => bif Nat.beq n k then some v else bif Nat.blt n k then l.get n else r.get n
def Tree.All {α : Type} (p : Nat → α → Prop) : Tree α → Prop
  | .leaf => True
  | .node k v l r => p k v ∧ l.All p ∧ r.All p
def Tree.allB {α : Type} (p : α → Bool) : Tree α → Bool
  | .leaf => true
  | .node _ v l r => p v && l.allB p && r.allB p

theorem Tree.get_all {α : Type} {p : Nat → α → Prop} : ∀ {t : Tree α} {n : Nat} {v : α}, t.All p → t.get n = some v → p n v
  | .leaf, n, v, _, h => by cases h
  | .node k u l r, n, v, ⟨h1, h2, h3⟩, h => by
    simp only [Tree.get, Bool.cond_eq_ite] at h
    split at h
    · rename_i he; cases h; rw [nbeq_iff.1 he]; exact h1
    · split at h
      · exact Tree.get_all h2 h
      · exact Tree.get_all h3 h
theorem Tree.get_allB {α : Type} {p : α → Bool} : ∀ {t : Tree α} {n : Nat} {v : α}, t.allB p = true → t.get n = some v → p v = true
  | .leaf, n, v, _, h => by cases h
  | .node k u l r, n, v, h0, h => by
    simp only [Tree.allB, Bool.and_eq_true] at h0
    simp only [Tree.get, Bool.cond_eq_ite] at h
    split at h
    · cases h; exact h0.1.1
    · split at h
      · exact Tree.get_allB h0.1.2 h
      · exact Tree.get_allB h0.2 h

def tyUnd (tys : Tree TypeInfo) (t : TypeId) : Option TypeDesc := match tys.get t with
  | some i => match i.desc with
    | .named _ u => (match tys.get u with
      | some j => some j.desc
      | none => none)
    | d => some d
  | none => none
def isPtr : TypeDesc → Bool
  | .pointer _ => true
  | _ => false
def tyMeth (tys : Tree TypeInfo) (t : TypeId) (name : String) : Option FuncId := match tys.get t, tyUnd tys t with
  | some i, some d => match i.methods.find? (fun m => m.name == name) with
    | some m => match m.path.toList, m.func with
      | [], some (f, p) => bif p == isPtr d then some f else none
      | _, _ => none
    | none => none
  | _, _ => none

def tabOf (fns : Tree Func) (tys : Tree TypeInfo) (glob : Nat → Option (List AV)) (ext : FuncId → Option (List AV → St → Option (ER × St))) (eqT : TypeId → Bool) (fz : FuncId → Bool) : Tab where
  fn := fns.get
  und := tyUnd tys
  size t := match tys.get t with | some i => some i.size | none => none
  bytes t := match tys.get t with | some i => some i.bytes | none => none
  zero t := match tys.get t with | some i => i.zero | none => none
  glob := glob
  ext := ext
  eqT := eqT
  meth := tyMeth tys
  frz := fz

def zeroFits (i : TypeInfo) : Bool := match i.zero with
  | some v => v.cells.size == i.size
  | none => true
def fieldsIn (tys : Tree TypeInfo) (i : TypeInfo) : Bool := match i.desc with
  | .struct fs => fs.toList.all fun f => (tys.get f.type).isSome
  | _ => true
def offsOk (tys : Tree TypeInfo) : Nat → List Field → Bool
  | _, [] => true
  | k, f :: l => f.name != "_" && f.offset == k && (match tys.get f.type with | some i => offsOk tys (k + i.size) l | none => false)

structure TreesOk (P : Program) (fns : Tree Func) (tys : Tree TypeInfo) (eqT : TypeId → Bool) : Prop where
  fn : fns.All fun k f => P.funcs[k]? = some f
  names : fns.allB (fun f => !(f.name == "runtime.NumGoroutine")) = true
  ty : tys.All fun k i => P.types[k]? = some i
  zs : tys.allB zeroFits = true
  fl : tys.allB (fieldsIn tys) = true
  mixed : P.follows .mixedOrders = true
  eq : ∀ t, eqT t = true → P.stoodInHeld t = false ∧ P.eqGuardType P.depth t = false ∧ (match tyUnd tys t with | some (.struct fs) => offsOk tys 0 fs.toList | _ => true) = true

theorem offsOk_offs {fns : Tree Func} {tys : Tree TypeInfo} {glob : Nat → Option (List AV)} {ext : FuncId → Option (List AV → St → Option (ER × St))} {eqT : TypeId → Bool} {fz : FuncId → Bool} : ∀ {l : List Field} {k : Nat}, offsOk tys k l = true → offs (tabOf fns tys glob ext eqT fz) k l = true
  | [], k, _ => rfl
  | g :: l, k, h0 => by
    simp only [offsOk, Bool.and_eq_true] at h0
    simp only [offs, Bool.and_eq_true, tabOf]
    refine ⟨h0.1, ?_⟩
    have h1 := h0.2
    cases hg : tys.get g.type with
    | none => rw [hg] at h1; cases h1
    | some i => rw [hg] at h1; exact offsOk_offs h1

theorem tabOk {P : Program} {fns : Tree Func} {tys : Tree TypeInfo} {eqT : TypeId → Bool} (X : TreesOk P fns tys eqT) (glob : Nat → Option (List AV)) (ext : FuncId → Option (List AV → St → Option (ER × St))) (fz : FuncId → Bool) : TabOk (tabOf fns tys glob ext eqT fz) P := by
  have info : ∀ t i, tys.get t = some i → P.info? t = some i := by
    intro t i h
    have h1 := Tree.get_all X.ty h
    unfold Tables.info?
    rw [if_pos ?_]
    · exact h1
    · rcases Nat.lt_or_ge t P.types.size with h' | h'
      · exact h'
      · rw [Array.getElem?_eq_none h'] at h1; cases h1
  have und : ∀ t d, tyUnd tys t = some d → P.underlying t = some d := by
    intro t d h
    unfold tyUnd at h
    unfold Program.underlying
    split at h
    · rename_i i hi
      rw [info t i hi]
      obtain ⟨desc, s1, s2, s3, s4, s5, s6, s7, s8, s9⟩ := i
      simp only at h
      split at h
      · rename_i q u
        split at h
        · rename_i j hj
          cases h
          simp only [info _ j hj, Option.map_some]
        · cases h
      · rename_i hne
        cases h
        cases d <;> first | rfl | exact absurd rfl (hne _ _)
    · cases h
  refine ⟨?_, und, ?_, ?_, ?_, ?_, X.mixed, ?_, ?_, ?_⟩
  · intro f F h
    exact ⟨Tree.get_all X.fn h, by simpa using Tree.get_allB X.names h⟩
  · intro t n h
    simp only [tabOf] at h
    split at h
    · rename_i i hi; cases h; exact ⟨i, info t i hi, rfl⟩
    · cases h
  · intro t n h
    simp only [tabOf] at h
    split at h
    · rename_i i hi; cases h; exact ⟨i, info t i hi, rfl⟩
    · cases h
  · intro t v h
    simp only [tabOf] at h
    split at h
    · rename_i i hi; exact ⟨i, info t i hi, h⟩
    · cases h
  · intro t fs h hu
    obtain ⟨h1, h2, h3⟩ := X.eq t h
    have hu' : tyUnd tys t = some (.struct fs) := hu
    rw [hu'] at h3
    exact ⟨h1, h2, offsOk_offs h3⟩
  · intro t name f h v w
    have h' : tyMeth tys t name = some f := h
    unfold tyMeth at h'
    split at h'
    · rename_i i d hi hd
      split at h'
      · rename_i m hm
        have hti : (typeInfo t).run P w = .ok i w := by unfold typeInfo; simp [info t i hi]
        have hu : ∀ w, (underlying t).run P w = .ok d w := fun w => by unfold underlying; simp [und t d hd]
        rw [show P.types.size + Made.depth = (P.types.size + 99) + 1 by rfl]
        unfold method
        rw [Sem.run_bind, hti, Result.andThen_ok]
        simp only [hm]
        split at h'
        · rename_i f' p hp hf
          rw [hp]
          simp only [follow, pure_bind, hf, Sem.run_bind]
          unfold receiverAt
          rw [Sem.run_bind, hu, Result.andThen_ok]
          cases p <;> cases d <;> first
            | (cases h'; done)
            | (cases h'; rfl)
        · cases h'
      · cases h'
    · cases h'
  · intro t v n hz hs
    simp only [tabOf] at hz hs
    split at hs
    · rename_i i hi
      rw [hi] at hz
      cases hs
      have := Tree.get_allB X.zs hi
      unfold zeroFits at this
      simp only at hz
      rw [hz] at this
      simpa using this
    · cases hs
  · intro t fs hu f hf
    have key : ∀ u j, tys.get u = some j → j.desc = .struct fs → ∃ n, (tabOf fns tys glob ext eqT fz).size f.type = some n := by
      intro u j hj hd
      have := Tree.get_allB X.fl hj
      unfold fieldsIn at this
      rw [hd] at this
      simp only [List.all_eq_true] at this
      have := this f hf
      cases hg : tys.get f.type with
      | none => rw [hg] at this; cases this
      | some q => exact ⟨q.size, by simp only [tabOf, hg]⟩
    have hu' : tyUnd tys t = some (.struct fs) := hu
    unfold tyUnd at hu'
    split at hu'
    · rename_i i hi
      split at hu'
      · split at hu'
        · rename_i j hj; exact key _ j hj (by simpa using hu')
        · cases hu'
      · exact key t i hi (by simpa using hu')
    · cases hu'
end Go.Proofs.YtgklmecijeadlaaGreatDoor.Ab
