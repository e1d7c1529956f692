import Derived.Test.YtgklmecijeadlaaGreatDoorA3
set_option linter.unusedSimpArgs false
set_option linter.unusedVariables false
set_option linter.unusedSectionVars false
namespace Go.Proofs.YtgklmecijeadlaaGreatDoor.Ab

/-! ### operations that leave memory alone -/
section
variable {T : Tab} {P : Program} (hT : TabOk T P)

include hT in
theorem part_ok {E : Env} {t : TypeId} {c : List AV} {cs : Array Value} {off : Nat} {r : AV} {w : World} (h : partA T t c off = some r) (hl : c.length = cs.size) (hf : ∀ i, i < c.length → (gd cs i).oneCell' = true)
    (hr : ∀ (i : Nat) (a : AV), c[i]? = some a → Rel E a (gd cs i)) : ∃ x, (part t cs off).run P w = .ok x w ∧ Rel E r x := by
  unfold partA at h
  unfold part
  cases hag : T.agg t with
  | none => rw [hag] at h; simp at h
  | some g =>
    rw [hag] at h
    cases g with
    | true =>
      cases hsz : T.size t with
      | none => rw [hsz] at h; simp at h
      | some n =>
        rw [hsz] at h
        simp only at h
        cases hb : Nat.ble (off + n) c.length with
        | false => rw [hb] at h; cases h
        | true =>
          rw [hb] at h
          simp only [cond_true, Option.some.injEq] at h
          subst h
          have hle := nble_iff.1 hb
          have hs : off + n ≤ cs.size := by omega
          refine ⟨.agg (cs.extract off (off + n)), ?_, ?_⟩
          · simp only [Sem.run_bind, run_agg hT hag, Result.andThen_ok, if_true, run_size hT hsz, Sem.run_pure]
          · have hlen : ((c.drop off).take n).length = n := by simp; omega
            refine .agg (by rw [hlen]; simp; omega) ?_ ?_
            · intro i hi
              rw [hlen] at hi
              rw [gd_extract hs hi]
              exact hf _ (by omega)
            · intro i a hi
              have hin : i < n := by
                rcases Nat.lt_or_ge i n with h' | h'
                · exact h'
                · rw [List.getElem?_eq_none (by omega)] at hi; cases hi
              rw [gd_extract hs hin]
              rw [List.getElem?_take, if_pos hin, List.getElem?_drop] at hi
              exact hr _ a hi
    | false =>
      simp only at h
      have hlt : off < c.length := by
        rcases Nat.lt_or_ge off c.length with h' | h'
        · exact h'
        · rw [List.getElem?_eq_none h'] at h; cases h
      refine ⟨gd cs off, ?_, hr off r h⟩
      simp only [Sem.run_bind, run_agg hT hag, Result.andThen_ok, Bool.false_eq_true, if_false, gd_lt (show off < cs.size by omega), Sem.run_pure]

theorem fieldOff_ok {t : TypeId} {f o : Nat} {ft : TypeId} (h : fieldOff T t f = some (o, ft)) : ∃ fs x, T.und t = some (.struct fs) ∧ fs[f]? = some x ∧ x.offset = o ∧ x.type = ft := by
  unfold fieldOff at h
  split at h
  · rename_i fs hu
    cases hx : fs.toList[f]? with
    | none => rw [hx] at h; cases h
    | some x =>
      rw [hx] at h; cases h
      exact ⟨fs, x, hu, by simpa using hx, rfl, rfl⟩
  · cases h

include hT in
theorem fieldA_ok {E : Env} {t : TypeId} {x r : AV} {v : Value} {f : Nat} {w : World} (h : fieldA T t x f = some r) (hr : Rel E x v) : ∃ y, (Instr.field t v f).run P w = .ok y w ∧ Rel E r y := by
  unfold fieldA at h
  split at h
  · rename_i o ft c hfo
    obtain ⟨fs, fd, hu, hfd, rfl, rfl⟩ := fieldOff_ok hfo
    cases hr with
    | agg h1 h2 h3 =>
      obtain ⟨y, hy, ry⟩ := part_ok hT (w := w) h h1 h2 h3
      refine ⟨y, ?_, ry⟩
      unfold Instr.field
      simp [run_und hT hu, hfd, asAgg, hy]
  · cases h

include hT in
theorem fieldAddrA_ok {E : Env} {t : TypeId} {x r : AV} {v : Value} {f : Nat} {w : World} (h : fieldAddrA T t x f = some r) (hr : Rel E x v) :
    ∃ y, (Instr.fieldAt t v f).run P w = .ok y w ∧ Rel E r y := by
  unfold fieldAddrA at h
  cases hfo : fieldOff T t f with
  | none => rw [hfo] at h; cases h
  | some q =>
    obtain ⟨o, ft⟩ := q
    rw [hfo] at h
    simp only at h
    obtain ⟨fs, fd, hu, hfd, rfl, rfl⟩ := fieldOff_ok hfo
    cases hsz : T.size fd.type with
    | none => rw [hsz] at h; cases h
    | some sz =>
      rw [hsz] at h
      simp only at h
      rw [nbeq] at h
      by_cases h0 : sz = 0
      · simp [h0] at h
      · rw [decide_eq_false h0, cond_false] at h
        obtain ⟨a, rfl, hspot⟩ : ∃ a, v = .pointer (some a) ∧ a.spot = none := by
          cases x <;> simp only at h <;> first
            | (cases h; done)
            | (cases hr <;> exact ⟨_, rfl, rfl⟩)
        have hrun : (Instr.fieldAt t (.pointer (some a)) f).run P w = .ok (.pointer (some (a.add fd.offset))) w := by
          unfold Instr.fieldAt
          simp [run_und hT hu, hfd, Instr.sureAddr, fieldPlace, run_size hT hsz, h0]
        refine ⟨_, hrun, ?_⟩
        obtain ⟨b, off, sp⟩ := a
        simp only at hspot
        subst hspot
        rw [Addr.add_mk]
        cases x <;> simp only at h
        case ptr s of' =>
          cases h
          cases hr with
          | ptr ha => exact .ptr ha
          | ptrS h1 h2 => exact .ptrS h1 h2
        case aptr s g of' =>
          cases h
          cases hr with
          | aptr hg ha => exact .aptr hg ha
          | aptrS h1 h2 => exact .aptrS h1 h2
        case iptr row of' =>
          cases h
          cases hr with
          | iptr h1 h2 h3 h4 => rw [Nat.add_assoc]; exact .iptr h1 h2 h3 h4
        all_goals cases h

theorem natOf_ok {E : Env} {a : AV} {v : Value} {n : Nat} (h : natOf a = some n) (hr : Rel E a v) : ∃ k, v = .int k n := by
  unfold natOf at h
  split at h
  · rename_i k m
    split at h
    · rename_i h0
      cases h
      cases hr
      exact ⟨k, by rw [Int.toNat_of_nonneg h0]⟩
    · cases h
  · cases h

include hT in
theorem indexA_ok {E : Env} {t : TypeId} {x i r : AV} {v iv : Value} {w : World} (h : indexA T t x i = some r) (hr : Rel E x v) (hi : Rel E i iv) : ∃ y, (Instr.index t v iv).run P w = .ok y w ∧ Rel E r y := by
  unfold indexA at h
  split at h
  · rename_i s n hu hn
    obtain ⟨k, rfl⟩ := natOf_ok hn hi
    cases hr
    cases hb : s[n]? with
    | none => rw [hb] at h; cases h
    | some b =>
      rw [hb] at h; cases h
      have hlt : n < s.length := by
        rcases Nat.lt_or_ge n s.length with h' | h'
        · exact h'
        · rw [List.getElem?_eq_none h'] at hb; cases hb
      refine ⟨.int .u8 b.toNat, ?_, .int⟩
      have hge : (⟨s.toArray⟩ : ByteArray)[n]? = some b := by
        rw [getElem?_pos _ n (by simpa [ByteArray.size] using hlt)]
        rw [List.getElem?_eq_getElem hlt] at hb
        simp only [Option.some.injEq] at hb ⊢
        rw [← hb]; rfl
      unfold Instr.index
      simp only [Sem.run_bind, asIntOf, Sem.run_pure, Result.andThen_ok, run_und hT hu]
      simp [hge]
  · rename_i n e c i' hu hn
    obtain ⟨k, rfl⟩ := natOf_ok hn hi
    cases hr with
    | agg h1 h2 h3 =>
      cases hsz : T.size e with
      | none => rw [hsz] at h; cases h
      | some sz =>
        rw [hsz] at h
        simp only at h
        cases hb : Nat.blt i' n with
        | false => rw [hb] at h; cases h
        | true =>
          rw [hb] at h
          simp only [cond_true] at h
          have hlt := blt_iff.1 hb
          obtain ⟨y, hy, ry⟩ := part_ok hT (w := w) h h1 h2 h3
          refine ⟨y, ?_, ry⟩
          unfold Instr.index
          simp only [Sem.run_bind, asIntOf, Sem.run_pure, Result.andThen_ok, run_und hT hu]
          rw [Sem.run_ite, if_pos (by omega)]
          simp [run_size hT hsz, hy]
  · cases h

theorem bytes_mk (s t : List UInt8) : ((⟨s.toArray⟩ : ByteArray) ++ ⟨t.toArray⟩) = ⟨(s ++ t).toArray⟩ := by
  apply ByteArray.ext
  simp
theorem toList_mk (s : List UInt8) : (⟨s.toArray⟩ : ByteArray).toList = s := by rw [ByteArray.toList_eq]

theorem intOp_ok {op : BinOp} {k : IntKind} {x y : Int} {r : AV} {w : World} {E : Env} {t : TypeId} (h : intOp op k x y = some r) :
    ∃ v, (binOp op t (.int k x) (.int k y)).run P w = .ok v w ∧ Rel E r v := by
  unfold intOp at h
  cases op <;> simp only at h
  case quo =>
    split at h
    · cases h
    · rename_i h0; cases h
      exact ⟨_, by simp [binOp, Op.intDiv, h0], .int⟩
  case rem =>
    split at h
    · cases h
    · rename_i h0; cases h
      exact ⟨_, by simp [binOp, Op.intDiv, h0], .int⟩
  case shl => cases h
  case shr => cases h
  case gtr => cases h; exact ⟨_, by simp only [binOp, Op.intCmp]; rw [if_neg (by simp)]; rfl, .bool⟩
  case geq => cases h; exact ⟨_, by simp only [binOp, Op.intCmp]; rw [if_neg (by simp)]; rfl, .bool⟩
  case add => cases h; exact ⟨_, by simp only [binOp, Op.intArith]; rw [if_neg (by simp)]; rfl, .int⟩
  case sub => cases h; exact ⟨_, by simp only [binOp, Op.intArith]; rw [if_neg (by simp)]; rfl, .int⟩
  case mul => cases h; exact ⟨_, by simp only [binOp, Op.intArith]; rw [if_neg (by simp)]; rfl, .int⟩
  case and => cases h; exact ⟨_, by simp only [binOp, Op.intBits]; rw [if_neg (by simp)]; rfl, .int⟩
  case or => cases h; exact ⟨_, by simp only [binOp, Op.intBits]; rw [if_neg (by simp)]; rfl, .int⟩
  case xor => cases h; exact ⟨_, by simp only [binOp, Op.intBits]; rw [if_neg (by simp)]; rfl, .int⟩
  case andNot => cases h; exact ⟨_, by simp only [binOp, Op.intBits]; rw [if_neg (by simp)]; rfl, .int⟩
  all_goals
    cases h
    exact ⟨_, by simp only [binOp, Op.intCmp]; rw [if_neg (by simp)]; rfl, .bool⟩

theorem shiftOp_ok {op : BinOp} {k k' : IntKind} {x y : Int} {r : AV} {w : World} {E : Env} {t : TypeId} (h : shiftOp op k x y = some r) :
    ∃ v, (binOp op t (.int k x) (.int k' y)).run P w = .ok v w ∧ Rel E r v := by
  unfold shiftOp at h
  split at h
  · cases h
  · rename_i h0
    cases op <;> simp only at h <;> first
      | (cases h; exact ⟨_, by simp only [binOp, Op.shift]; rw [if_neg h0]; rfl, .int⟩)
      | cases h

theorem strOp_ok {op : BinOp} {x y : List UInt8} {r : AV} {w : World} {E : Env} {t : TypeId} (h : strOp op x y = some r) :
    ∃ v, (binOp op t (.string ⟨x.toArray⟩) (.string ⟨y.toArray⟩)).run P w = .ok v w ∧ Rel E r v := by
  unfold strOp at h
  cases op <;> simp only at h
  case add =>
    cases hb : Nat.ble (x.length + y.length) 1099511627776 with
    | false => rw [hb] at h; cases h
    | true =>
      rw [hb] at h
      cases h
      have hle := nble_iff.1 hb
      refine ⟨.string ⟨(x ++ y).toArray⟩, ?_, .str⟩
      have hn : ¬ ((((⟨x.toArray⟩ : ByteArray).size + (⟨y.toArray⟩ : ByteArray).size : Nat) : Int) > IntKind.i64.max) := by
        have e1 : (⟨x.toArray⟩ : ByteArray).size = x.length := by simp [ByteArray.size]
        have e2 : (⟨y.toArray⟩ : ByteArray).size = y.length := by simp [ByteArray.size]
        rw [e1, e2]
        have : IntKind.i64.max = 9223372036854775807 := by decide
        rw [this]; omega
      simp only [binOp, Op.stringOp]
      rw [if_neg hn, bytes_mk]; rfl
  all_goals first
    | (cases h; exact ⟨_, by simp only [binOp, Op.stringOp, toList_mk]; rfl, .bool⟩)
    | cases h

theorem unA_ok {op : UnOp} {a r : AV} {v : Value} {w : World} {E : Env} (h : unA op a = some r) (hr : Rel E a v) : ∃ y, (Op.unary op v).run P w = .ok y w ∧ Rel E r y := by
  unfold unA at h
  split at h
  · cases h; cases hr; exact ⟨_, by simp [Op.unary, Op.intArith], .int⟩
  · rename_i k n
    cases hr
    simp only [intOp] at h
    cases h
    exact ⟨_, by simp only [Op.unary, Op.intBits]; rfl, .int⟩
  · cases h; cases hr; exact ⟨_, by simp [Op.unary], .bool⟩
  · cases h

theorem minA_ok {P : Program} {E : Env} {op : Bool} : ∀ {l : List AV} {x r : AV} {v : Value} {vs : List Value} {w : World}, minA op x l = some r → Rel E x v → (∀ (i : Nat) (a : AV), l[i]? = some a → Rel E a (vs.getD i undef)) → l.length = vs.length →
    ∃ y, ((vs.foldlM (if op then Builtin.max2 else Builtin.min2) v)).run P w = .ok y w ∧ Rel E r y
  | [], x, r, v, vs, w, h, hx, hl, hn => by
    have : vs = [] := by cases vs with | nil => rfl | cons => simp at hn
    subst this
    simp only [minA, Option.some.injEq] at h
    subst h
    exact ⟨v, rfl, hx⟩
  | a :: l, x, r, v, [], w, h, hx, hl, hn => by simp at hn
  | a :: l, x, r, v, u :: vs, w, h, hx, hl, hn => by
    cases x <;> try (simp [minA] at h; done)
    rename_i k n
    cases a <;> try (simp [minA] at h; done)
    rename_i k' m
    rw [minA] at h
    have hu := hl 0 _ rfl
    simp only [List.getD_cons_zero] at hu
    cases hx; cases hu
    obtain ⟨y, hy, ry⟩ := minA_ok (P := P) (w := w) (vs := vs) h .int (fun i b hi => by have := hl (i + 1) b (by simpa using hi); simpa using this) (by simpa using hn)
    refine ⟨y, ?_, ry⟩
    rw [List.foldlM_cons]
    cases op
    · simp only [Bool.false_eq_true, if_false, cond_false] at hy ⊢
      simp only [Sem.run_bind, Builtin.min2, Sem.run_pure, Result.andThen_ok]
      exact hy
    · simp only [if_true, cond_true] at hy ⊢
      simp only [Sem.run_bind, Builtin.max2, Sem.run_pure, Result.andThen_ok]
      exact hy
end
end Go.Proofs.YtgklmecijeadlaaGreatDoor.Ab
