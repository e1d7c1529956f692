import Derived.Test.YtgklmecijeadlaaGreatDoorA33
import Derived.Lib.Bytealg
import Derived.Lib.Builder
import Derived.Lib.MakeNoZero
set_option linter.unusedSimpArgs false
set_option linter.unusedVariables false
set_option linter.unusedSectionVars false
namespace Go.Proofs.YtgklmecijeadlaaGreatDoor.Ab

/-! ### functions without a body -/
def Ext1 (T : Tab) (P : Program) (f : FuncId) (g : List AV → St → Option (ER × St)) : Prop :=
  ∀ args σ r σ', g args σ = some (r, σ') → Grow σ σ' ∧ ∀ K W E w vs, Sim T K W E σ w → RelL E args vs → CallFn P f vs w (EndRel T K W E r σ')

/-- where a byte stands -/
def idxA (c : Nat) : Nat → List UInt8 → Int
  | _, [] => -1
  | n, b :: l => bif Nat.beq b.toNat c then Int.ofNat n else idxA c (Nat.succ n) l
def extIdx : List AV → St → Option (ER × St) := fun a σ => match a with
  | [.str s, .int .u8 c] => some (.ret (.int .i64 (idxA c.toNat.toUInt8.toNat 0 s)), σ)
  | _ => none
def extSame : List AV → St → Option (ER × St) := fun a σ => match a with
  | [v] => some (.ret v, σ)
  | _ => none
def extMake (te : TypeId) : List AV → St → Option (ER × St) := fun a σ => match a with
  | [.int .i64 n] => if 0 ≤ n ∧ n ≤ 281474976710656 then some (.ret (.sown σ.next 1 n.toNat), σ.new (.arr 1 [] te 0)) else none
  | _ => none

theorem idxA_eq (c : UInt8) : ∀ (l : List UInt8) (n : Nat), idxA c.toNat n l = if Lib.indexByte l c = -1 then -1 else Lib.indexByte l c + n
  | [], n => rfl
  | b :: l, n => by
    unfold idxA Lib.indexByte
    rw [nbeq, idxA_eq c l (Nat.succ n)]
    have hge := Lib.indexByte_ge l c
    by_cases h : b = c
    · subst h; simp
    · have h1 : ¬ b.toNat = c.toNat := fun e => h (UInt8.toNat_inj.1 e)
      have h2 : (b == c) = false := by simpa using h
      rw [decide_eq_false h1, cond_false, h2]
      simp only [Bool.false_eq_true, if_false]
      by_cases h3 : Lib.indexByte l c = -1
      · simp [h3]
      · have h4 : (Lib.indexByte l c == -1) = false := by simpa using h3
        rw [if_neg h3, h4]
        simp only [Bool.false_eq_true, if_false]
        rw [if_neg (by omega)]
        omega

theorem endRel_same {T : Tab} {K : Nat → Prop} {W : World} {E : Env} {σ : St} {w : World} (S : Sim T K W E σ w) {a : AV} {v : Value} (h : Rel E a v) : EndRel T K W E (.ret a) σ (.returned v) w := ⟨E, Env.le.refl E, S, h⟩

theorem one_of {vs : Array Value} {n : Nat} {E : Env} {a : AV} (h : RelL E [a] vs) : vs = #[gd vs 0] ∧ Rel E a (gd vs 0) := by
  refine ⟨?_, h.at_ 0 _ rfl⟩
  have h2 : vs.size = 1 := by rw [← h.len]; rfl
  apply Array.ext
  · simp [h2]
  · intro i h1 h3
    match i, h3 with
    | 0, _ => simp [gd, Array.getD, h2]

theorem extIdx_ok {T : Tab} {P : Program} {f : FuncId} (hf : ∀ (s : ByteArray) (c : Int) (w : World), (callFunc f #[.string s, .int .u8 c]).run P w = .ok (.value (.int .i64 (Lib.indexByte s.data.toList c.toNat.toUInt8))) w) : Ext1 T P f extIdx := by
  intro args σ r σ' h
  unfold extIdx at h
  split at h
  · rename_i s c
    cases h
    refine ⟨.refl, fun K W E w vs S hvs => .inr ⟨_, w, ?_, endRel_same S .int⟩⟩
    have h0 := hvs.at_ 0 _ rfl
    have h1 := hvs.at_ 1 _ rfl
    have h2 : vs.size = 2 := by rw [← hvs.len]; rfl
    have e2 : vs = #[gd vs 0, gd vs 1] := by
      apply Array.ext
      · simp [h2]
      · intro i h1 h3
        match i, h3 with
        | 0, _ => simp [gd, Array.getD, h2]
        | 1, _ => simp [gd, Array.getD, h2]
    generalize gd vs 0 = g0 at *
    generalize gd vs 1 = g1 at *
    cases h0; cases h1
    rw [e2, hf]
    have : idxA c.toNat.toUInt8.toNat 0 s = Lib.indexByte s c.toNat.toUInt8 := by
      rw [idxA_eq]
      split
      · rename_i h; rw [h]
      · simp
    rw [this]
  · cases h

theorem extSame_ok {T : Tab} {P : Program} {f : FuncId} (hf : ∀ (v : Value) (w : World), (callFunc f #[v]).run P w = .ok (.value v) w) : Ext1 T P f extSame := by
  intro args σ r σ' h
  unfold extSame at h
  split at h
  · rename_i v
    cases h
    refine ⟨.refl, fun K W E w vs S hvs => .inr ⟨gd vs 0, w, ?_, endRel_same S (hvs.at_ 0 _ rfl)⟩⟩
    rw [(one_of (n := 0) hvs).1]
    exact hf _ w
  · cases h

theorem extMake_ok {T : Tab} {P : Program} {f : FuncId} {te : TypeId} (hs : T.size te = some 1) (hf : ∀ (n : Nat) (w : World), n ≤ 281474976710656 → ∃ cs : Array Value, (callFunc f #[.int .i64 n]).run P w = .ok (.value (.slice (some ⟨w.heap.size, 0, none⟩) n cs.size)) (w.drew.drew.alloc (.cells cs te)) ∧ n ≤ cs.size) : Ext1 T P f (extMake te) := by
  intro args σ r σ' h
  unfold extMake at h
  split at h
  · rename_i n
    split at h
    · rename_i hn
      cases h
      refine ⟨.new, fun K W E w vs S hvs => .inr ?_⟩
      have e := (one_of (n := 0) hvs).1
      have h0 := (one_of (n := 0) hvs).2
      generalize gd vs 0 = g0 at e h0
      cases h0
      obtain ⟨m, rfl⟩ : ∃ m : Nat, n = m := ⟨n.toNat, by omega⟩
      obtain ⟨cs, hrun, hle⟩ := hf m w (by omega)
      have S2 : Sim T K W E σ w.drew.drew := S.same rfl rfl rfl rfl
      have S3 := new_arr S2 (c := []) (te := te) (cs := cs) (cap := cs.size) (fz := (0, 0)) (by simp) (fun sz h => by rw [hs] at h; cases h; simp) (fun i a h => by simp at h) (fun i h => by simp at h) (m := 0) (fun _ => rfl) (by decide) (by decide)
      refine ⟨_, _, by rw [e]; exact hrun, _, E.le_new _ _ _, S3, ?_⟩
      exact .sown Nat.one_pos (rel_new S.next.symm) (by simpa using hle)
    · cases h
  · cases h

/-- a table of such functions -/
def extOf (l : List (FuncId × (List AV → St → Option (ER × St)))) (f : FuncId) : Option (List AV → St → Option (ER × St)) := match l with
  | [] => none
  | p :: l => bif Nat.beq p.1 f then some p.2 else extOf l f
theorem extOf_ok {T : Tab} {P : Program} : ∀ {l : List (FuncId × (List AV → St → Option (ER × St)))}, (∀ p ∈ l, Ext1 T P p.1 p.2) → ∀ f g, extOf l f = some g → Ext1 T P f g
  | [], _, f, g, h => by cases h
  | p :: l, hl, f, g, h => by
    unfold extOf at h
    rw [nbeq] at h
    by_cases e : p.1 = f
    · rw [decide_eq_true e, cond_true] at h
      cases h
      exact e ▸ hl p (.head _)
    · rw [decide_eq_false e, cond_false] at h
      exact extOf_ok (fun q hq => hl q (.tail _ hq)) f g h
end Go.Proofs.YtgklmecijeadlaaGreatDoor.Ab
