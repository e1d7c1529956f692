import Derived.Test.YtjgnpaifdbanjaaDoorSlice
import Derived.Test.YtjgnpaifdbanjaaDoorLib
import Derived.StillTailTactics
set_option linter.unusedSimpArgs false
set_option linter.unusedVariables false
namespace Go.Proofs.YtjgnpaifdbanjaaDoor
open Go.RowKit
set_option maxRecDepth 100000

/-! strings.Builder: its two cells, and its buffer -/
def BS (bb : Nat) (l : List UInt8) (E : Own) : Prop :=
  ∃ p v E', E = (bb, .cells #[.pointer p, v] 42 (0, 0)) :: E' ∧ (p = none ∨ p = some ⟨bb, 0, none⟩) ∧ OwnSl 5 1 v E' l.length (l.map byteV)

theorem BS.fresh (bb : Nat) : BS bb [] [(bb, .cells #[.pointer none, .slice none 0 0] 42 (0, 0))] :=
  ⟨none, _, [], rfl, .inl rfl, OwnSl.nil _ _⟩

theorem Tr.stL {w0 H0 L0 w H E R} (T : Tr w0 H0 L0 w H (E ++ R)) : St w H E :=
  ⟨T.inn, fun p h => T.own p (List.mem_append_left _ h), fun p h => (T.fresh p (List.mem_append_left _ h)).1, by
    have := T.nodup; rw [List.map_append] at this; exact (List.nodup_append.1 this).1⟩

/-- what a method of a builder does -/
def BPost (w : World) (H : Hp) (E : Own) (bb : Nat) (l : List UInt8) (r : Value) (e : Ending) (w' : World) : Prop :=
  ∃ E', e = .returned r ∧ BS bb l E' ∧ Tr w H E w' H E'

section
variable {P : Program} {a : Act} {w : World} {Q : Exit → Act → World → Prop} {ops : Array Oper} {rest : List Oper} {dst : Option Tmp} {ty : TypeId} {pos : String} {after : Array Edge} {guard : Option (Nat × Bool)}
theorem is_convert {s t : TypeId} {x : Operand} (k : wpList P ops Q (Oper.mk dst (.convert s t x) ty pos after guard :: rest) a w) : wpList P ops Q (Oper.mk dst (.convert s t x) ty pos after guard :: rest) a w := k
theorem op_convert (hw : ∀ op, Region.wanted (Oper.mk dst op ty pos after guard) (yielded ops a.tmps) = true) {s t : TypeId} {x : Operand} {v r : Value} (hx : evalO a x = some v) (hr : (convert s t v).run P w = .ok r w)
    (k : wpList P ops Q rest (a.put dst r) w) : wpList P ops Q (Oper.mk dst (.convert s t x) ty pos after guard :: rest) a w := by
  refine wp_value (hw _) (v := r) (w' := w) ?_ k
  simp only [execOp, eval_of hx]
  exact run_v hr
theorem is_calls1 (f : Nat) {x : Operand} {ats : Array TypeId} (k : wpList P ops Q (Oper.mk dst (.call { callee := .value (.func f), args := #[x], argTypes := ats }) ty pos after guard :: rest) a w) :
    wpList P ops Q (Oper.mk dst (.call { callee := .value (.func f), args := #[x], argTypes := ats }) ty pos after guard :: rest) a w := k
theorem op_extern1 (hw : ∀ op, Region.wanted (Oper.mk dst op ty pos after guard) (yielded ops a.tmps) = true) {f : Nat} {x : Operand} {ats : Array TypeId} {v r : Value} (hx : evalO a x = some v) (hr : (callFunc f #[v]).run P w = .ok (.value r) w)
    (k : wpList P ops Q rest (a.put dst r) w) : wpList P ops Q (Oper.mk dst (.call { callee := .value (.func f), args := #[x], argTypes := ats }) ty pos after guard :: rest) a w := by
  refine wp_value (hw _) (v := r) (w' := w) ?_ k
  have : (#[] ++ #[x].map a.eval ++ #[] : Array Value) = #[v] := by simp [eval_of hx]
  rw [execOp_call_go, this]
  exact hr
end

theorem run_noEscape_call (v : Value) (w : World) : (callFunc 34 #[v]).run Tryd.prog w = .ok (.value v) w := by
  rw [run_callFunc_extern Tryd.func34 (by kernel_rfl) (by kernel_rfl) (by kernel_rfl) (e := Extern.AbiNoEscape.same) (by kernel_rfl), Lib.run_noEscape]
  rfl

theorem copyCheck_calls {bb : Nat} {l : List UInt8} {E : Own} {w0 : World} {H : Hp} (hB : BS bb l E) (S : St w0 H E) :
    Calls Tryd.prog 24 #[.pointer (some ⟨bb, 0, none⟩)] w0 (BPost w0 H E bb l (.tuple #[])) := by
  obtain ⟨p, v, E', rfl, hp, hO⟩ := hB
  have T := Tr.start S
  have HO := hid hO; clear hO S
  obtain ⟨jB, hjB, hjs⟩ : ∃ j, Tryd.prog.info? 42 = some j ∧ j.size ≠ 0 := ⟨_, rfl, by decide⟩
  have hjB := hid hjB; have hjs := hid hjs
  rcases hp with rfl | rfl
  · go_enter Tryd.func24, Tryd.ntmps24
    go_wp2_with (first
    | ((with_reducible refine is_alloc ?_); (refine op_alloc ?_ (zrOf _ rfl) T ?_; focus (first | exact fun _ => rfl | (refine wanted_of rfl ?_; first | rfl | assumption | (rw [Bool.eq_false_iff]; assumption) | (simp only [decide_eq_false_iff_not, decide_eq_true_eq]; omega) | (simp; done) | (simp; omega) | (simp_all; done)))); clear T; intro w b T; (try simp only [puts, Value.cells, List.set_cons_zero, List.set_cons_succ, List.setIfInBounds_toArray, Nat.reduceAdd, Nat.zero_add] at T); (try simp only [Act.put, List.setIfInBounds_toArray, List.set_cons_succ, List.set_cons_zero]))
    | ((with_reducible refine is_box ?_); (refine op_box ?_ rfl T ?_; focus (first | exact fun _ => rfl | (refine wanted_of rfl ?_; first | rfl | assumption | (rw [Bool.eq_false_iff]; assumption) | (simp only [decide_eq_false_iff_not, decide_eq_true_eq]; omega) | (simp; done) | (simp; omega) | (simp_all; done)))); clear T; intro w b T; (try simp only [puts, Value.cells, List.set_cons_zero, List.set_cons_succ, List.setIfInBounds_toArray, Nat.reduceAdd, Nat.zero_add] at T); (try simp only [Act.put, List.setIfInBounds_toArray, List.set_cons_succ, List.set_cons_zero]))
    | ((with_reducible refine is_load ?_); (first
      | (refine op_load1_own ?_ 0 T rfl rfl (agOf _ rfl) rfl ?_; focus (first | exact fun _ => rfl | (refine wanted_of rfl ?_; first | rfl | assumption | (rw [Bool.eq_false_iff]; assumption) | (simp only [decide_eq_false_iff_not, decide_eq_true_eq]; omega) | (simp; done) | (simp; omega) | (simp_all; done))))
      | (refine op_load1_own ?_ 1 T rfl rfl (agOf _ rfl) rfl ?_; focus (first | exact fun _ => rfl | (refine wanted_of rfl ?_; first | rfl | assumption | (rw [Bool.eq_false_iff]; assumption) | (simp only [decide_eq_false_iff_not, decide_eq_true_eq]; omega) | (simp; done) | (simp; omega) | (simp_all; done))))
      | (refine op_load1_own ?_ 2 T rfl rfl (agOf _ rfl) rfl ?_; focus (first | exact fun _ => rfl | (refine wanted_of rfl ?_; first | rfl | assumption | (rw [Bool.eq_false_iff]; assumption) | (simp only [decide_eq_false_iff_not, decide_eq_true_eq]; omega) | (simp; done) | (simp; omega) | (simp_all; done))))
      | (refine op_load1_own ?_ 3 T rfl rfl (agOf _ rfl) rfl ?_; focus (first | exact fun _ => rfl | (refine wanted_of rfl ?_; first | rfl | assumption | (rw [Bool.eq_false_iff]; assumption) | (simp only [decide_eq_false_iff_not, decide_eq_true_eq]; omega) | (simp; done) | (simp; omega) | (simp_all; done))))
      | (refine op_loads_own ?_ 0 T rfl rfl (agOf _ rfl) (szOf _ rfl) ?_; focus (first | exact fun _ => rfl | (refine wanted_of rfl ?_; first | rfl | assumption | (rw [Bool.eq_false_iff]; assumption) | (simp only [decide_eq_false_iff_not, decide_eq_true_eq]; omega) | (simp; done) | (simp; omega) | (simp_all; done))))
      | (refine op_loads_own ?_ 1 T rfl rfl (agOf _ rfl) (szOf _ rfl) ?_; focus (first | exact fun _ => rfl | (refine wanted_of rfl ?_; first | rfl | assumption | (rw [Bool.eq_false_iff]; assumption) | (simp only [decide_eq_false_iff_not, decide_eq_true_eq]; omega) | (simp; done) | (simp; omega) | (simp_all; done))))
      | (refine op_loads_own ?_ 2 T rfl rfl (agOf _ rfl) (szOf _ rfl) ?_; focus (first | exact fun _ => rfl | (refine wanted_of rfl ?_; first | rfl | assumption | (rw [Bool.eq_false_iff]; assumption) | (simp only [decide_eq_false_iff_not, decide_eq_true_eq]; omega) | (simp; done) | (simp; omega) | (simp_all; done))))); (try simp only [Act.put, List.setIfInBounds_toArray, List.set_cons_succ, List.set_cons_zero]))
    | ((with_reducible refine is_store ?_); (first
      | (refine op_store_own ?_ 0 T rfl rfl rfl (szOf _ rfl) (Nat.le_of_ble_eq_true rfl) rfl ?_; focus (first | exact fun _ => rfl | (refine wanted_of rfl ?_; first | rfl | assumption | (rw [Bool.eq_false_iff]; assumption) | (simp only [decide_eq_false_iff_not, decide_eq_true_eq]; omega) | (simp; done) | (simp; omega) | (simp_all; done))))
      | (refine op_store_own ?_ 1 T rfl rfl rfl (szOf _ rfl) (Nat.le_of_ble_eq_true rfl) rfl ?_; focus (first | exact fun _ => rfl | (refine wanted_of rfl ?_; first | rfl | assumption | (rw [Bool.eq_false_iff]; assumption) | (simp only [decide_eq_false_iff_not, decide_eq_true_eq]; omega) | (simp; done) | (simp; omega) | (simp_all; done))))
      | (refine op_store_own ?_ 2 T rfl rfl rfl (szOf _ rfl) (Nat.le_of_ble_eq_true rfl) rfl ?_; focus (first | exact fun _ => rfl | (refine wanted_of rfl ?_; first | rfl | assumption | (rw [Bool.eq_false_iff]; assumption) | (simp only [decide_eq_false_iff_not, decide_eq_true_eq]; omega) | (simp; done) | (simp; omega) | (simp_all; done))))
      | (refine op_store_own ?_ 3 T rfl rfl rfl (szOf _ rfl) (Nat.le_of_ble_eq_true rfl) rfl ?_; focus (first | exact fun _ => rfl | (refine wanted_of rfl ?_; first | rfl | assumption | (rw [Bool.eq_false_iff]; assumption) | (simp only [decide_eq_false_iff_not, decide_eq_true_eq]; omega) | (simp; done) | (simp; omega) | (simp_all; done))))); clear T; intro w T; (try simp only [puts, Value.cells, List.set_cons_zero, List.set_cons_succ, List.setIfInBounds_toArray, Nat.reduceAdd, Nat.zero_add] at T); (try simp only [Act.put, List.setIfInBounds_toArray, List.set_cons_succ, List.set_cons_zero]))
    | ((with_reducible refine is_convert (s := 39) ?_); (refine op_convert ?_ rfl (Lib.run_to_unsafe _ ⟨bb, 0, none⟩ Tryd.underlying39 Tryd.underlying70 hjB.out hjs.out (e := 42) (cells := 2) (by have := T.own _ (List.mem_cons_self ..); simp [World.shape?, this]) (Nat.zero_lt_succ 1)) ?_; focus (first | exact fun _ => rfl | (refine wanted_of rfl ?_; first | rfl | assumption | (rw [Bool.eq_false_iff]; assumption) | (simp only [decide_eq_false_iff_not, decide_eq_true_eq]; omega) | (simp; done) | (simp; omega) | (simp_all; done)))); (try simp only [Act.put, List.setIfInBounds_toArray, List.set_cons_succ, List.set_cons_zero]))
    | ((with_reducible refine is_calls1 34 ?_); (refine op_extern1 ?_ rfl (run_noEscape_call _ _) ?_; focus (first | exact fun _ => rfl | (refine wanted_of rfl ?_; first | rfl | assumption | (rw [Bool.eq_false_iff]; assumption) | (simp only [decide_eq_false_iff_not, decide_eq_true_eq]; omega) | (simp; done) | (simp; omega) | (simp_all; done)))); (try simp only [Act.put, List.setIfInBounds_toArray, List.set_cons_succ, List.set_cons_zero]))
    | ((with_reducible refine is_convert (s := 70) ?_); (refine op_convert ?_ rfl (Lib.run_from_unsafe _ ⟨bb, 0, none⟩ Tryd.underlying70 Tryd.underlying39 hjB.out (e := 42) (cells := 2) (by have := T.own _ (List.mem_cons_self ..); simp [World.shape?, this]) (by kernel_rfl)) ?_; focus (first | exact fun _ => rfl | (refine wanted_of rfl ?_; first | rfl | assumption | (rw [Bool.eq_false_iff]; assumption) | (simp only [decide_eq_false_iff_not, decide_eq_true_eq]; omega) | (simp; done) | (simp; omega) | (simp_all; done)))); (try simp only [Act.put, List.setIfInBounds_toArray, List.set_cons_succ, List.set_cons_zero])))
    go_tidy
    go_end0
    exact ⟨_, rfl, ⟨_, _, _, rfl, .inr rfl, HO.out⟩, T⟩
  · go_enter Tryd.func24, Tryd.ntmps24
    go_wp2_with (first
    | ((with_reducible refine is_alloc ?_); (refine op_alloc ?_ (zrOf _ rfl) T ?_; focus (first | exact fun _ => rfl | (refine wanted_of rfl ?_; first | rfl | assumption | (rw [Bool.eq_false_iff]; assumption) | (simp only [decide_eq_false_iff_not, decide_eq_true_eq]; omega) | (simp; done) | (simp; omega) | (simp_all; done)))); clear T; intro w b T; (try simp only [puts, Value.cells, List.set_cons_zero, List.set_cons_succ, List.setIfInBounds_toArray, Nat.reduceAdd, Nat.zero_add] at T); (try simp only [Act.put, List.setIfInBounds_toArray, List.set_cons_succ, List.set_cons_zero]))
    | ((with_reducible refine is_box ?_); (refine op_box ?_ rfl T ?_; focus (first | exact fun _ => rfl | (refine wanted_of rfl ?_; first | rfl | assumption | (rw [Bool.eq_false_iff]; assumption) | (simp only [decide_eq_false_iff_not, decide_eq_true_eq]; omega) | (simp; done) | (simp; omega) | (simp_all; done)))); clear T; intro w b T; (try simp only [puts, Value.cells, List.set_cons_zero, List.set_cons_succ, List.setIfInBounds_toArray, Nat.reduceAdd, Nat.zero_add] at T); (try simp only [Act.put, List.setIfInBounds_toArray, List.set_cons_succ, List.set_cons_zero]))
    | ((with_reducible refine is_load ?_); (first
      | (refine op_load1_own ?_ 0 T rfl rfl (agOf _ rfl) rfl ?_; focus (first | exact fun _ => rfl | (refine wanted_of rfl ?_; first | rfl | assumption | (rw [Bool.eq_false_iff]; assumption) | (simp only [decide_eq_false_iff_not, decide_eq_true_eq]; omega) | (simp; done) | (simp; omega) | (simp_all; done))))
      | (refine op_load1_own ?_ 1 T rfl rfl (agOf _ rfl) rfl ?_; focus (first | exact fun _ => rfl | (refine wanted_of rfl ?_; first | rfl | assumption | (rw [Bool.eq_false_iff]; assumption) | (simp only [decide_eq_false_iff_not, decide_eq_true_eq]; omega) | (simp; done) | (simp; omega) | (simp_all; done))))
      | (refine op_load1_own ?_ 2 T rfl rfl (agOf _ rfl) rfl ?_; focus (first | exact fun _ => rfl | (refine wanted_of rfl ?_; first | rfl | assumption | (rw [Bool.eq_false_iff]; assumption) | (simp only [decide_eq_false_iff_not, decide_eq_true_eq]; omega) | (simp; done) | (simp; omega) | (simp_all; done))))
      | (refine op_load1_own ?_ 3 T rfl rfl (agOf _ rfl) rfl ?_; focus (first | exact fun _ => rfl | (refine wanted_of rfl ?_; first | rfl | assumption | (rw [Bool.eq_false_iff]; assumption) | (simp only [decide_eq_false_iff_not, decide_eq_true_eq]; omega) | (simp; done) | (simp; omega) | (simp_all; done))))
      | (refine op_loads_own ?_ 0 T rfl rfl (agOf _ rfl) (szOf _ rfl) ?_; focus (first | exact fun _ => rfl | (refine wanted_of rfl ?_; first | rfl | assumption | (rw [Bool.eq_false_iff]; assumption) | (simp only [decide_eq_false_iff_not, decide_eq_true_eq]; omega) | (simp; done) | (simp; omega) | (simp_all; done))))
      | (refine op_loads_own ?_ 1 T rfl rfl (agOf _ rfl) (szOf _ rfl) ?_; focus (first | exact fun _ => rfl | (refine wanted_of rfl ?_; first | rfl | assumption | (rw [Bool.eq_false_iff]; assumption) | (simp only [decide_eq_false_iff_not, decide_eq_true_eq]; omega) | (simp; done) | (simp; omega) | (simp_all; done))))
      | (refine op_loads_own ?_ 2 T rfl rfl (agOf _ rfl) (szOf _ rfl) ?_; focus (first | exact fun _ => rfl | (refine wanted_of rfl ?_; first | rfl | assumption | (rw [Bool.eq_false_iff]; assumption) | (simp only [decide_eq_false_iff_not, decide_eq_true_eq]; omega) | (simp; done) | (simp; omega) | (simp_all; done))))); (try simp only [Act.put, List.setIfInBounds_toArray, List.set_cons_succ, List.set_cons_zero]))
    | ((with_reducible refine is_store ?_); (first
      | (refine op_store_own ?_ 0 T rfl rfl rfl (szOf _ rfl) (Nat.le_of_ble_eq_true rfl) rfl ?_; focus (first | exact fun _ => rfl | (refine wanted_of rfl ?_; first | rfl | assumption | (rw [Bool.eq_false_iff]; assumption) | (simp only [decide_eq_false_iff_not, decide_eq_true_eq]; omega) | (simp; done) | (simp; omega) | (simp_all; done))))
      | (refine op_store_own ?_ 1 T rfl rfl rfl (szOf _ rfl) (Nat.le_of_ble_eq_true rfl) rfl ?_; focus (first | exact fun _ => rfl | (refine wanted_of rfl ?_; first | rfl | assumption | (rw [Bool.eq_false_iff]; assumption) | (simp only [decide_eq_false_iff_not, decide_eq_true_eq]; omega) | (simp; done) | (simp; omega) | (simp_all; done))))
      | (refine op_store_own ?_ 2 T rfl rfl rfl (szOf _ rfl) (Nat.le_of_ble_eq_true rfl) rfl ?_; focus (first | exact fun _ => rfl | (refine wanted_of rfl ?_; first | rfl | assumption | (rw [Bool.eq_false_iff]; assumption) | (simp only [decide_eq_false_iff_not, decide_eq_true_eq]; omega) | (simp; done) | (simp; omega) | (simp_all; done))))
      | (refine op_store_own ?_ 3 T rfl rfl rfl (szOf _ rfl) (Nat.le_of_ble_eq_true rfl) rfl ?_; focus (first | exact fun _ => rfl | (refine wanted_of rfl ?_; first | rfl | assumption | (rw [Bool.eq_false_iff]; assumption) | (simp only [decide_eq_false_iff_not, decide_eq_true_eq]; omega) | (simp; done) | (simp; omega) | (simp_all; done))))); clear T; intro w T; (try simp only [puts, Value.cells, List.set_cons_zero, List.set_cons_succ, List.setIfInBounds_toArray, Nat.reduceAdd, Nat.zero_add] at T); (try simp only [Act.put, List.setIfInBounds_toArray, List.set_cons_succ, List.set_cons_zero])))
    rw [Lib.run_neq_ptr_same _ _ Tryd.underlying39 hjB.out]
    go_wp2
    go_end0
    exact ⟨_, rfl, ⟨_, _, _, rfl, .inr rfl, HO.out⟩, T⟩

theorem OwnSl.shape {te sz v E n cs} (h : OwnSl te sz v E n cs) : ∃ ao cap, v = .slice ao n cap := by
  rcases h with ⟨rfl, _, rfl, _⟩ | ⟨b, _, cap, rfl, _⟩
  · exact ⟨_, _, rfl⟩
  · exact ⟨_, _, rfl⟩
theorem Tr.rot1 {w0 H0 L0 w H p E} (T : Tr w0 H0 L0 w H (p :: E)) : Tr w0 H0 L0 w H (E ++ [p]) := Tr.rot (L := [p]) T
theorem Tr.unrot1 {w0 H0 L0 w H p E} (T : Tr w0 H0 L0 w H (E ++ [p])) : Tr w0 H0 L0 w H (p :: E) := Tr.rot (M := [p]) T
theorem Tr.rot2 {w0 H0 L0 w H q p E} (T : Tr w0 H0 L0 w H (q :: p :: E)) : Tr w0 H0 L0 w H (q :: (E ++ [p])) :=
  T.perm (fun x h => by simp at h ⊢; rcases h with h | h | h <;> simp [h]) (by
    have := T.nodup
    simp only [List.map_cons, List.map_append, List.nodup_cons, List.mem_cons, not_or, List.nodup_append, List.mem_append, List.map_nil, List.not_mem_nil, not_false_eq_true, List.nodup_nil, and_true, true_and] at this ⊢
    refine ⟨⟨this.1.2, this.1.1⟩, this.2.2, fun a ha b hb => ?_⟩
    rcases hb with rfl | hb
    · rintro rfl; exact this.2.1 ha
    · cases hb)

theorem WriteByte_calls {bb : Nat} {l : List UInt8} {E : Own} {w0 : World} {H : Hp} (hB : BS bb l E) (S : St w0 H E) (c : UInt8) (hl : l.length ≤ 9000000) :
    Calls Tryd.prog 14 #[.pointer (some ⟨bb, 0, none⟩), .int .u8 c.toNat] w0 (BPost w0 H E bb (l ++ [c]) .nilIface) := by
  have HB := hid hB; clear hB
  have T := Tr.start S; clear S
  go_enter Tryd.func14, Tryd.ntmps14
  go_wp2_with (first
    | (go_at_call 24; refine (copyCheck_calls HB.out T.st).mono ?_; rintro e w ⟨E', rfl, hB, C⟩; replace T := T.trans C; clear C; obtain ⟨p, v, E2, rfl, hp, hO⟩ := hB; obtain ⟨ao, cap, rfl⟩ := hO.shape; have HO := hid hO; have Hp := hid hp; clear hO hp)
    | ((with_reducible refine is_buildSlice ?_); (refine op_buildSlice1 ?_ rfl (slOf _ rfl) (szOf _ rfl) (zrOf _ rfl) rfl rfl T ?_; focus (first | exact fun _ => rfl | (refine wanted_of rfl ?_; first | rfl | assumption | (rw [Bool.eq_false_iff]; assumption) | (simp only [decide_eq_false_iff_not, decide_eq_true_eq]; omega) | (simp; done) | (simp; omega) | (simp_all; done)))); clear T; intro w b T; (try simp only [puts, Value.cells, List.set_cons_zero, List.set_cons_succ, List.setIfInBounds_toArray, Nat.reduceAdd, Nat.zero_add] at T); (try simp only [Act.put, List.setIfInBounds_toArray, List.set_cons_succ, List.set_cons_zero]); replace T := T.rot2)
    | ((with_reducible refine is_append ?_); (refine op_append1 ?_ HO.out T rfl rfl (by omega) (slOf _ rfl) (slOf _ rfl) (szOf _ rfl) (ifOf _ rfl) rfl rfl rfl rfl ?_; focus (first | exact fun _ => rfl | (refine wanted_of rfl ?_; first | rfl | assumption | (rw [Bool.eq_false_iff]; assumption) | (simp only [decide_eq_false_iff_not, decide_eq_true_eq]; omega) | (simp; done) | (simp; omega) | (simp_all; done)))); clear T HO; intro w v' E' hO T; (try simp only [puts, Value.cells, List.set_cons_zero, List.set_cons_succ, List.setIfInBounds_toArray, Nat.reduceAdd, Nat.zero_add] at T); (try simp only [Act.put, List.setIfInBounds_toArray, List.set_cons_succ, List.set_cons_zero]); replace T := T.unrot1; obtain ⟨ao, cap, rfl⟩ := hO.shape; have HO := hid hO; clear hO)
    | ((with_reducible refine is_alloc ?_); (refine op_alloc ?_ (zrOf _ rfl) T ?_; focus (first | exact fun _ => rfl | (refine wanted_of rfl ?_; first | rfl | assumption | (rw [Bool.eq_false_iff]; assumption) | (simp only [decide_eq_false_iff_not, decide_eq_true_eq]; omega) | (simp; done) | (simp; omega) | (simp_all; done)))); clear T; intro w b T; (try simp only [puts, Value.cells, List.set_cons_zero, List.set_cons_succ, List.setIfInBounds_toArray, Nat.reduceAdd, Nat.zero_add] at T); (try simp only [Act.put, List.setIfInBounds_toArray, List.set_cons_succ, List.set_cons_zero]))
    | ((with_reducible refine is_box ?_); (refine op_box ?_ rfl T ?_; focus (first | exact fun _ => rfl | (refine wanted_of rfl ?_; first | rfl | assumption | (rw [Bool.eq_false_iff]; assumption) | (simp only [decide_eq_false_iff_not, decide_eq_true_eq]; omega) | (simp; done) | (simp; omega) | (simp_all; done)))); clear T; intro w b T; (try simp only [puts, Value.cells, List.set_cons_zero, List.set_cons_succ, List.setIfInBounds_toArray, Nat.reduceAdd, Nat.zero_add] at T); (try simp only [Act.put, List.setIfInBounds_toArray, List.set_cons_succ, List.set_cons_zero]))
    | ((with_reducible refine is_load ?_); (first
      | (refine op_load1_own ?_ 0 T rfl rfl (agOf _ rfl) rfl ?_; focus (first | exact fun _ => rfl | (refine wanted_of rfl ?_; first | rfl | assumption | (rw [Bool.eq_false_iff]; assumption) | (simp only [decide_eq_false_iff_not, decide_eq_true_eq]; omega) | (simp; done) | (simp; omega) | (simp_all; done))))
      | (refine op_load1_own ?_ 1 T rfl rfl (agOf _ rfl) rfl ?_; focus (first | exact fun _ => rfl | (refine wanted_of rfl ?_; first | rfl | assumption | (rw [Bool.eq_false_iff]; assumption) | (simp only [decide_eq_false_iff_not, decide_eq_true_eq]; omega) | (simp; done) | (simp; omega) | (simp_all; done))))
      | (refine op_load1_own ?_ 2 T rfl rfl (agOf _ rfl) rfl ?_; focus (first | exact fun _ => rfl | (refine wanted_of rfl ?_; first | rfl | assumption | (rw [Bool.eq_false_iff]; assumption) | (simp only [decide_eq_false_iff_not, decide_eq_true_eq]; omega) | (simp; done) | (simp; omega) | (simp_all; done))))
      | (refine op_load1_own ?_ 3 T rfl rfl (agOf _ rfl) rfl ?_; focus (first | exact fun _ => rfl | (refine wanted_of rfl ?_; first | rfl | assumption | (rw [Bool.eq_false_iff]; assumption) | (simp only [decide_eq_false_iff_not, decide_eq_true_eq]; omega) | (simp; done) | (simp; omega) | (simp_all; done))))
      | (refine op_loads_own ?_ 0 T rfl rfl (agOf _ rfl) (szOf _ rfl) ?_; focus (first | exact fun _ => rfl | (refine wanted_of rfl ?_; first | rfl | assumption | (rw [Bool.eq_false_iff]; assumption) | (simp only [decide_eq_false_iff_not, decide_eq_true_eq]; omega) | (simp; done) | (simp; omega) | (simp_all; done))))
      | (refine op_loads_own ?_ 1 T rfl rfl (agOf _ rfl) (szOf _ rfl) ?_; focus (first | exact fun _ => rfl | (refine wanted_of rfl ?_; first | rfl | assumption | (rw [Bool.eq_false_iff]; assumption) | (simp only [decide_eq_false_iff_not, decide_eq_true_eq]; omega) | (simp; done) | (simp; omega) | (simp_all; done))))
      | (refine op_loads_own ?_ 2 T rfl rfl (agOf _ rfl) (szOf _ rfl) ?_; focus (first | exact fun _ => rfl | (refine wanted_of rfl ?_; first | rfl | assumption | (rw [Bool.eq_false_iff]; assumption) | (simp only [decide_eq_false_iff_not, decide_eq_true_eq]; omega) | (simp; done) | (simp; omega) | (simp_all; done))))); (try simp only [Act.put, List.setIfInBounds_toArray, List.set_cons_succ, List.set_cons_zero]))
    | ((with_reducible refine is_store ?_); (first
      | (refine op_store_own ?_ 0 T rfl rfl rfl (szOf _ rfl) (Nat.le_of_ble_eq_true rfl) rfl ?_; focus (first | exact fun _ => rfl | (refine wanted_of rfl ?_; first | rfl | assumption | (rw [Bool.eq_false_iff]; assumption) | (simp only [decide_eq_false_iff_not, decide_eq_true_eq]; omega) | (simp; done) | (simp; omega) | (simp_all; done))))
      | (refine op_store_own ?_ 1 T rfl rfl rfl (szOf _ rfl) (Nat.le_of_ble_eq_true rfl) rfl ?_; focus (first | exact fun _ => rfl | (refine wanted_of rfl ?_; first | rfl | assumption | (rw [Bool.eq_false_iff]; assumption) | (simp only [decide_eq_false_iff_not, decide_eq_true_eq]; omega) | (simp; done) | (simp; omega) | (simp_all; done))))
      | (refine op_store_own ?_ 2 T rfl rfl rfl (szOf _ rfl) (Nat.le_of_ble_eq_true rfl) rfl ?_; focus (first | exact fun _ => rfl | (refine wanted_of rfl ?_; first | rfl | assumption | (rw [Bool.eq_false_iff]; assumption) | (simp only [decide_eq_false_iff_not, decide_eq_true_eq]; omega) | (simp; done) | (simp; omega) | (simp_all; done))))
      | (refine op_store_own ?_ 3 T rfl rfl rfl (szOf _ rfl) (Nat.le_of_ble_eq_true rfl) rfl ?_; focus (first | exact fun _ => rfl | (refine wanted_of rfl ?_; first | rfl | assumption | (rw [Bool.eq_false_iff]; assumption) | (simp only [decide_eq_false_iff_not, decide_eq_true_eq]; omega) | (simp; done) | (simp; omega) | (simp_all; done))))); clear T; intro w T; (try simp only [puts, Value.cells, List.set_cons_zero, List.set_cons_succ, List.setIfInBounds_toArray, Nat.reduceAdd, Nat.zero_add] at T); (try simp only [Act.put, List.setIfInBounds_toArray, List.set_cons_succ, List.set_cons_zero])))
  go_tidy
  (try simp only [Exit.inBlock, Exit.then]); refine ret1_of rfl rfl rfl ?_
  exact ⟨_, rfl, ⟨_, _, _, rfl, Hp.out, by simpa [byteV] using HO.out⟩, T⟩

theorem WriteByte_n {bb : Nat} {l : List UInt8} {E : Own} {w0 : World} {H : Hp} (hB : BS bb l E) (S : St w0 H E) (c : UInt8) {n : Int} (hn : n = c.toNat) (hl : l.length ≤ 9000000) :
    Calls Tryd.prog 14 #[.pointer (some ⟨bb, 0, none⟩), .int .u8 n] w0 (BPost w0 H E bb (l ++ [c]) .nilIface) := hn ▸ WriteByte_calls hB S c hl

theorem WriteString_calls {bb : Nat} {l : List UInt8} {E : Own} {w0 : World} {H : Hp} (hB : BS bb l E) (S : St w0 H E) (s : List UInt8) (hl : l.length + s.length ≤ 9000000) :
    Calls Tryd.prog 15 #[.pointer (some ⟨bb, 0, none⟩), str s] w0 (BPost w0 H E bb (l ++ s) (.tuple #[.int .i64 s.length, .nilIface])) := by
  have HB := hid hB; clear hB
  have T := Tr.start S; clear S
  go_enter Tryd.func15, Tryd.ntmps15
  go_wp2_with (first
    | (go_at_call 24; refine (copyCheck_calls HB.out T.st).mono ?_; rintro e w ⟨E', rfl, hB, C⟩; replace T := T.trans C; clear C; obtain ⟨p, v, E2, rfl, hp, hO⟩ := hB; obtain ⟨ao, cap, rfl⟩ := hO.shape; have HO := hid hO; have Hp := hid hp; clear hO hp)
    | ((with_reducible refine is_append ?_); (refine op_append_src ?_ HO.out T.rot1 (Src.string s) rfl rfl (by omega) (slOf _ rfl) Tryd.underlying9 (fun k h => by cases h) (szOf _ rfl) (ifOf _ rfl) rfl rfl ?_; focus (first | exact fun _ => rfl | (refine wanted_of rfl ?_; first | rfl | assumption | (rw [Bool.eq_false_iff]; assumption) | (simp only [decide_eq_false_iff_not, decide_eq_true_eq]; omega) | (simp; done) | (simp; omega) | (simp_all; done)))); clear T HO; intro w v' E' hO T; (try simp only [puts, Value.cells, List.set_cons_zero, List.set_cons_succ, List.setIfInBounds_toArray, Nat.reduceAdd, Nat.zero_add] at T); (try simp only [Act.put, List.setIfInBounds_toArray, List.set_cons_succ, List.set_cons_zero]); replace T := T.unrot1; obtain ⟨ao, cap, rfl⟩ := hO.shape; have HO := hid hO; clear hO)
    | ((with_reducible refine is_alloc ?_); (refine op_alloc ?_ (zrOf _ rfl) T ?_; focus (first | exact fun _ => rfl | (refine wanted_of rfl ?_; first | rfl | assumption | (rw [Bool.eq_false_iff]; assumption) | (simp only [decide_eq_false_iff_not, decide_eq_true_eq]; omega) | (simp; done) | (simp; omega) | (simp_all; done)))); clear T; intro w b T; (try simp only [puts, Value.cells, List.set_cons_zero, List.set_cons_succ, List.setIfInBounds_toArray, Nat.reduceAdd, Nat.zero_add] at T); (try simp only [Act.put, List.setIfInBounds_toArray, List.set_cons_succ, List.set_cons_zero]))
    | ((with_reducible refine is_box ?_); (refine op_box ?_ rfl T ?_; focus (first | exact fun _ => rfl | (refine wanted_of rfl ?_; first | rfl | assumption | (rw [Bool.eq_false_iff]; assumption) | (simp only [decide_eq_false_iff_not, decide_eq_true_eq]; omega) | (simp; done) | (simp; omega) | (simp_all; done)))); clear T; intro w b T; (try simp only [puts, Value.cells, List.set_cons_zero, List.set_cons_succ, List.setIfInBounds_toArray, Nat.reduceAdd, Nat.zero_add] at T); (try simp only [Act.put, List.setIfInBounds_toArray, List.set_cons_succ, List.set_cons_zero]))
    | ((with_reducible refine is_load ?_); (first
      | (refine op_load1_own ?_ 0 T rfl rfl (agOf _ rfl) rfl ?_; focus (first | exact fun _ => rfl | (refine wanted_of rfl ?_; first | rfl | assumption | (rw [Bool.eq_false_iff]; assumption) | (simp only [decide_eq_false_iff_not, decide_eq_true_eq]; omega) | (simp; done) | (simp; omega) | (simp_all; done))))
      | (refine op_load1_own ?_ 1 T rfl rfl (agOf _ rfl) rfl ?_; focus (first | exact fun _ => rfl | (refine wanted_of rfl ?_; first | rfl | assumption | (rw [Bool.eq_false_iff]; assumption) | (simp only [decide_eq_false_iff_not, decide_eq_true_eq]; omega) | (simp; done) | (simp; omega) | (simp_all; done))))
      | (refine op_load1_own ?_ 2 T rfl rfl (agOf _ rfl) rfl ?_; focus (first | exact fun _ => rfl | (refine wanted_of rfl ?_; first | rfl | assumption | (rw [Bool.eq_false_iff]; assumption) | (simp only [decide_eq_false_iff_not, decide_eq_true_eq]; omega) | (simp; done) | (simp; omega) | (simp_all; done))))
      | (refine op_load1_own ?_ 3 T rfl rfl (agOf _ rfl) rfl ?_; focus (first | exact fun _ => rfl | (refine wanted_of rfl ?_; first | rfl | assumption | (rw [Bool.eq_false_iff]; assumption) | (simp only [decide_eq_false_iff_not, decide_eq_true_eq]; omega) | (simp; done) | (simp; omega) | (simp_all; done))))
      | (refine op_loads_own ?_ 0 T rfl rfl (agOf _ rfl) (szOf _ rfl) ?_; focus (first | exact fun _ => rfl | (refine wanted_of rfl ?_; first | rfl | assumption | (rw [Bool.eq_false_iff]; assumption) | (simp only [decide_eq_false_iff_not, decide_eq_true_eq]; omega) | (simp; done) | (simp; omega) | (simp_all; done))))
      | (refine op_loads_own ?_ 1 T rfl rfl (agOf _ rfl) (szOf _ rfl) ?_; focus (first | exact fun _ => rfl | (refine wanted_of rfl ?_; first | rfl | assumption | (rw [Bool.eq_false_iff]; assumption) | (simp only [decide_eq_false_iff_not, decide_eq_true_eq]; omega) | (simp; done) | (simp; omega) | (simp_all; done))))
      | (refine op_loads_own ?_ 2 T rfl rfl (agOf _ rfl) (szOf _ rfl) ?_; focus (first | exact fun _ => rfl | (refine wanted_of rfl ?_; first | rfl | assumption | (rw [Bool.eq_false_iff]; assumption) | (simp only [decide_eq_false_iff_not, decide_eq_true_eq]; omega) | (simp; done) | (simp; omega) | (simp_all; done))))); (try simp only [Act.put, List.setIfInBounds_toArray, List.set_cons_succ, List.set_cons_zero]))
    | ((with_reducible refine is_store ?_); (first
      | (refine op_store_own ?_ 0 T rfl rfl rfl (szOf _ rfl) (Nat.le_of_ble_eq_true rfl) rfl ?_; focus (first | exact fun _ => rfl | (refine wanted_of rfl ?_; first | rfl | assumption | (rw [Bool.eq_false_iff]; assumption) | (simp only [decide_eq_false_iff_not, decide_eq_true_eq]; omega) | (simp; done) | (simp; omega) | (simp_all; done))))
      | (refine op_store_own ?_ 1 T rfl rfl rfl (szOf _ rfl) (Nat.le_of_ble_eq_true rfl) rfl ?_; focus (first | exact fun _ => rfl | (refine wanted_of rfl ?_; first | rfl | assumption | (rw [Bool.eq_false_iff]; assumption) | (simp only [decide_eq_false_iff_not, decide_eq_true_eq]; omega) | (simp; done) | (simp; omega) | (simp_all; done))))
      | (refine op_store_own ?_ 2 T rfl rfl rfl (szOf _ rfl) (Nat.le_of_ble_eq_true rfl) rfl ?_; focus (first | exact fun _ => rfl | (refine wanted_of rfl ?_; first | rfl | assumption | (rw [Bool.eq_false_iff]; assumption) | (simp only [decide_eq_false_iff_not, decide_eq_true_eq]; omega) | (simp; done) | (simp; omega) | (simp_all; done))))
      | (refine op_store_own ?_ 3 T rfl rfl rfl (szOf _ rfl) (Nat.le_of_ble_eq_true rfl) rfl ?_; focus (first | exact fun _ => rfl | (refine wanted_of rfl ?_; first | rfl | assumption | (rw [Bool.eq_false_iff]; assumption) | (simp only [decide_eq_false_iff_not, decide_eq_true_eq]; omega) | (simp; done) | (simp; omega) | (simp_all; done))))); clear T; intro w T; (try simp only [puts, Value.cells, List.set_cons_zero, List.set_cons_succ, List.setIfInBounds_toArray, Nat.reduceAdd, Nat.zero_add] at T); (try simp only [Act.put, List.setIfInBounds_toArray, List.set_cons_succ, List.set_cons_zero])))
  go_tidy
  (try simp only [Exit.inBlock, Exit.then]); refine ret2_of rfl rfl rfl rfl ?_
  exact ⟨_, rfl, ⟨_, _, _, rfl, Hp.out, by simpa using HO.out⟩, T⟩

theorem Len_calls {bb : Nat} {l : List UInt8} {E : Own} {w0 : World} {H : Hp} (hB : BS bb l E) (S : St w0 H E) :
    Calls Tryd.prog 16 #[.pointer (some ⟨bb, 0, none⟩)] w0 (fun e w' => e = .returned (.int .i64 l.length) ∧ Below w0.heap.size w0 w') := by
  obtain ⟨p, v, E2, rfl, hp, hO⟩ := hB
  obtain ⟨ao, cap, rfl⟩ := hO.shape
  have T := Tr.start (St.nil (w := w0) S.inn)
  have c1 : w0.cell? ⟨bb, 1, none⟩ = some (.slice ao l.length cap) := by rw [cell_of_heap (S.own _ (List.mem_cons_self ..))]; rfl
  clear hO hp S
  go_enter Tryd.func16, Tryd.ntmps16
  go_wp2
  (try simp only [Exit.inBlock, Exit.then]); refine ret1_of rfl rfl rfl ?_
  exact ⟨rfl, T.below⟩

def SPost (w : World) (H : Hp) (E : Own) (r : Value) (e : Ending) (w' : World) : Prop := e = .returned r ∧ Tr w H E w' H []

theorem Tr.modify {w0 H0 L0 w H b o L} (T : Tr w0 H0 L0 w H ((b, o) :: L)) (f : Obj → Obj) : Tr w0 H0 L0 { w with heap := w.heap.modify b f } H L := by
  have h1 : w.heap[b]? = some o := T.own _ (List.mem_cons_self ..)
  have hlt : b < w.heap.size := T.lt (List.mem_cons_self ..)
  have hm : w.heap.modify b f = w.heap.setIfInBounds b (f o) := by
    apply Array.ext_getElem?
    intro i
    rw [Array.getElem?_modify, Array.getElem?_setIfInBounds]
    split
    · subst_vars
      rw [h1]; rfl
    · rfl
  rw [hm]
  exact (T.setObj 0 (b := b) (o := o) (o' := f o) rfl).drop

theorem Tr.freeze {w0 H0 L0 w H b o L} (T : Tr w0 H0 L0 w H ((b, o) :: L)) (n : Nat) : Tr w0 H0 L0 (w.freeze ⟨b, 0, none⟩ n) H L := by
  unfold World.freeze
  split
  · exact T.drop
  · exact T.modify _

theorem String_calls {bb : Nat} {l : List UInt8} {E : Own} {w0 : World} {H : Hp} (hB : BS bb l E) (S : St w0 H E) (hl : l.length ≤ 10000000) :
    Calls Tryd.prog 17 #[.pointer (some ⟨bb, 0, none⟩)] w0 (SPost w0 H E (str l)) := by
  obtain ⟨p, v, E2, rfl, hp, hO⟩ := hB
  have T := Tr.start S
  obtain ⟨ao, cap, hv⟩ := hO.shape
  have c1 : w0.drew.cell? ⟨bb, 1, none⟩ = some (.slice ao l.length cap) := by
    have hh : w0.drew.heap[bb]? = some (.cells #[.pointer p, v] 42 (0, 0)) := S.own _ (List.mem_cons_self ..)
    rw [cell_of_heap hh, hv]; rfl
  obtain ⟨q, w2, hSD, hUS, T2⟩ : ∃ q w2, (Builtin.unsafeSliceData_ #[40] 58 #[.slice ao l.length cap]).run Tryd.prog w0.drew = .ok (.pointer q) w0.drew ∧
      (Builtin.unsafeString_ #[58, 3] 9 #[.pointer q, .int .i64 l.length]).run Tryd.prog w0.drew = .ok (.string ⟨l.toArray⟩) w2 ∧ Tr w0 H ((bb, .cells #[.pointer p, v] 42 (0, 0)) :: E2) w2 H [] := by
    rcases hO with ⟨hv', hE, hn, _⟩ | ⟨b, c, cp, hv', hE, hcs, hle, hcp, _, htake, _⟩
    · rw [hv'] at hv
      have hl0 : l = [] := List.length_eq_zero_iff.1 hn
      subst hl0
      cases hv
      exact ⟨none, _, Lib.run_unsafeSliceData_nil _ _ _ _ _, Lib.run_unsafeString_none _ _ _ _ _, T.drew.drops⟩
    · rw [hv'] at hv
      cases hv
      refine ⟨some ⟨b, 0, none⟩, ?_⟩
      have hb : w0.drew.heap[b]? = some (.cells c 5 (0, 0)) := S.own (b, .cells c 5 (0, 0)) (by rw [hE]; simp)
      by_cases h0 : l = []
      · subst h0
        exact ⟨_, Lib.run_unsafeSliceData_row _ _ _ _ _ _ (by omega), Lib.run_unsafeString_none _ _ _ _ _, T.drew.drops⟩
      · refine ⟨_, Lib.run_unsafeSliceData_row _ _ _ _ _ _ (by omega), Lib.run_unsafeString_row w0.drew 58 3 9 5 Tryd.underlying58 (by kernel_rfl) b c.size (by simp [World.shape?, hb]) l h0 (by omega) (by omega) ?_, ?_⟩
        · intro j x hx
          have hj : j < l.length := by
            rcases Nat.lt_or_ge j l.length with h | h
            · exact h
            · rw [List.getElem?_eq_none h] at hx; cases hx
          rw [Addr.add_mk, cell_of_heap hb, Nat.zero_add]
          have : c.toList[j]? = (l.map byteV)[j]? := by rw [← htake, List.getElem?_take, if_pos (by omega)]
          rw [← Array.getElem?_toList, this, List.getElem?_map, hx]; rfl
        · rw [hE] at T
          rw [hE]
          exact (Tr.freeze (T.drew.swap) _).drops
  clear hO hp S T
  go_enter Tryd.func17, Tryd.ntmps17
  go_wp2
  go_region
  all_goals (go_wp2; (try simp only [Exit.inBlock, Exit.then]); refine ret1_of rfl rfl rfl ?_; exact ⟨rfl, T2⟩)
end Go.Proofs.YtjgnpaifdbanjaaDoor
