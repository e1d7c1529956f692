import Derived.Test.YtjgnpaifdbanjaaDoorNum
import Derived.Test.YtjgnpaifdbanjaaDoorBuilder
set_option linter.unusedSimpArgs false
set_option linter.unusedVariables false
namespace Go.Proofs.YtjgnpaifdbanjaaDoor
open Go.RowKit
set_option maxRecDepth 100000

/-! package lex: what a byte begins, runs, long, form -/
abbrev blanksL : List UInt8 := [32, 9, 10, 13]
abbrev lettersL : List UInt8 := [97, 98, 99, 100, 101, 102, 103, 104, 105, 106, 107, 108, 109, 110, 111, 112, 113, 114, 115, 116, 117, 118, 119, 120, 121, 122, 65, 66, 67, 68, 69, 70, 71, 72, 73, 74, 75, 76, 77, 78, 79, 80, 81, 82, 83, 84, 85, 86, 87, 88, 89, 90, 95]
abbrev beginL : List UInt8 := [48, 49, 50, 51, 52, 53, 54, 55, 56, 57, 45]
abbrev marksL : List UInt8 := [46, 59, 44, 58, 61, 40, 41, 91, 93, 123, 125]
abbrev nameL : List UInt8 := [97, 98, 99, 100, 101, 102, 103, 104, 105, 106, 107, 108, 109, 110, 111, 112, 113, 114, 115, 116, 117, 118, 119, 120, 121, 122, 65, 66, 67, 68, 69, 70, 71, 72, 73, 74, 75, 76, 77, 78, 79, 80, 81, 82, 83, 84, 85, 86, 87, 88, 89, 90, 95, 48, 49, 50, 51, 52, 53, 54, 55, 56, 57]
abbrev figuresL : List UInt8 := [48, 49, 50, 51, 52, 53, 54, 55, 56, 57, 46, 101, 69, 43, 45]
abbrev hexL : List UInt8 := [48, 49, 50, 51, 52, 53, 54, 55, 56, 57, 97, 98, 99, 100, 101, 102, 65, 66, 67, 68, 69, 70]

def ofS (c : UInt8) : Int :=
  if 0 ≤ Lib.indexByte blanksL c then 5
  else if (c.toNat : Int) = 35 then 6
  else if 0 ≤ Lib.indexByte lettersL c then 1
  else if 0 ≤ Lib.indexByte beginL c then 2
  else if (c.toNat : Int) = 34 then 3
  else if 0 ≤ Lib.indexByte marksL c then 4 else 0

set_option maxHeartbeats 4000000 in
theorem of_calls (c : UInt8) (w0 : World) :
    Calls Tryd.prog 18 #[.int .u8 c.toNat] w0 fun e w' => e = .returned (.int .i64 (ofS c)) ∧ Below w0.heap.size w0 w' := by
  have T := Tr.start (St.nil (w := w0) (H := fun _ => none) (fun _ _ _ h => by cases h))
  have hp : ofS c = ofS c := rfl
  conv at hp => rhs; simp only [ofS]
  generalize h1 : Lib.indexByte blanksL c = i1 at *
  generalize h2 : Lib.indexByte lettersL c = i2 at *
  generalize h3 : Lib.indexByte beginL c = i3 at *
  generalize h4 : Lib.indexByte marksL c = i4 at *
  have H1 := hid h1; have H2 := hid h2; have H3 := hid h3; have H4 := hid h4; have Hp := hid hp; clear h1 h2 h3 h4 hp
  generalize hA : ((c.toNat : Int) == 35) = bA at *
  generalize hB : ((c.toNat : Int) == 34) = bB at *
  have KA := hid hA; have KB := hid hB
  cases bA <;> cases bB
  all_goals
    go_enter Tryd.func18, Tryd.ntmps18
    go_wp2_with (first
      | (go_at_call 19; refine (IndexByte_l _ c _ rfl _).mono ?_; rintro e w ⟨rfl, hb⟩; replace T := T.of_below hb; clear hb; first
        | (rw [H1.out]; rcases Int.lt_or_le i1 0 with hh | hh <;> have K1 := hid hh)
        | (rw [H2.out]; rcases Int.lt_or_le i2 0 with hh | hh <;> have K2 := hid hh)
        | (rw [H3.out]; rcases Int.lt_or_le i3 0 with hh | hh <;> have K3 := hid hh)
        | (rw [H4.out]; rcases Int.lt_or_le i4 0 with hh | hh <;> have K4 := hid hh)))
    all_goals
      (try simp only [Exit.inBlock, Exit.then]); refine ret1_of rfl rfl rfl ?_
      refine ⟨?_, T.below⟩
      rw [Hp.out]
      congr 2
      have K1 := K1.out
      (try replace K2 := K2.out)
      (try replace K3 := K3.out)
      (try replace K4 := K4.out)
      have KA := KA.out; have KB := KB.out
      (repeat' split) <;> first | rfl | (exfalso; omega) | (exfalso; simp_all; done)

theorem cutL_len (s set : List UInt8) : (s.length : Int) - ((cutL s set).length : Int) = (s.takeWhile (set.contains ·)).length := by
  have h : s.takeWhile (set.contains ·) ++ s.dropWhile (set.contains ·) = s := List.takeWhile_append_dropWhile
  have := congrArg List.length h
  simp only [List.length_append] at this
  unfold cutL; omega

theorem run_calls (s set : List UInt8) (hs : s.length ≤ 1000000) (ht : set.length ≤ 1000000) (ha : ascii set) (w0 : World) :
    Calls Tryd.prog 20 #[str s, str set] w0 fun e w' => e = .returned (.int .i64 (s.takeWhile (set.contains ·)).length) ∧ Below w0.heap.size w0 w' := by
  have T := Tr.start (St.nil (w := w0) (H := fun _ => none) (fun _ _ _ h => by cases h))
  have hle : (cutL s set).length ≤ s.length := (List.dropWhile_sublist _).length_le
  have Ha := hid ha; clear ha
  go_enter Tryd.func20, Tryd.ntmps20
  go_wp2_with (first
    | (go_at_call 26; refine (cutLeft_calls _ _ hs ht Ha.out _).mono ?_; rintro e w ⟨rfl, hb⟩; replace T := T.of_below hb; clear hb))
  (try simp only [Exit.inBlock, Exit.then]); refine ret1_of rfl rfl rfl ?_
  exact ⟨by rw [← cutL_len], T.below⟩

/-! tokens -/
structure Tk where
  word : Int
  text : List UInt8
  at_ : Int
def Tk.val (t : Tk) : Value := .agg #[.int .i64 t.word, str t.text, .int .i64 t.at_]

def longS (w : Int) (n : Int) : Bool :=
  if (w == 1) = true then decide (64 < n) else if (w == 3) = true then decide (512 < n) else decide (4096 < n)

theorem long_calls (t : Tk) (w0 : World) :
    Calls Tryd.prog 13 #[t.val] w0 fun e w' => e = .returned (.bool (longS t.word t.text.length)) ∧ Below w0.heap.size w0 w' := by
  have T := Tr.start (St.nil (w := w0) (H := fun _ => none) (fun _ _ _ h => by cases h))
  obtain ⟨wd, tx, at_⟩ := t
  go_enter Tryd.func13, Tryd.ntmps13
  go_wp2_with (first
    | ((with_reducible refine is_alloc ?_); (refine op_alloc ?_ (zrOf _ rfl) T ?_; focus (first | exact fun _ => rfl | (refine wanted_of rfl ?_; first | rfl | assumption | (rw [Bool.eq_false_iff]; assumption) | (simp only [decide_eq_false_iff_not, decide_eq_true_eq]; omega) | (simp; done) | (simp; omega) | (simp_all; done)))); clear T; intro w b T; (try simp only [puts, Value.cells, List.set_cons_zero, List.set_cons_succ, List.setIfInBounds_toArray, Nat.reduceAdd, Nat.zero_add] at T); (try simp only [Act.put, List.setIfInBounds_toArray, List.set_cons_succ, List.set_cons_zero]))
    | ((with_reducible refine is_box ?_); (refine op_box ?_ rfl T ?_; focus (first | exact fun _ => rfl | (refine wanted_of rfl ?_; first | rfl | assumption | (rw [Bool.eq_false_iff]; assumption) | (simp only [decide_eq_false_iff_not, decide_eq_true_eq]; omega) | (simp; done) | (simp; omega) | (simp_all; done)))); clear T; intro w b T; (try simp only [puts, Value.cells, List.set_cons_zero, List.set_cons_succ, List.setIfInBounds_toArray, Nat.reduceAdd, Nat.zero_add] at T); (try simp only [Act.put, List.setIfInBounds_toArray, List.set_cons_succ, List.set_cons_zero]))
    | ((with_reducible refine is_load ?_); (first
      | (refine op_load1_own ?_ 0 T rfl rfl (agOf _ rfl) rfl ?_; focus (first | exact fun _ => rfl | (refine wanted_of rfl ?_; first | rfl | assumption | (rw [Bool.eq_false_iff]; assumption) | (simp only [decide_eq_false_iff_not, decide_eq_true_eq]; omega) | (simp; done) | (simp; omega) | (simp_all; done))))
      | (refine op_load1_own ?_ 1 T rfl rfl (agOf _ rfl) rfl ?_; focus (first | exact fun _ => rfl | (refine wanted_of rfl ?_; first | rfl | assumption | (rw [Bool.eq_false_iff]; assumption) | (simp only [decide_eq_false_iff_not, decide_eq_true_eq]; omega) | (simp; done) | (simp; omega) | (simp_all; done))))
      | (refine op_load1_own ?_ 2 T rfl rfl (agOf _ rfl) rfl ?_; focus (first | exact fun _ => rfl | (refine wanted_of rfl ?_; first | rfl | assumption | (rw [Bool.eq_false_iff]; assumption) | (simp only [decide_eq_false_iff_not, decide_eq_true_eq]; omega) | (simp; done) | (simp; omega) | (simp_all; done))))
      | (refine op_load1_own ?_ 3 T rfl rfl (agOf _ rfl) rfl ?_; focus (first | exact fun _ => rfl | (refine wanted_of rfl ?_; first | rfl | assumption | (rw [Bool.eq_false_iff]; assumption) | (simp only [decide_eq_false_iff_not, decide_eq_true_eq]; omega) | (simp; done) | (simp; omega) | (simp_all; done))))
      | (refine op_loads_own ?_ 0 T rfl rfl (agOf _ rfl) (szOf _ rfl) ?_; focus (first | exact fun _ => rfl | (refine wanted_of rfl ?_; first | rfl | assumption | (rw [Bool.eq_false_iff]; assumption) | (simp only [decide_eq_false_iff_not, decide_eq_true_eq]; omega) | (simp; done) | (simp; omega) | (simp_all; done))))
      | (refine op_loads_own ?_ 1 T rfl rfl (agOf _ rfl) (szOf _ rfl) ?_; focus (first | exact fun _ => rfl | (refine wanted_of rfl ?_; first | rfl | assumption | (rw [Bool.eq_false_iff]; assumption) | (simp only [decide_eq_false_iff_not, decide_eq_true_eq]; omega) | (simp; done) | (simp; omega) | (simp_all; done))))
      | (refine op_loads_own ?_ 2 T rfl rfl (agOf _ rfl) (szOf _ rfl) ?_; focus (first | exact fun _ => rfl | (refine wanted_of rfl ?_; first | rfl | assumption | (rw [Bool.eq_false_iff]; assumption) | (simp only [decide_eq_false_iff_not, decide_eq_true_eq]; omega) | (simp; done) | (simp; omega) | (simp_all; done))))); (try simp only [Act.put, List.setIfInBounds_toArray, List.set_cons_succ, List.set_cons_zero]))
    | ((with_reducible refine is_store ?_); (first
      | (refine op_store_own ?_ 0 T rfl rfl rfl (szOf _ rfl) (Nat.le_of_ble_eq_true rfl) rfl ?_; focus (first | exact fun _ => rfl | (refine wanted_of rfl ?_; first | rfl | assumption | (rw [Bool.eq_false_iff]; assumption) | (simp only [decide_eq_false_iff_not, decide_eq_true_eq]; omega) | (simp; done) | (simp; omega) | (simp_all; done))))
      | (refine op_store_own ?_ 1 T rfl rfl rfl (szOf _ rfl) (Nat.le_of_ble_eq_true rfl) rfl ?_; focus (first | exact fun _ => rfl | (refine wanted_of rfl ?_; first | rfl | assumption | (rw [Bool.eq_false_iff]; assumption) | (simp only [decide_eq_false_iff_not, decide_eq_true_eq]; omega) | (simp; done) | (simp; omega) | (simp_all; done))))
      | (refine op_store_own ?_ 2 T rfl rfl rfl (szOf _ rfl) (Nat.le_of_ble_eq_true rfl) rfl ?_; focus (first | exact fun _ => rfl | (refine wanted_of rfl ?_; first | rfl | assumption | (rw [Bool.eq_false_iff]; assumption) | (simp only [decide_eq_false_iff_not, decide_eq_true_eq]; omega) | (simp; done) | (simp; omega) | (simp_all; done))))
      | (refine op_store_own ?_ 3 T rfl rfl rfl (szOf _ rfl) (Nat.le_of_ble_eq_true rfl) rfl ?_; focus (first | exact fun _ => rfl | (refine wanted_of rfl ?_; first | rfl | assumption | (rw [Bool.eq_false_iff]; assumption) | (simp only [decide_eq_false_iff_not, decide_eq_true_eq]; omega) | (simp; done) | (simp; omega) | (simp_all; done))))); clear T; intro w T; (try simp only [puts, Value.cells, List.set_cons_zero, List.set_cons_succ, List.setIfInBounds_toArray, Nat.reduceAdd, Nat.zero_add] at T); (try simp only [Act.put, List.setIfInBounds_toArray, List.set_cons_succ, List.set_cons_zero])))
  all_goals
    (try simp only [Exit.inBlock, Exit.then]); refine ret1_of rfl rfl rfl ?_
    refine ⟨?_, T.below⟩
    simp only [longS, *, if_true, if_false, Bool.false_eq_true]

def formS (s : List UInt8) : Bool := (parseS s).2 != 10

theorem form_calls (s : List UInt8) (hs : s.length ≤ 1000000) (w0 : World) :
    Calls Tryd.prog 21 #[str s] w0 fun e w' => e = .returned (.bool (formS s)) ∧ Below w0.heap.size w0 w' := by
  have T := Tr.start (St.nil (w := w0) (H := fun _ => none) (fun _ _ _ h => by cases h))
  generalize hp : parseS s = p at *
  obtain ⟨⟨pn, pd, pe⟩, p2⟩ := p
  have Hp := hid hp; clear hp
  go_enter Tryd.func21, Tryd.ntmps21
  go_wp2_with (first
    | (go_at_call 27; refine (Parse_calls s hs _).mono ?_; rintro e w ⟨rfl, hb⟩; replace T := T.of_below hb; clear hb; rw [Hp.out]; simp only [numRes])
    | ((with_reducible refine is_alloc ?_); (refine op_alloc ?_ (zrOf _ rfl) T ?_; focus (first | exact fun _ => rfl | (refine wanted_of rfl ?_; first | rfl | assumption | (rw [Bool.eq_false_iff]; assumption) | (simp only [decide_eq_false_iff_not, decide_eq_true_eq]; omega) | (simp; done) | (simp; omega) | (simp_all; done)))); clear T; intro w b T; (try simp only [puts, Value.cells, List.set_cons_zero, List.set_cons_succ, List.setIfInBounds_toArray, Nat.reduceAdd, Nat.zero_add] at T); (try simp only [Act.put, List.setIfInBounds_toArray, List.set_cons_succ, List.set_cons_zero]))
    | ((with_reducible refine is_box ?_); (refine op_box ?_ rfl T ?_; focus (first | exact fun _ => rfl | (refine wanted_of rfl ?_; first | rfl | assumption | (rw [Bool.eq_false_iff]; assumption) | (simp only [decide_eq_false_iff_not, decide_eq_true_eq]; omega) | (simp; done) | (simp; omega) | (simp_all; done)))); clear T; intro w b T; (try simp only [puts, Value.cells, List.set_cons_zero, List.set_cons_succ, List.setIfInBounds_toArray, Nat.reduceAdd, Nat.zero_add] at T); (try simp only [Act.put, List.setIfInBounds_toArray, List.set_cons_succ, List.set_cons_zero]))
    | ((with_reducible refine is_load ?_); (first
      | (refine op_load1_own ?_ 0 T rfl rfl (agOf _ rfl) rfl ?_; focus (first | exact fun _ => rfl | (refine wanted_of rfl ?_; first | rfl | assumption | (rw [Bool.eq_false_iff]; assumption) | (simp only [decide_eq_false_iff_not, decide_eq_true_eq]; omega) | (simp; done) | (simp; omega) | (simp_all; done))))
      | (refine op_load1_own ?_ 1 T rfl rfl (agOf _ rfl) rfl ?_; focus (first | exact fun _ => rfl | (refine wanted_of rfl ?_; first | rfl | assumption | (rw [Bool.eq_false_iff]; assumption) | (simp only [decide_eq_false_iff_not, decide_eq_true_eq]; omega) | (simp; done) | (simp; omega) | (simp_all; done))))
      | (refine op_load1_own ?_ 2 T rfl rfl (agOf _ rfl) rfl ?_; focus (first | exact fun _ => rfl | (refine wanted_of rfl ?_; first | rfl | assumption | (rw [Bool.eq_false_iff]; assumption) | (simp only [decide_eq_false_iff_not, decide_eq_true_eq]; omega) | (simp; done) | (simp; omega) | (simp_all; done))))
      | (refine op_load1_own ?_ 3 T rfl rfl (agOf _ rfl) rfl ?_; focus (first | exact fun _ => rfl | (refine wanted_of rfl ?_; first | rfl | assumption | (rw [Bool.eq_false_iff]; assumption) | (simp only [decide_eq_false_iff_not, decide_eq_true_eq]; omega) | (simp; done) | (simp; omega) | (simp_all; done))))
      | (refine op_loads_own ?_ 0 T rfl rfl (agOf _ rfl) (szOf _ rfl) ?_; focus (first | exact fun _ => rfl | (refine wanted_of rfl ?_; first | rfl | assumption | (rw [Bool.eq_false_iff]; assumption) | (simp only [decide_eq_false_iff_not, decide_eq_true_eq]; omega) | (simp; done) | (simp; omega) | (simp_all; done))))
      | (refine op_loads_own ?_ 1 T rfl rfl (agOf _ rfl) (szOf _ rfl) ?_; focus (first | exact fun _ => rfl | (refine wanted_of rfl ?_; first | rfl | assumption | (rw [Bool.eq_false_iff]; assumption) | (simp only [decide_eq_false_iff_not, decide_eq_true_eq]; omega) | (simp; done) | (simp; omega) | (simp_all; done))))
      | (refine op_loads_own ?_ 2 T rfl rfl (agOf _ rfl) (szOf _ rfl) ?_; focus (first | exact fun _ => rfl | (refine wanted_of rfl ?_; first | rfl | assumption | (rw [Bool.eq_false_iff]; assumption) | (simp only [decide_eq_false_iff_not, decide_eq_true_eq]; omega) | (simp; done) | (simp; omega) | (simp_all; done))))); (try simp only [Act.put, List.setIfInBounds_toArray, List.set_cons_succ, List.set_cons_zero]))
    | ((with_reducible refine is_store ?_); (first
      | (refine op_store_own ?_ 0 T rfl rfl rfl (szOf _ rfl) (Nat.le_of_ble_eq_true rfl) rfl ?_; focus (first | exact fun _ => rfl | (refine wanted_of rfl ?_; first | rfl | assumption | (rw [Bool.eq_false_iff]; assumption) | (simp only [decide_eq_false_iff_not, decide_eq_true_eq]; omega) | (simp; done) | (simp; omega) | (simp_all; done))))
      | (refine op_store_own ?_ 1 T rfl rfl rfl (szOf _ rfl) (Nat.le_of_ble_eq_true rfl) rfl ?_; focus (first | exact fun _ => rfl | (refine wanted_of rfl ?_; first | rfl | assumption | (rw [Bool.eq_false_iff]; assumption) | (simp only [decide_eq_false_iff_not, decide_eq_true_eq]; omega) | (simp; done) | (simp; omega) | (simp_all; done))))
      | (refine op_store_own ?_ 2 T rfl rfl rfl (szOf _ rfl) (Nat.le_of_ble_eq_true rfl) rfl ?_; focus (first | exact fun _ => rfl | (refine wanted_of rfl ?_; first | rfl | assumption | (rw [Bool.eq_false_iff]; assumption) | (simp only [decide_eq_false_iff_not, decide_eq_true_eq]; omega) | (simp; done) | (simp; omega) | (simp_all; done))))
      | (refine op_store_own ?_ 3 T rfl rfl rfl (szOf _ rfl) (Nat.le_of_ble_eq_true rfl) rfl ?_; focus (first | exact fun _ => rfl | (refine wanted_of rfl ?_; first | rfl | assumption | (rw [Bool.eq_false_iff]; assumption) | (simp only [decide_eq_false_iff_not, decide_eq_true_eq]; omega) | (simp; done) | (simp; omega) | (simp_all; done))))); clear T; intro w T; (try simp only [puts, Value.cells, List.set_cons_zero, List.set_cons_succ, List.setIfInBounds_toArray, Nat.reduceAdd, Nat.zero_add] at T); (try simp only [Act.put, List.setIfInBounds_toArray, List.set_cons_succ, List.set_cons_zero])))
  (try simp only [Exit.inBlock, Exit.then]); refine ret1_of rfl rfl rfl ?_
  exact ⟨by unfold formS; rw [Hp.out], T.below⟩
end Go.Proofs.YtjgnpaifdbanjaaDoor
