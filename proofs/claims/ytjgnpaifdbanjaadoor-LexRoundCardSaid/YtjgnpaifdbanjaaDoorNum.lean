import Derived.Test.YtjgnpaifdbanjaaDoorLib
import Derived.Deep.DeepCutAuto
set_option linter.unusedSimpArgs false
set_option linter.unusedVariables false
namespace Go.Proofs.YtjgnpaifdbanjaaDoor
open Go.RowKit
set_option maxRecDepth 100000

/-! package num -/
structure Nm where
  neg : Bool
  dig : List UInt8
  exp : Int

def Nm.val (n : Nm) : Value := .agg #[.bool n.neg, str n.dig, .int .i64 n.exp]
def Nm.zero : Nm := ⟨false, [], 0⟩

def digitsB (s : List UInt8) : Bool := !s.isEmpty && s.all digB

theorem digits_calls (s : List UInt8) (hs : s.length ≤ 1000000) (w0 : World) :
    Calls Tryd.prog 38 #[str s] w0 fun e w' => e = .returned (.bool (digitsB s)) ∧ Below w0.heap.size w0 w' := by
  have T := Tr.start (St.nil (w := w0) (H := fun _ => none) (fun _ _ _ h => by cases h))
  cases s with
  | nil =>
    go_enter Tryd.func38, Tryd.ntmps38
    go_wp2
    go_ret
    exact ⟨rfl, T.below⟩
  | cons c s =>
    go_enter Tryd.func38, Tryd.ntmps38
    go_wp2_with (first
    | (go_at_call 30; refine (Trim_set _ digs hs (by decide) (by unfold ascii digs; decide) _).mono ?_; rintro e w ⟨rfl, hb⟩; replace T := T.of_below hb; clear hb))
    go_ret
    refine ⟨congrArg Ending.returned ?_, T.below⟩
    have h0 := trimS_empty (c :: s) digs
    have h2 : (fun x => digs.contains x) = digB := funext digs_contains
    rw [h2] at h0
    show Value.bool _ = Value.bool _
    congr 1
    rw [Bool.eq_iff_iff]
    simp [digitsB, h0]

theorem take_drop_while (p : UInt8 → Bool) (s : List UInt8) : (s.take (s.length - (s.dropWhile p).length)).drop 0 = s.takeWhile p := by
  have h : s.takeWhile p ++ s.dropWhile p = s := List.takeWhile_append_dropWhile
  have hl : s.length - (s.dropWhile p).length = (s.takeWhile p).length := by
    have := congrArg List.length h; simp only [List.length_append] at this; omega
  rw [hl, List.drop_zero]
  conv => lhs; arg 2; rw [← h]
  exact List.take_left

theorem front_calls (s : List UInt8) (hs : s.length ≤ 1000000) (w0 : World) :
    Calls Tryd.prog 37 #[str s] w0 fun e w' => e = .returned (.tuple #[str (s.takeWhile digB), str (s.dropWhile digB)]) ∧ Below w0.heap.size w0 w' := by
  have T := Tr.start (St.nil (w := w0) (H := fun _ => none) (fun _ _ _ h => by cases h))
  have hle : (s.dropWhile digB).length ≤ s.length := (List.dropWhile_sublist _).length_le
  go_enter Tryd.func37, Tryd.ntmps37
  go_wp2_with (first
    | (go_at_call 39; refine (TrimLeft_digs _ _).mono ?_; rintro e w ⟨rfl, hb⟩; replace T := T.of_below hb; clear hb))
  go_ret2
  refine ⟨congrArg Ending.returned ?_, T.below⟩
  show Value.tuple #[str _, _] = _
  have h := take_drop_while digB s
  rw [List.drop_zero] at h
  rw [h]; rfl

def nmEq (a b : Nm) : Bool := a.neg == b.neg && a.dig == b.dig && a.exp == b.exp

theorem nmEq_iff (a b : Nm) : nmEq a b = true ↔ a = b := by
  obtain ⟨a1, a2, a3⟩ := a; obtain ⟨b1, b2, b3⟩ := b; simp [nmEq, and_assoc]

theorem run_eqNum (x y : Operand) (n m : Nm) (w : World) :
    (do eqGuard .eql 61 x y n.val m.val; binOp .eql 61 n.val m.val : Sem Value).run Tryd.prog w = .ok (.bool (nmEq n m)) w := by
  obtain ⟨a1, a2, a3⟩ := n; obtain ⟨b1, b2, b3⟩ := m
  have e : ∀ s t : List UInt8, ((⟨s.toArray⟩ : ByteArray).toList == (⟨t.toArray⟩ : ByteArray).toList) = (s == t) := fun s t => by rw [ByteArray.toList_eq, ByteArray.toList_eq]
  unfold Nm.val nmEq
  simp only [Sem.run_bind]
  cases h1 : a1 == b1 <;> cases h2 : a2 == b2 <;> cases h3 : a3 == b3 <;> simp [go_sem, h1, h2, h3]

/-- P1.1, in the order in which the code asks -/
def checkE (n : Nm) : Int :=
  if nmEq n ⟨false, [48], 0⟩ = true then 0
  else if ¬ digitsB n.dig = true then 10
  else if 40 < (n.dig.length : Int) then 10
  else if ((n.dig.headD 0).toNat : Int) = 48 then 10
  else if Lib.hasSuffix n.dig [48] = true then 10
  else if n.exp < -400 then 10
  else if 400 < n.exp then 10
  else 0

set_option maxHeartbeats 4000000 in
theorem Check_calls (n : Nm) (hs : n.dig.length ≤ 1000000) (w0 : World) :
    Calls Tryd.prog 59 #[n.val] w0 fun e w' => e = .returned (.int .i64 (checkE n)) ∧ Below w0.heap.size w0 w' := by
  have T := Tr.start (St.nil (w := w0) (H := fun _ => none) (fun _ _ _ h => by cases h))
  obtain ⟨neg, d, x⟩ := n
  unfold Nm.val
  simp only at hs
  have hpos : digitsB d = true → 0 < d.length := fun h => by
    cases d with
    | nil => simp [digitsB] at h
    | cons c d => simp
  go_enter Tryd.func59, Tryd.ntmps59
  go_wp2_with (first
    | ((with_reducible refine is_binOp 61 ?_); (refine op_bin ?_ rfl rfl (fun w => run_eqNum _ _ ⟨_, _, _⟩ ⟨_, _, _⟩ w) ?_; focus (first | exact fun _ => rfl | (refine wanted_of rfl ?_; first | rfl | assumption | (rw [Bool.eq_false_iff]; assumption) | (simp only [decide_eq_false_iff_not, decide_eq_true_eq]; omega) | (simp; done) | (simp; omega) | (simp_all; done)))); (try simp only [Act.put, List.setIfInBounds_toArray, List.set_cons_succ, List.set_cons_zero]))
    | (go_at_call 38; refine (digits_calls _ hs _).mono ?_; rintro e w ⟨rfl, hb⟩; replace T := T.of_below hb; clear hb)
    | (go_at_call 71; refine (HasSuffix_l _ _ hs _).mono ?_; rintro e w ⟨rfl, hb⟩; replace T := T.of_below hb; clear hb)
    | ((with_reducible refine is_alloc ?_); (refine op_alloc ?_ (zrOf _ rfl) T ?_; focus (first | exact fun _ => rfl | (refine wanted_of rfl ?_; first | rfl | assumption | (rw [Bool.eq_false_iff]; assumption) | (simp only [decide_eq_false_iff_not, decide_eq_true_eq]; omega) | (simp; done) | (simp; omega) | (simp_all; done)))); clear T; intro w b T; (try simp only [puts, Value.cells, List.set_cons_zero, List.set_cons_succ, List.setIfInBounds_toArray, Nat.reduceAdd, Nat.zero_add] at T); (try simp only [Act.put, List.setIfInBounds_toArray, List.set_cons_succ, List.set_cons_zero]))
    | ((with_reducible refine is_box ?_); (refine op_box ?_ rfl T ?_; focus (first | exact fun _ => rfl | (refine wanted_of rfl ?_; first | rfl | assumption | (rw [Bool.eq_false_iff]; assumption) | (simp only [decide_eq_false_iff_not, decide_eq_true_eq]; omega) | (simp; done) | (simp; omega) | (simp_all; done)))); clear T; intro w b T; (try simp only [puts, Value.cells, List.set_cons_zero, List.set_cons_succ, List.setIfInBounds_toArray, Nat.reduceAdd, Nat.zero_add] at T); (try simp only [Act.put, List.setIfInBounds_toArray, List.set_cons_succ, List.set_cons_zero]))
    | ((with_reducible refine is_load ?_); (first
      | (refine op_load1_own ?_ 0 T rfl rfl (agOf _ rfl) rfl ?_; focus (first | exact fun _ => rfl | (refine wanted_of rfl ?_; first | rfl | assumption | (rw [Bool.eq_false_iff]; assumption) | (simp only [decide_eq_false_iff_not, decide_eq_true_eq]; omega) | (simp; done) | (simp; omega) | (simp_all; done))))
      | (refine op_load1_own ?_ 1 T rfl rfl (agOf _ rfl) rfl ?_; focus (first | exact fun _ => rfl | (refine wanted_of rfl ?_; first | rfl | assumption | (rw [Bool.eq_false_iff]; assumption) | (simp only [decide_eq_false_iff_not, decide_eq_true_eq]; omega) | (simp; done) | (simp; omega) | (simp_all; done))))
      | (refine op_load1_own ?_ 2 T rfl rfl (agOf _ rfl) rfl ?_; focus (first | exact fun _ => rfl | (refine wanted_of rfl ?_; first | rfl | assumption | (rw [Bool.eq_false_iff]; assumption) | (simp only [decide_eq_false_iff_not, decide_eq_true_eq]; omega) | (simp; done) | (simp; omega) | (simp_all; done))))
      | (refine op_load1_own ?_ 3 T rfl rfl (agOf _ rfl) rfl ?_; focus (first | exact fun _ => rfl | (refine wanted_of rfl ?_; first | rfl | assumption | (rw [Bool.eq_false_iff]; assumption) | (simp only [decide_eq_false_iff_not, decide_eq_true_eq]; omega) | (simp; done) | (simp; omega) | (simp_all; done))))
      | (refine op_loads_own ?_ 0 T rfl rfl (agOf _ rfl) (szOf _ rfl) ?_; focus (first | exact fun _ => rfl | (refine wanted_of rfl ?_; first | rfl | assumption | (rw [Bool.eq_false_iff]; assumption) | (simp only [decide_eq_false_iff_not, decide_eq_true_eq]; omega) | (simp; done) | (simp; omega) | (simp_all; done))))
      | (refine op_loads_own ?_ 1 T rfl rfl (agOf _ rfl) (szOf _ rfl) ?_; focus (first | exact fun _ => rfl | (refine wanted_of rfl ?_; first | rfl | assumption | (rw [Bool.eq_false_iff]; assumption) | (simp only [decide_eq_false_iff_not, decide_eq_true_eq]; omega) | (simp; done) | (simp; omega) | (simp_all; done))))
      | (refine op_loads_own ?_ 2 T rfl rfl (agOf _ rfl) (szOf _ rfl) ?_; focus (first | exact fun _ => rfl | (refine wanted_of rfl ?_; first | rfl | assumption | (rw [Bool.eq_false_iff]; assumption) | (simp only [decide_eq_false_iff_not, decide_eq_true_eq]; omega) | (simp; done) | (simp; omega) | (simp_all; done))))); (try simp only [Act.put, List.setIfInBounds_toArray, List.set_cons_succ, List.set_cons_zero]))
    | ((with_reducible refine is_store ?_); (first
      | (refine op_store_own ?_ 0 T rfl rfl rfl (szOf _ rfl) (Nat.le_of_ble_eq_true rfl) rfl ?_; focus (first | exact fun _ => rfl | (refine wanted_of rfl ?_; first | rfl | assumption | (rw [Bool.eq_false_iff]; assumption) | (simp only [decide_eq_false_iff_not, decide_eq_true_eq]; omega) | (simp; done) | (simp; omega) | (simp_all; done))))
      | (refine op_store_own ?_ 1 T rfl rfl rfl (szOf _ rfl) (Nat.le_of_ble_eq_true rfl) rfl ?_; focus (first | exact fun _ => rfl | (refine wanted_of rfl ?_; first | rfl | assumption | (rw [Bool.eq_false_iff]; assumption) | (simp only [decide_eq_false_iff_not, decide_eq_true_eq]; omega) | (simp; done) | (simp; omega) | (simp_all; done))))
      | (refine op_store_own ?_ 2 T rfl rfl rfl (szOf _ rfl) (Nat.le_of_ble_eq_true rfl) rfl ?_; focus (first | exact fun _ => rfl | (refine wanted_of rfl ?_; first | rfl | assumption | (rw [Bool.eq_false_iff]; assumption) | (simp only [decide_eq_false_iff_not, decide_eq_true_eq]; omega) | (simp; done) | (simp; omega) | (simp_all; done))))
      | (refine op_store_own ?_ 3 T rfl rfl rfl (szOf _ rfl) (Nat.le_of_ble_eq_true rfl) rfl ?_; focus (first | exact fun _ => rfl | (refine wanted_of rfl ?_; first | rfl | assumption | (rw [Bool.eq_false_iff]; assumption) | (simp only [decide_eq_false_iff_not, decide_eq_true_eq]; omega) | (simp; done) | (simp; omega) | (simp_all; done))))); clear T; intro w T; (try simp only [puts, Value.cells, List.set_cons_zero, List.set_cons_succ, List.setIfInBounds_toArray, Nat.reduceAdd, Nat.zero_add] at T); (try simp only [Act.put, List.setIfInBounds_toArray, List.set_cons_succ, List.set_cons_zero])))
  all_goals
    go_ret
    refine ⟨congrArg Ending.returned ?_, T.below⟩
    show Value.int .i64 _ = Value.int .i64 _
    congr 1
    cases d with
    | nil => first | (exact absurd ‹digitsB [] = true› (by decide)) | (simp_all [checkE, digitsB, nmEq]; done)
    | cons c d =>
      try simp only [getElem_mk', List.getElem_cons_zero] at *
      simp only [checkE, List.headD_cons]
      (repeat' split) <;> first | rfl | (exfalso; omega) | (exfalso; simp_all; done) | (exfalso; simp_all; omega)

theorem Check_calls3 (neg : Bool) (d : List UInt8) (x : Int) (w0 : World) (hs : d.length ≤ 1000000) :
    Calls Tryd.prog 59 #[.agg #[.bool neg, str d, .int .i64 x]] w0 fun e w' => e = .returned (.int .i64 (checkE ⟨neg, d, x⟩)) ∧ Below w0.heap.size w0 w' :=
  Check_calls ⟨neg, d, x⟩ hs w0

/-- a number and an error, as a result -/
abbrev numRes (r : Nm × Int) : Value := .tuple #[r.1.val, .int .i64 r.2]

def madeS (neg : Bool) (d : List UInt8) (ex : Int) : Nm × Int :=
  if trimL0 d = [] then (⟨false, [48], 0⟩, 0)
  else if checkE ⟨neg, trimR0 (trimL0 d), ex + (trimL0 d).length - (trimR0 (trimL0 d)).length⟩ = 0 then
    (⟨neg, trimR0 (trimL0 d), ex + (trimL0 d).length - (trimR0 (trimL0 d)).length⟩, 0)
  else (⟨false, [], 0⟩, 2)

theorem trimL0_le (d : List UInt8) : (trimL0 d).length ≤ d.length := (List.dropWhile_sublist _).length_le
theorem trimR0_le (d : List UInt8) : (trimR0 d).length ≤ d.length := by
  unfold trimR0; have := (List.dropWhile_sublist (· == 48) (l := d.reverse)).length_le; simpa using this

set_option maxHeartbeats 2000000 in
theorem made_calls (neg : Bool) (d : List UInt8) (ex : Int) (hd : d.length ≤ 1000000) (h1 : -10000000 ≤ ex) (h2 : ex ≤ 10000000) (w0 : World) :
    Calls Tryd.prog 41 #[.bool neg, str d, .int .i64 ex] w0 fun e w' => e = .returned (numRes (madeS neg d ex)) ∧ Below w0.heap.size w0 w' := by
  have T := Tr.start (St.nil (w := w0) (H := fun _ => none) (fun _ _ _ h => by cases h))
  have hl := trimL0_le d
  have hr := trimR0_le (trimL0 d)
  have hl2 : (trimL0 d).length ≤ 1000000 := by omega
  go_enter Tryd.func41, Tryd.ntmps41
  go_wp2_with (first
    | (go_at_call 39; refine (TrimLeft_0 _ _).mono ?_; rintro e w ⟨rfl, hb⟩; replace T := T.of_below hb; clear hb)
    | (go_at_call 58; refine (TrimRight_0 _ hl2 _).mono ?_; rintro e w ⟨rfl, hb⟩; replace T := T.of_below hb; clear hb)
    | (go_at_call 59; refine (Check_calls3 _ _ _ _ ?_).mono ?_; (focus omega); rintro e w ⟨rfl, hb⟩; replace T := T.of_below hb; clear hb)
    | ((with_reducible refine is_alloc ?_); (refine op_alloc ?_ (zrOf _ rfl) T ?_; focus (first | exact fun _ => rfl | (refine wanted_of rfl ?_; first | rfl | assumption | (rw [Bool.eq_false_iff]; assumption) | (simp only [decide_eq_false_iff_not, decide_eq_true_eq]; omega) | (simp; done) | (simp; omega) | (simp_all; done)))); clear T; intro w b T; (try simp only [puts, Value.cells, List.set_cons_zero, List.set_cons_succ, List.setIfInBounds_toArray, Nat.reduceAdd, Nat.zero_add] at T); (try simp only [Act.put, List.setIfInBounds_toArray, List.set_cons_succ, List.set_cons_zero]))
    | ((with_reducible refine is_box ?_); (refine op_box ?_ rfl T ?_; focus (first | exact fun _ => rfl | (refine wanted_of rfl ?_; first | rfl | assumption | (rw [Bool.eq_false_iff]; assumption) | (simp only [decide_eq_false_iff_not, decide_eq_true_eq]; omega) | (simp; done) | (simp; omega) | (simp_all; done)))); clear T; intro w b T; (try simp only [puts, Value.cells, List.set_cons_zero, List.set_cons_succ, List.setIfInBounds_toArray, Nat.reduceAdd, Nat.zero_add] at T); (try simp only [Act.put, List.setIfInBounds_toArray, List.set_cons_succ, List.set_cons_zero]))
    | ((with_reducible refine is_load ?_); (first
      | (refine op_load1_own ?_ 0 T rfl rfl (agOf _ rfl) rfl ?_; focus (first | exact fun _ => rfl | (refine wanted_of rfl ?_; first | rfl | assumption | (rw [Bool.eq_false_iff]; assumption) | (simp only [decide_eq_false_iff_not, decide_eq_true_eq]; omega) | (simp; done) | (simp; omega) | (simp_all; done))))
      | (refine op_load1_own ?_ 1 T rfl rfl (agOf _ rfl) rfl ?_; focus (first | exact fun _ => rfl | (refine wanted_of rfl ?_; first | rfl | assumption | (rw [Bool.eq_false_iff]; assumption) | (simp only [decide_eq_false_iff_not, decide_eq_true_eq]; omega) | (simp; done) | (simp; omega) | (simp_all; done))))
      | (refine op_load1_own ?_ 2 T rfl rfl (agOf _ rfl) rfl ?_; focus (first | exact fun _ => rfl | (refine wanted_of rfl ?_; first | rfl | assumption | (rw [Bool.eq_false_iff]; assumption) | (simp only [decide_eq_false_iff_not, decide_eq_true_eq]; omega) | (simp; done) | (simp; omega) | (simp_all; done))))
      | (refine op_load1_own ?_ 3 T rfl rfl (agOf _ rfl) rfl ?_; focus (first | exact fun _ => rfl | (refine wanted_of rfl ?_; first | rfl | assumption | (rw [Bool.eq_false_iff]; assumption) | (simp only [decide_eq_false_iff_not, decide_eq_true_eq]; omega) | (simp; done) | (simp; omega) | (simp_all; done))))
      | (refine op_loads_own ?_ 0 T rfl rfl (agOf _ rfl) (szOf _ rfl) ?_; focus (first | exact fun _ => rfl | (refine wanted_of rfl ?_; first | rfl | assumption | (rw [Bool.eq_false_iff]; assumption) | (simp only [decide_eq_false_iff_not, decide_eq_true_eq]; omega) | (simp; done) | (simp; omega) | (simp_all; done))))
      | (refine op_loads_own ?_ 1 T rfl rfl (agOf _ rfl) (szOf _ rfl) ?_; focus (first | exact fun _ => rfl | (refine wanted_of rfl ?_; first | rfl | assumption | (rw [Bool.eq_false_iff]; assumption) | (simp only [decide_eq_false_iff_not, decide_eq_true_eq]; omega) | (simp; done) | (simp; omega) | (simp_all; done))))
      | (refine op_loads_own ?_ 2 T rfl rfl (agOf _ rfl) (szOf _ rfl) ?_; focus (first | exact fun _ => rfl | (refine wanted_of rfl ?_; first | rfl | assumption | (rw [Bool.eq_false_iff]; assumption) | (simp only [decide_eq_false_iff_not, decide_eq_true_eq]; omega) | (simp; done) | (simp; omega) | (simp_all; done))))); (try simp only [Act.put, List.setIfInBounds_toArray, List.set_cons_succ, List.set_cons_zero]))
    | ((with_reducible refine is_store ?_); (first
      | (refine op_store_own ?_ 0 T rfl rfl rfl (szOf _ rfl) (Nat.le_of_ble_eq_true rfl) rfl ?_; focus (first | exact fun _ => rfl | (refine wanted_of rfl ?_; first | rfl | assumption | (rw [Bool.eq_false_iff]; assumption) | (simp only [decide_eq_false_iff_not, decide_eq_true_eq]; omega) | (simp; done) | (simp; omega) | (simp_all; done))))
      | (refine op_store_own ?_ 1 T rfl rfl rfl (szOf _ rfl) (Nat.le_of_ble_eq_true rfl) rfl ?_; focus (first | exact fun _ => rfl | (refine wanted_of rfl ?_; first | rfl | assumption | (rw [Bool.eq_false_iff]; assumption) | (simp only [decide_eq_false_iff_not, decide_eq_true_eq]; omega) | (simp; done) | (simp; omega) | (simp_all; done))))
      | (refine op_store_own ?_ 2 T rfl rfl rfl (szOf _ rfl) (Nat.le_of_ble_eq_true rfl) rfl ?_; focus (first | exact fun _ => rfl | (refine wanted_of rfl ?_; first | rfl | assumption | (rw [Bool.eq_false_iff]; assumption) | (simp only [decide_eq_false_iff_not, decide_eq_true_eq]; omega) | (simp; done) | (simp; omega) | (simp_all; done))))
      | (refine op_store_own ?_ 3 T rfl rfl rfl (szOf _ rfl) (Nat.le_of_ble_eq_true rfl) rfl ?_; focus (first | exact fun _ => rfl | (refine wanted_of rfl ?_; first | rfl | assumption | (rw [Bool.eq_false_iff]; assumption) | (simp only [decide_eq_false_iff_not, decide_eq_true_eq]; omega) | (simp; done) | (simp; omega) | (simp_all; done))))); clear T; intro w T; (try simp only [puts, Value.cells, List.set_cons_zero, List.set_cons_succ, List.setIfInBounds_toArray, Nat.reduceAdd, Nat.zero_add] at T); (try simp only [Act.put, List.setIfInBounds_toArray, List.set_cons_succ, List.set_cons_zero])))
  · (try simp only [Exit.inBlock, Exit.then]); refine retct_of 0 rfl T rfl rfl rfl (agOf _ rfl) (szOf _ rfl) rfl ?_
    refine ⟨?_, T.below⟩
    have : trimL0 d = [] := by simpa using ‹(trimL0 d).isEmpty = true›
    simp only [madeS, this]; rfl
  all_goals
    (try simp only [Exit.inBlock, Exit.then]); refine retct_of 1 rfl T rfl rfl rfl (agOf _ rfl) (szOf _ rfl) rfl ?_
    refine ⟨?_, T.below⟩
    have he : trimL0 d ≠ [] := by have := ‹(trimL0 d).isEmpty = false›; intro h; rw [h] at this; cases this
    simp only [madeS, if_neg he]
    split <;> first | rfl | (exfalso; simp_all; done)

def finS (s : List UInt8) (neg : Bool) (whole part : List UInt8) (e : Int) : Nm × Int :=
  if 512 < (s.length : Int) then (⟨false, [], 0⟩, 2) else madeS neg (whole ++ part) (e - part.length)

def bad : Nm × Int := (⟨false, [], 0⟩, 10)

/-- digits behind an e, at most seven that count -/
def expDig (v : List UInt8) : List UInt8 := if 6 < ((trimL0 v).length : Int) then [49, 48, 48, 48, 48, 48, 48] else trimL0 v

def expS (u : List UInt8) : Option Int :=
  if ¬ digitsB (if Lib.hasPrefix u [45] || Lib.hasPrefix u [43] then u.drop 1 else u) = true then none
  else if Lib.hasPrefix u [45] = true then some (-(decVal (48 :: expDig (if Lib.hasPrefix u [45] || Lib.hasPrefix u [43] then u.drop 1 else u)) : Int))
  else some (decVal (48 :: expDig (if Lib.hasPrefix u [45] || Lib.hasPrefix u [43] then u.drop 1 else u)))

def tailS (s : List UInt8) (neg : Bool) (whole part t : List UInt8) : Nm × Int :=
  match t with
  | [] => finS s neg whole part 0
  | c :: u => if (c.toNat : Int) ≠ 101 ∧ (c.toNat : Int) ≠ 69 then bad else
    match expS u with
    | none => bad
    | some e => finS s neg whole part e

def wholeBad (w : List UInt8) : Bool := w.isEmpty || ((w.headD 0).toNat == 48 && !(w == [48]))

def parseS (s : List UInt8) : Nm × Int :=
  let neg := Lib.hasPrefix s [45]
  let t := Lib.trimPrefix s [45]
  if wholeBad (t.takeWhile digB) = true then bad
  else if Lib.hasPrefix (t.dropWhile digB) [46] = true then
    let r := Lib.trimPrefix (t.dropWhile digB) [46]
    if r.takeWhile digB = [] then bad else tailS s neg (t.takeWhile digB) (r.takeWhile digB) (r.dropWhile digB)
  else tailS s neg (t.takeWhile digB) [] (t.dropWhile digB)

theorem trimPrefix_le (s p : List UInt8) : (Lib.trimPrefix s p).length ≤ s.length := by
  unfold Lib.trimPrefix; split <;> simp

theorem wb48 {c : UInt8} {W : List UInt8} (h : (c.toNat : Int) = 48) : wholeBad (c :: W) = !(c :: W == [48]) := by
  have h' : c.toNat = 48 := by omega
  simp [wholeBad, h']
theorem wbne {c : UInt8} {W : List UInt8} (h : ¬ (c.toNat : Int) = 48) : wholeBad (c :: W) = false := by
  have h' : ¬ c.toNat = 48 := by omega
  simp [wholeBad, h']

theorem hasPrefix1 (y c : UInt8) (u : List UInt8) : Lib.hasPrefix (y :: u) [c] = (c == y) := by
  simp [Lib.hasPrefix, List.isPrefixOf]
theorem hasPrefix0 (c : UInt8) : Lib.hasPrefix [] [c] = false := rfl

theorem decVal_lt (l : List UInt8) (h : l.all digB = true) : ∀ acc, l.foldl (fun a c => a * 10 + (c.toNat - 48)) acc < (acc + 1) * 10 ^ l.length := by
  induction l with
  | nil => intro acc; simp
  | cons c l ih =>
    intro acc
    simp only [List.all_cons, Bool.and_eq_true] at h
    have hc := h.1
    have h9 : c.toNat - 48 ≤ 9 := by simp only [digB, Bool.and_eq_true, decide_eq_true_eq] at hc; omega
    simp only [List.foldl_cons, List.length_cons]
    refine Nat.lt_of_lt_of_le (ih h.2 _) ?_
    rw [Nat.pow_succ, Nat.mul_comm (10 ^ l.length) 10, ← Nat.mul_assoc]
    exact Nat.mul_le_mul_right _ (by omega)

theorem all_trimL0 (v : List UInt8) (h : v.all digB = true) : (trimL0 v).all digB = true := by
  rw [List.all_eq_true] at h ⊢
  exact fun x hx => h x ((List.dropWhile_sublist _).mem hx)

theorem expDig_all (v : List UInt8) (h : v.all digB = true) : (48 :: expDig v).all digB = true := by
  rw [List.all_cons, Bool.and_eq_true]
  refine ⟨by decide, ?_⟩
  unfold expDig; split
  · decide
  · exact all_trimL0 v h

theorem expDig_le (v : List UInt8) (h : v.all digB = true) : decVal (48 :: expDig v) ≤ 1000000 := by
  unfold expDig; split
  · decide
  · rename_i hl
    have hl' : (trimL0 v).length ≤ 6 := by omega
    have h1 := decVal_lt (trimL0 v) (all_trimL0 v h) 0
    have h2 : 10 ^ (trimL0 v).length ≤ 10 ^ 6 := Nat.pow_le_pow_right (by decide) hl'
    have h3 : decVal (48 :: trimL0 v) = (trimL0 v).foldl (fun a c => a * 10 + (c.toNat - 48)) 0 := rfl
    rw [h3]; omega

theorem expDig_len (v : List UInt8) : (48 :: expDig v).length ≤ 18 := by
  unfold expDig; split <;> simp <;> omega

theorem digitsB_all {v : List UInt8} (h : digitsB v = true) : v.all digB = true := by
  simp only [digitsB, Bool.and_eq_true] at h; exact h.2

set_option maxHeartbeats 4000000 in
theorem Parse_calls (s : List UInt8) (hs : s.length ≤ 1000000) (w0 : World) :
    Calls Tryd.prog 27 #[str s] w0 fun e w' => e = .returned (numRes (parseS s)) ∧ Below w0.heap.size w0 w' := by
  have T := Tr.start (St.nil (w := w0) (H := fun _ => none) (fun _ _ _ h => by cases h))
  have hl := trimPrefix_le s [45]
  have hl1 : ((Lib.trimPrefix s [45]).takeWhile digB).length ≤ (Lib.trimPrefix s [45]).length := (List.takeWhile_sublist _).length_le
  have hl2 : ((Lib.trimPrefix s [45]).dropWhile digB).length ≤ (Lib.trimPrefix s [45]).length := (List.dropWhile_sublist _).length_le
  have hp : parseS s = parseS s := rfl
  conv at hp => rhs; simp only [parseS]
  go_enter Tryd.func27, Tryd.ntmps27
  go_upto_region 3 with (first
    | (go_at_call 36; refine (CutPrefix_l _ _ _).mono ?_; rintro e w ⟨rfl, hb⟩; replace T := T.of_below hb; clear hb)
    | (go_at_call 37; refine (front_calls _ ?_ _).mono ?_; (focus omega); rintro e w ⟨rfl, hb⟩; replace T := T.of_below hb; clear hb)
    | ((with_reducible refine is_alloc ?_); (refine op_alloc ?_ (zrOf _ rfl) T ?_; focus (first | exact fun _ => rfl | (refine wanted_of rfl ?_; first | rfl | assumption | (rw [Bool.eq_false_iff]; assumption) | (simp only [decide_eq_false_iff_not, decide_eq_true_eq]; omega) | (simp; done) | (simp; omega) | (simp_all; done)))); clear T; intro w b T; (try simp only [puts, Value.cells, List.set_cons_zero, List.set_cons_succ, List.setIfInBounds_toArray, Nat.reduceAdd, Nat.zero_add] at T); (try simp only [Act.put, List.setIfInBounds_toArray, List.set_cons_succ, List.set_cons_zero]))
    | ((with_reducible refine is_box ?_); (refine op_box ?_ rfl T ?_; focus (first | exact fun _ => rfl | (refine wanted_of rfl ?_; first | rfl | assumption | (rw [Bool.eq_false_iff]; assumption) | (simp only [decide_eq_false_iff_not, decide_eq_true_eq]; omega) | (simp; done) | (simp; omega) | (simp_all; done)))); clear T; intro w b T; (try simp only [puts, Value.cells, List.set_cons_zero, List.set_cons_succ, List.setIfInBounds_toArray, Nat.reduceAdd, Nat.zero_add] at T); (try simp only [Act.put, List.setIfInBounds_toArray, List.set_cons_succ, List.set_cons_zero]))
    | ((with_reducible refine is_load ?_); (first
      | (refine op_load1_own ?_ 0 T rfl rfl (agOf _ rfl) rfl ?_; focus (first | exact fun _ => rfl | (refine wanted_of rfl ?_; first | rfl | assumption | (rw [Bool.eq_false_iff]; assumption) | (simp only [decide_eq_false_iff_not, decide_eq_true_eq]; omega) | (simp; done) | (simp; omega) | (simp_all; done))))
      | (refine op_load1_own ?_ 1 T rfl rfl (agOf _ rfl) rfl ?_; focus (first | exact fun _ => rfl | (refine wanted_of rfl ?_; first | rfl | assumption | (rw [Bool.eq_false_iff]; assumption) | (simp only [decide_eq_false_iff_not, decide_eq_true_eq]; omega) | (simp; done) | (simp; omega) | (simp_all; done))))
      | (refine op_load1_own ?_ 2 T rfl rfl (agOf _ rfl) rfl ?_; focus (first | exact fun _ => rfl | (refine wanted_of rfl ?_; first | rfl | assumption | (rw [Bool.eq_false_iff]; assumption) | (simp only [decide_eq_false_iff_not, decide_eq_true_eq]; omega) | (simp; done) | (simp; omega) | (simp_all; done))))
      | (refine op_load1_own ?_ 3 T rfl rfl (agOf _ rfl) rfl ?_; focus (first | exact fun _ => rfl | (refine wanted_of rfl ?_; first | rfl | assumption | (rw [Bool.eq_false_iff]; assumption) | (simp only [decide_eq_false_iff_not, decide_eq_true_eq]; omega) | (simp; done) | (simp; omega) | (simp_all; done))))
      | (refine op_loads_own ?_ 0 T rfl rfl (agOf _ rfl) (szOf _ rfl) ?_; focus (first | exact fun _ => rfl | (refine wanted_of rfl ?_; first | rfl | assumption | (rw [Bool.eq_false_iff]; assumption) | (simp only [decide_eq_false_iff_not, decide_eq_true_eq]; omega) | (simp; done) | (simp; omega) | (simp_all; done))))
      | (refine op_loads_own ?_ 1 T rfl rfl (agOf _ rfl) (szOf _ rfl) ?_; focus (first | exact fun _ => rfl | (refine wanted_of rfl ?_; first | rfl | assumption | (rw [Bool.eq_false_iff]; assumption) | (simp only [decide_eq_false_iff_not, decide_eq_true_eq]; omega) | (simp; done) | (simp; omega) | (simp_all; done))))
      | (refine op_loads_own ?_ 2 T rfl rfl (agOf _ rfl) (szOf _ rfl) ?_; focus (first | exact fun _ => rfl | (refine wanted_of rfl ?_; first | rfl | assumption | (rw [Bool.eq_false_iff]; assumption) | (simp only [decide_eq_false_iff_not, decide_eq_true_eq]; omega) | (simp; done) | (simp; omega) | (simp_all; done))))); (try simp only [Act.put, List.setIfInBounds_toArray, List.set_cons_succ, List.set_cons_zero]))
    | ((with_reducible refine is_store ?_); (first
      | (refine op_store_own ?_ 0 T rfl rfl rfl (szOf _ rfl) (Nat.le_of_ble_eq_true rfl) rfl ?_; focus (first | exact fun _ => rfl | (refine wanted_of rfl ?_; first | rfl | assumption | (rw [Bool.eq_false_iff]; assumption) | (simp only [decide_eq_false_iff_not, decide_eq_true_eq]; omega) | (simp; done) | (simp; omega) | (simp_all; done))))
      | (refine op_store_own ?_ 1 T rfl rfl rfl (szOf _ rfl) (Nat.le_of_ble_eq_true rfl) rfl ?_; focus (first | exact fun _ => rfl | (refine wanted_of rfl ?_; first | rfl | assumption | (rw [Bool.eq_false_iff]; assumption) | (simp only [decide_eq_false_iff_not, decide_eq_true_eq]; omega) | (simp; done) | (simp; omega) | (simp_all; done))))
      | (refine op_store_own ?_ 2 T rfl rfl rfl (szOf _ rfl) (Nat.le_of_ble_eq_true rfl) rfl ?_; focus (first | exact fun _ => rfl | (refine wanted_of rfl ?_; first | rfl | assumption | (rw [Bool.eq_false_iff]; assumption) | (simp only [decide_eq_false_iff_not, decide_eq_true_eq]; omega) | (simp; done) | (simp; omega) | (simp_all; done))))
      | (refine op_store_own ?_ 3 T rfl rfl rfl (szOf _ rfl) (Nat.le_of_ble_eq_true rfl) rfl ?_; focus (first | exact fun _ => rfl | (refine wanted_of rfl ?_; first | rfl | assumption | (rw [Bool.eq_false_iff]; assumption) | (simp only [decide_eq_false_iff_not, decide_eq_true_eq]; omega) | (simp; done) | (simp; omega) | (simp_all; done))))); clear T; intro w T; (try simp only [puts, Value.cells, List.set_cons_zero, List.set_cons_succ, List.setIfInBounds_toArray, Nat.reduceAdd, Nat.zero_add] at T); (try simp only [Act.put, List.setIfInBounds_toArray, List.set_cons_succ, List.set_cons_zero])))
  obtain ⟨bs, rfl⟩ : ∃ x, x = b := ⟨_, rfl⟩
  generalize hW : (Lib.trimPrefix s [45]).takeWhile digB = W at *
  generalize hR : (Lib.trimPrefix s [45]).dropWhile digB = R at *
  generalize hN : Lib.hasPrefix s [45] = neg at *
  have Hp := hid hp; clear hp hW hR hN
  have hl3 := trimPrefix_le R [46]
  have hl4 : ((Lib.trimPrefix R [46]).takeWhile digB).length ≤ (Lib.trimPrefix R [46]).length := (List.takeWhile_sublist _).length_le
  have hl5 : ((Lib.trimPrefix R [46]).dropWhile digB).length ≤ (Lib.trimPrefix R [46]).length := (List.dropWhile_sublist _).length_le
  rcases W with _ | ⟨c, W⟩
  · go_wp2_with (first
    | ((with_reducible refine is_alloc ?_); (refine op_alloc ?_ (zrOf _ rfl) T ?_; focus (first | exact fun _ => rfl | (refine wanted_of rfl ?_; first | rfl | assumption | (rw [Bool.eq_false_iff]; assumption) | (simp only [decide_eq_false_iff_not, decide_eq_true_eq]; omega) | (simp; done) | (simp; omega) | (simp_all; done)))); clear T; intro w b T; (try simp only [puts, Value.cells, List.set_cons_zero, List.set_cons_succ, List.setIfInBounds_toArray, Nat.reduceAdd, Nat.zero_add] at T); (try simp only [Act.put, List.setIfInBounds_toArray, List.set_cons_succ, List.set_cons_zero]))
    | ((with_reducible refine is_box ?_); (refine op_box ?_ rfl T ?_; focus (first | exact fun _ => rfl | (refine wanted_of rfl ?_; first | rfl | assumption | (rw [Bool.eq_false_iff]; assumption) | (simp only [decide_eq_false_iff_not, decide_eq_true_eq]; omega) | (simp; done) | (simp; omega) | (simp_all; done)))); clear T; intro w b T; (try simp only [puts, Value.cells, List.set_cons_zero, List.set_cons_succ, List.setIfInBounds_toArray, Nat.reduceAdd, Nat.zero_add] at T); (try simp only [Act.put, List.setIfInBounds_toArray, List.set_cons_succ, List.set_cons_zero]))
    | ((with_reducible refine is_load ?_); (first
      | (refine op_load1_own ?_ 0 T rfl rfl (agOf _ rfl) rfl ?_; focus (first | exact fun _ => rfl | (refine wanted_of rfl ?_; first | rfl | assumption | (rw [Bool.eq_false_iff]; assumption) | (simp only [decide_eq_false_iff_not, decide_eq_true_eq]; omega) | (simp; done) | (simp; omega) | (simp_all; done))))
      | (refine op_load1_own ?_ 1 T rfl rfl (agOf _ rfl) rfl ?_; focus (first | exact fun _ => rfl | (refine wanted_of rfl ?_; first | rfl | assumption | (rw [Bool.eq_false_iff]; assumption) | (simp only [decide_eq_false_iff_not, decide_eq_true_eq]; omega) | (simp; done) | (simp; omega) | (simp_all; done))))
      | (refine op_load1_own ?_ 2 T rfl rfl (agOf _ rfl) rfl ?_; focus (first | exact fun _ => rfl | (refine wanted_of rfl ?_; first | rfl | assumption | (rw [Bool.eq_false_iff]; assumption) | (simp only [decide_eq_false_iff_not, decide_eq_true_eq]; omega) | (simp; done) | (simp; omega) | (simp_all; done))))
      | (refine op_load1_own ?_ 3 T rfl rfl (agOf _ rfl) rfl ?_; focus (first | exact fun _ => rfl | (refine wanted_of rfl ?_; first | rfl | assumption | (rw [Bool.eq_false_iff]; assumption) | (simp only [decide_eq_false_iff_not, decide_eq_true_eq]; omega) | (simp; done) | (simp; omega) | (simp_all; done))))
      | (refine op_loads_own ?_ 0 T rfl rfl (agOf _ rfl) (szOf _ rfl) ?_; focus (first | exact fun _ => rfl | (refine wanted_of rfl ?_; first | rfl | assumption | (rw [Bool.eq_false_iff]; assumption) | (simp only [decide_eq_false_iff_not, decide_eq_true_eq]; omega) | (simp; done) | (simp; omega) | (simp_all; done))))
      | (refine op_loads_own ?_ 1 T rfl rfl (agOf _ rfl) (szOf _ rfl) ?_; focus (first | exact fun _ => rfl | (refine wanted_of rfl ?_; first | rfl | assumption | (rw [Bool.eq_false_iff]; assumption) | (simp only [decide_eq_false_iff_not, decide_eq_true_eq]; omega) | (simp; done) | (simp; omega) | (simp_all; done))))
      | (refine op_loads_own ?_ 2 T rfl rfl (agOf _ rfl) (szOf _ rfl) ?_; focus (first | exact fun _ => rfl | (refine wanted_of rfl ?_; first | rfl | assumption | (rw [Bool.eq_false_iff]; assumption) | (simp only [decide_eq_false_iff_not, decide_eq_true_eq]; omega) | (simp; done) | (simp; omega) | (simp_all; done))))); (try simp only [Act.put, List.setIfInBounds_toArray, List.set_cons_succ, List.set_cons_zero]))
    | ((with_reducible refine is_store ?_); (first
      | (refine op_store_own ?_ 0 T rfl rfl rfl (szOf _ rfl) (Nat.le_of_ble_eq_true rfl) rfl ?_; focus (first | exact fun _ => rfl | (refine wanted_of rfl ?_; first | rfl | assumption | (rw [Bool.eq_false_iff]; assumption) | (simp only [decide_eq_false_iff_not, decide_eq_true_eq]; omega) | (simp; done) | (simp; omega) | (simp_all; done))))
      | (refine op_store_own ?_ 1 T rfl rfl rfl (szOf _ rfl) (Nat.le_of_ble_eq_true rfl) rfl ?_; focus (first | exact fun _ => rfl | (refine wanted_of rfl ?_; first | rfl | assumption | (rw [Bool.eq_false_iff]; assumption) | (simp only [decide_eq_false_iff_not, decide_eq_true_eq]; omega) | (simp; done) | (simp; omega) | (simp_all; done))))
      | (refine op_store_own ?_ 2 T rfl rfl rfl (szOf _ rfl) (Nat.le_of_ble_eq_true rfl) rfl ?_; focus (first | exact fun _ => rfl | (refine wanted_of rfl ?_; first | rfl | assumption | (rw [Bool.eq_false_iff]; assumption) | (simp only [decide_eq_false_iff_not, decide_eq_true_eq]; omega) | (simp; done) | (simp; omega) | (simp_all; done))))
      | (refine op_store_own ?_ 3 T rfl rfl rfl (szOf _ rfl) (Nat.le_of_ble_eq_true rfl) rfl ?_; focus (first | exact fun _ => rfl | (refine wanted_of rfl ?_; first | rfl | assumption | (rw [Bool.eq_false_iff]; assumption) | (simp only [decide_eq_false_iff_not, decide_eq_true_eq]; omega) | (simp; done) | (simp; omega) | (simp_all; done))))); clear T; intro w T; (try simp only [puts, Value.cells, List.set_cons_zero, List.set_cons_succ, List.setIfInBounds_toArray, Nat.reduceAdd, Nat.zero_add] at T); (try simp only [Act.put, List.setIfInBounds_toArray, List.set_cons_succ, List.set_cons_zero])))
    (try simp only [Exit.inBlock, Exit.then]); refine retct_of 0 rfl T rfl rfl rfl (agOf _ rfl) (szOf _ rfl) rfl ?_
    exact ⟨by rw [Hp.out]; rfl, T.below⟩
  go_cut [32] (fun s32 wx => ∃ bw, s32 = .bool bw ∧ Hid (wholeBad (c :: W) = bw) ∧
    Tr w0 (fun _ => none) [] wx (fun _ => none) [(bs, .cells #[.bool false, .string ⟨#[]⟩, .int .i64 0] 61)])
  case first =>
    go_wp2_with fail
    all_goals
      go_meet
      refine ⟨_, rfl, hid ?_, T⟩
      first | exact (wbne ‹¬ _›) | exact (wb48 ‹_ = (48 : Int)›) | (have hh := wb48 (W := W) ‹_ = (48 : Int)›; rw [hh]; cases W <;> simp)
  case rest =>
    clear T
    obtain ⟨bw, rfl, hwb, T⟩ := hcut
    have hwb := hwb.out
    cases bw with
    | true =>
      rw [hwb] at Hp; clear hwb
      go_wp2_with (first
    | ((with_reducible refine is_alloc ?_); (refine op_alloc ?_ (zrOf _ rfl) T ?_; focus (first | exact fun _ => rfl | (refine wanted_of rfl ?_; first | rfl | assumption | (rw [Bool.eq_false_iff]; assumption) | (simp only [decide_eq_false_iff_not, decide_eq_true_eq]; omega) | (simp; done) | (simp; omega) | (simp_all; done)))); clear T; intro w b T; (try simp only [puts, Value.cells, List.set_cons_zero, List.set_cons_succ, List.setIfInBounds_toArray, Nat.reduceAdd, Nat.zero_add] at T); (try simp only [Act.put, List.setIfInBounds_toArray, List.set_cons_succ, List.set_cons_zero]))
    | ((with_reducible refine is_box ?_); (refine op_box ?_ rfl T ?_; focus (first | exact fun _ => rfl | (refine wanted_of rfl ?_; first | rfl | assumption | (rw [Bool.eq_false_iff]; assumption) | (simp only [decide_eq_false_iff_not, decide_eq_true_eq]; omega) | (simp; done) | (simp; omega) | (simp_all; done)))); clear T; intro w b T; (try simp only [puts, Value.cells, List.set_cons_zero, List.set_cons_succ, List.setIfInBounds_toArray, Nat.reduceAdd, Nat.zero_add] at T); (try simp only [Act.put, List.setIfInBounds_toArray, List.set_cons_succ, List.set_cons_zero]))
    | ((with_reducible refine is_load ?_); (first
      | (refine op_load1_own ?_ 0 T rfl rfl (agOf _ rfl) rfl ?_; focus (first | exact fun _ => rfl | (refine wanted_of rfl ?_; first | rfl | assumption | (rw [Bool.eq_false_iff]; assumption) | (simp only [decide_eq_false_iff_not, decide_eq_true_eq]; omega) | (simp; done) | (simp; omega) | (simp_all; done))))
      | (refine op_load1_own ?_ 1 T rfl rfl (agOf _ rfl) rfl ?_; focus (first | exact fun _ => rfl | (refine wanted_of rfl ?_; first | rfl | assumption | (rw [Bool.eq_false_iff]; assumption) | (simp only [decide_eq_false_iff_not, decide_eq_true_eq]; omega) | (simp; done) | (simp; omega) | (simp_all; done))))
      | (refine op_load1_own ?_ 2 T rfl rfl (agOf _ rfl) rfl ?_; focus (first | exact fun _ => rfl | (refine wanted_of rfl ?_; first | rfl | assumption | (rw [Bool.eq_false_iff]; assumption) | (simp only [decide_eq_false_iff_not, decide_eq_true_eq]; omega) | (simp; done) | (simp; omega) | (simp_all; done))))
      | (refine op_load1_own ?_ 3 T rfl rfl (agOf _ rfl) rfl ?_; focus (first | exact fun _ => rfl | (refine wanted_of rfl ?_; first | rfl | assumption | (rw [Bool.eq_false_iff]; assumption) | (simp only [decide_eq_false_iff_not, decide_eq_true_eq]; omega) | (simp; done) | (simp; omega) | (simp_all; done))))
      | (refine op_loads_own ?_ 0 T rfl rfl (agOf _ rfl) (szOf _ rfl) ?_; focus (first | exact fun _ => rfl | (refine wanted_of rfl ?_; first | rfl | assumption | (rw [Bool.eq_false_iff]; assumption) | (simp only [decide_eq_false_iff_not, decide_eq_true_eq]; omega) | (simp; done) | (simp; omega) | (simp_all; done))))
      | (refine op_loads_own ?_ 1 T rfl rfl (agOf _ rfl) (szOf _ rfl) ?_; focus (first | exact fun _ => rfl | (refine wanted_of rfl ?_; first | rfl | assumption | (rw [Bool.eq_false_iff]; assumption) | (simp only [decide_eq_false_iff_not, decide_eq_true_eq]; omega) | (simp; done) | (simp; omega) | (simp_all; done))))
      | (refine op_loads_own ?_ 2 T rfl rfl (agOf _ rfl) (szOf _ rfl) ?_; focus (first | exact fun _ => rfl | (refine wanted_of rfl ?_; first | rfl | assumption | (rw [Bool.eq_false_iff]; assumption) | (simp only [decide_eq_false_iff_not, decide_eq_true_eq]; omega) | (simp; done) | (simp; omega) | (simp_all; done))))); (try simp only [Act.put, List.setIfInBounds_toArray, List.set_cons_succ, List.set_cons_zero]))
    | ((with_reducible refine is_store ?_); (first
      | (refine op_store_own ?_ 0 T rfl rfl rfl (szOf _ rfl) (Nat.le_of_ble_eq_true rfl) rfl ?_; focus (first | exact fun _ => rfl | (refine wanted_of rfl ?_; first | rfl | assumption | (rw [Bool.eq_false_iff]; assumption) | (simp only [decide_eq_false_iff_not, decide_eq_true_eq]; omega) | (simp; done) | (simp; omega) | (simp_all; done))))
      | (refine op_store_own ?_ 1 T rfl rfl rfl (szOf _ rfl) (Nat.le_of_ble_eq_true rfl) rfl ?_; focus (first | exact fun _ => rfl | (refine wanted_of rfl ?_; first | rfl | assumption | (rw [Bool.eq_false_iff]; assumption) | (simp only [decide_eq_false_iff_not, decide_eq_true_eq]; omega) | (simp; done) | (simp; omega) | (simp_all; done))))
      | (refine op_store_own ?_ 2 T rfl rfl rfl (szOf _ rfl) (Nat.le_of_ble_eq_true rfl) rfl ?_; focus (first | exact fun _ => rfl | (refine wanted_of rfl ?_; first | rfl | assumption | (rw [Bool.eq_false_iff]; assumption) | (simp only [decide_eq_false_iff_not, decide_eq_true_eq]; omega) | (simp; done) | (simp; omega) | (simp_all; done))))
      | (refine op_store_own ?_ 3 T rfl rfl rfl (szOf _ rfl) (Nat.le_of_ble_eq_true rfl) rfl ?_; focus (first | exact fun _ => rfl | (refine wanted_of rfl ?_; first | rfl | assumption | (rw [Bool.eq_false_iff]; assumption) | (simp only [decide_eq_false_iff_not, decide_eq_true_eq]; omega) | (simp; done) | (simp; omega) | (simp_all; done))))); clear T; intro w T; (try simp only [puts, Value.cells, List.set_cons_zero, List.set_cons_succ, List.setIfInBounds_toArray, Nat.reduceAdd, Nat.zero_add] at T); (try simp only [Act.put, List.setIfInBounds_toArray, List.set_cons_succ, List.set_cons_zero])))
      (try simp only [Exit.inBlock, Exit.then]); refine retct_of 0 rfl T rfl rfl rfl (agOf _ rfl) (szOf _ rfl) rfl ?_
      exact ⟨by rw [Hp.out]; rfl, T.below⟩
    | false =>
    rw [hwb] at Hp
    simp only [Bool.false_eq_true, if_false] at Hp
    clear hwb
    go_upto_if 39 with (first
    | (go_at_call 36; refine (CutPrefix_l _ _ _).mono ?_; rintro e w ⟨rfl, hb⟩; replace T := T.of_below hb; clear hb)
    | ((with_reducible refine is_alloc ?_); (refine op_alloc ?_ (zrOf _ rfl) T ?_; focus (first | exact fun _ => rfl | (refine wanted_of rfl ?_; first | rfl | assumption | (rw [Bool.eq_false_iff]; assumption) | (simp only [decide_eq_false_iff_not, decide_eq_true_eq]; omega) | (simp; done) | (simp; omega) | (simp_all; done)))); clear T; intro w b T; (try simp only [puts, Value.cells, List.set_cons_zero, List.set_cons_succ, List.setIfInBounds_toArray, Nat.reduceAdd, Nat.zero_add] at T); (try simp only [Act.put, List.setIfInBounds_toArray, List.set_cons_succ, List.set_cons_zero]))
    | ((with_reducible refine is_box ?_); (refine op_box ?_ rfl T ?_; focus (first | exact fun _ => rfl | (refine wanted_of rfl ?_; first | rfl | assumption | (rw [Bool.eq_false_iff]; assumption) | (simp only [decide_eq_false_iff_not, decide_eq_true_eq]; omega) | (simp; done) | (simp; omega) | (simp_all; done)))); clear T; intro w b T; (try simp only [puts, Value.cells, List.set_cons_zero, List.set_cons_succ, List.setIfInBounds_toArray, Nat.reduceAdd, Nat.zero_add] at T); (try simp only [Act.put, List.setIfInBounds_toArray, List.set_cons_succ, List.set_cons_zero]))
    | ((with_reducible refine is_load ?_); (first
      | (refine op_load1_own ?_ 0 T rfl rfl (agOf _ rfl) rfl ?_; focus (first | exact fun _ => rfl | (refine wanted_of rfl ?_; first | rfl | assumption | (rw [Bool.eq_false_iff]; assumption) | (simp only [decide_eq_false_iff_not, decide_eq_true_eq]; omega) | (simp; done) | (simp; omega) | (simp_all; done))))
      | (refine op_load1_own ?_ 1 T rfl rfl (agOf _ rfl) rfl ?_; focus (first | exact fun _ => rfl | (refine wanted_of rfl ?_; first | rfl | assumption | (rw [Bool.eq_false_iff]; assumption) | (simp only [decide_eq_false_iff_not, decide_eq_true_eq]; omega) | (simp; done) | (simp; omega) | (simp_all; done))))
      | (refine op_load1_own ?_ 2 T rfl rfl (agOf _ rfl) rfl ?_; focus (first | exact fun _ => rfl | (refine wanted_of rfl ?_; first | rfl | assumption | (rw [Bool.eq_false_iff]; assumption) | (simp only [decide_eq_false_iff_not, decide_eq_true_eq]; omega) | (simp; done) | (simp; omega) | (simp_all; done))))
      | (refine op_load1_own ?_ 3 T rfl rfl (agOf _ rfl) rfl ?_; focus (first | exact fun _ => rfl | (refine wanted_of rfl ?_; first | rfl | assumption | (rw [Bool.eq_false_iff]; assumption) | (simp only [decide_eq_false_iff_not, decide_eq_true_eq]; omega) | (simp; done) | (simp; omega) | (simp_all; done))))
      | (refine op_loads_own ?_ 0 T rfl rfl (agOf _ rfl) (szOf _ rfl) ?_; focus (first | exact fun _ => rfl | (refine wanted_of rfl ?_; first | rfl | assumption | (rw [Bool.eq_false_iff]; assumption) | (simp only [decide_eq_false_iff_not, decide_eq_true_eq]; omega) | (simp; done) | (simp; omega) | (simp_all; done))))
      | (refine op_loads_own ?_ 1 T rfl rfl (agOf _ rfl) (szOf _ rfl) ?_; focus (first | exact fun _ => rfl | (refine wanted_of rfl ?_; first | rfl | assumption | (rw [Bool.eq_false_iff]; assumption) | (simp only [decide_eq_false_iff_not, decide_eq_true_eq]; omega) | (simp; done) | (simp; omega) | (simp_all; done))))
      | (refine op_loads_own ?_ 2 T rfl rfl (agOf _ rfl) (szOf _ rfl) ?_; focus (first | exact fun _ => rfl | (refine wanted_of rfl ?_; first | rfl | assumption | (rw [Bool.eq_false_iff]; assumption) | (simp only [decide_eq_false_iff_not, decide_eq_true_eq]; omega) | (simp; done) | (simp; omega) | (simp_all; done))))); (try simp only [Act.put, List.setIfInBounds_toArray, List.set_cons_succ, List.set_cons_zero]))
    | ((with_reducible refine is_store ?_); (first
      | (refine op_store_own ?_ 0 T rfl rfl rfl (szOf _ rfl) (Nat.le_of_ble_eq_true rfl) rfl ?_; focus (first | exact fun _ => rfl | (refine wanted_of rfl ?_; first | rfl | assumption | (rw [Bool.eq_false_iff]; assumption) | (simp only [decide_eq_false_iff_not, decide_eq_true_eq]; omega) | (simp; done) | (simp; omega) | (simp_all; done))))
      | (refine op_store_own ?_ 1 T rfl rfl rfl (szOf _ rfl) (Nat.le_of_ble_eq_true rfl) rfl ?_; focus (first | exact fun _ => rfl | (refine wanted_of rfl ?_; first | rfl | assumption | (rw [Bool.eq_false_iff]; assumption) | (simp only [decide_eq_false_iff_not, decide_eq_true_eq]; omega) | (simp; done) | (simp; omega) | (simp_all; done))))
      | (refine op_store_own ?_ 2 T rfl rfl rfl (szOf _ rfl) (Nat.le_of_ble_eq_true rfl) rfl ?_; focus (first | exact fun _ => rfl | (refine wanted_of rfl ?_; first | rfl | assumption | (rw [Bool.eq_false_iff]; assumption) | (simp only [decide_eq_false_iff_not, decide_eq_true_eq]; omega) | (simp; done) | (simp; omega) | (simp_all; done))))
      | (refine op_store_own ?_ 3 T rfl rfl rfl (szOf _ rfl) (Nat.le_of_ble_eq_true rfl) rfl ?_; focus (first | exact fun _ => rfl | (refine wanted_of rfl ?_; first | rfl | assumption | (rw [Bool.eq_false_iff]; assumption) | (simp only [decide_eq_false_iff_not, decide_eq_true_eq]; omega) | (simp; done) | (simp; omega) | (simp_all; done))))); clear T; intro w T; (try simp only [puts, Value.cells, List.set_cons_zero, List.set_cons_succ, List.setIfInBounds_toArray, Nat.reduceAdd, Nat.zero_add] at T); (try simp only [Act.put, List.setIfInBounds_toArray, List.set_cons_succ, List.set_cons_zero])))
    go_cut [4, 7, 8, 9] (fun s4 s7 _ _ wx => ∃ t part : List UInt8, s4 = str t ∧ s7 = str part ∧ t.length ≤ 1000000 ∧ part.length ≤ s.length ∧ Hid (parseS s = tailS s neg (c :: W) part t) ∧
      Tr w0 (fun _ => none) [] wx (fun _ => none) [(bs, .cells #[.bool false, .string ⟨#[]⟩, .int .i64 0] 61)])
    case first =>
      generalize hpf : Lib.hasPrefix R [46] = bp at *
      clear hpf
      cases bp with
      | true =>
        replace Hp := hid (Hp.out.trans (if_pos rfl))
        generalize hP : (Lib.trimPrefix R [46]).takeWhile digB = P at *
        go_upto_region 9 with (first
    | (go_at_call 37; refine (front_calls _ ?_ _).mono ?_; (focus omega); rintro e w ⟨rfl, hb⟩; replace T := T.of_below hb; clear hb))
        clear hP
        rcases P with _ | ⟨d, P⟩
        · go_wp2_with (first
    | ((with_reducible refine is_alloc ?_); (refine op_alloc ?_ (zrOf _ rfl) T ?_; focus (first | exact fun _ => rfl | (refine wanted_of rfl ?_; first | rfl | assumption | (rw [Bool.eq_false_iff]; assumption) | (simp only [decide_eq_false_iff_not, decide_eq_true_eq]; omega) | (simp; done) | (simp; omega) | (simp_all; done)))); clear T; intro w b T; (try simp only [puts, Value.cells, List.set_cons_zero, List.set_cons_succ, List.setIfInBounds_toArray, Nat.reduceAdd, Nat.zero_add] at T); (try simp only [Act.put, List.setIfInBounds_toArray, List.set_cons_succ, List.set_cons_zero]))
    | ((with_reducible refine is_box ?_); (refine op_box ?_ rfl T ?_; focus (first | exact fun _ => rfl | (refine wanted_of rfl ?_; first | rfl | assumption | (rw [Bool.eq_false_iff]; assumption) | (simp only [decide_eq_false_iff_not, decide_eq_true_eq]; omega) | (simp; done) | (simp; omega) | (simp_all; done)))); clear T; intro w b T; (try simp only [puts, Value.cells, List.set_cons_zero, List.set_cons_succ, List.setIfInBounds_toArray, Nat.reduceAdd, Nat.zero_add] at T); (try simp only [Act.put, List.setIfInBounds_toArray, List.set_cons_succ, List.set_cons_zero]))
    | ((with_reducible refine is_load ?_); (first
      | (refine op_load1_own ?_ 0 T rfl rfl (agOf _ rfl) rfl ?_; focus (first | exact fun _ => rfl | (refine wanted_of rfl ?_; first | rfl | assumption | (rw [Bool.eq_false_iff]; assumption) | (simp only [decide_eq_false_iff_not, decide_eq_true_eq]; omega) | (simp; done) | (simp; omega) | (simp_all; done))))
      | (refine op_load1_own ?_ 1 T rfl rfl (agOf _ rfl) rfl ?_; focus (first | exact fun _ => rfl | (refine wanted_of rfl ?_; first | rfl | assumption | (rw [Bool.eq_false_iff]; assumption) | (simp only [decide_eq_false_iff_not, decide_eq_true_eq]; omega) | (simp; done) | (simp; omega) | (simp_all; done))))
      | (refine op_load1_own ?_ 2 T rfl rfl (agOf _ rfl) rfl ?_; focus (first | exact fun _ => rfl | (refine wanted_of rfl ?_; first | rfl | assumption | (rw [Bool.eq_false_iff]; assumption) | (simp only [decide_eq_false_iff_not, decide_eq_true_eq]; omega) | (simp; done) | (simp; omega) | (simp_all; done))))
      | (refine op_load1_own ?_ 3 T rfl rfl (agOf _ rfl) rfl ?_; focus (first | exact fun _ => rfl | (refine wanted_of rfl ?_; first | rfl | assumption | (rw [Bool.eq_false_iff]; assumption) | (simp only [decide_eq_false_iff_not, decide_eq_true_eq]; omega) | (simp; done) | (simp; omega) | (simp_all; done))))
      | (refine op_loads_own ?_ 0 T rfl rfl (agOf _ rfl) (szOf _ rfl) ?_; focus (first | exact fun _ => rfl | (refine wanted_of rfl ?_; first | rfl | assumption | (rw [Bool.eq_false_iff]; assumption) | (simp only [decide_eq_false_iff_not, decide_eq_true_eq]; omega) | (simp; done) | (simp; omega) | (simp_all; done))))
      | (refine op_loads_own ?_ 1 T rfl rfl (agOf _ rfl) (szOf _ rfl) ?_; focus (first | exact fun _ => rfl | (refine wanted_of rfl ?_; first | rfl | assumption | (rw [Bool.eq_false_iff]; assumption) | (simp only [decide_eq_false_iff_not, decide_eq_true_eq]; omega) | (simp; done) | (simp; omega) | (simp_all; done))))
      | (refine op_loads_own ?_ 2 T rfl rfl (agOf _ rfl) (szOf _ rfl) ?_; focus (first | exact fun _ => rfl | (refine wanted_of rfl ?_; first | rfl | assumption | (rw [Bool.eq_false_iff]; assumption) | (simp only [decide_eq_false_iff_not, decide_eq_true_eq]; omega) | (simp; done) | (simp; omega) | (simp_all; done))))); (try simp only [Act.put, List.setIfInBounds_toArray, List.set_cons_succ, List.set_cons_zero]))
    | ((with_reducible refine is_store ?_); (first
      | (refine op_store_own ?_ 0 T rfl rfl rfl (szOf _ rfl) (Nat.le_of_ble_eq_true rfl) rfl ?_; focus (first | exact fun _ => rfl | (refine wanted_of rfl ?_; first | rfl | assumption | (rw [Bool.eq_false_iff]; assumption) | (simp only [decide_eq_false_iff_not, decide_eq_true_eq]; omega) | (simp; done) | (simp; omega) | (simp_all; done))))
      | (refine op_store_own ?_ 1 T rfl rfl rfl (szOf _ rfl) (Nat.le_of_ble_eq_true rfl) rfl ?_; focus (first | exact fun _ => rfl | (refine wanted_of rfl ?_; first | rfl | assumption | (rw [Bool.eq_false_iff]; assumption) | (simp only [decide_eq_false_iff_not, decide_eq_true_eq]; omega) | (simp; done) | (simp; omega) | (simp_all; done))))
      | (refine op_store_own ?_ 2 T rfl rfl rfl (szOf _ rfl) (Nat.le_of_ble_eq_true rfl) rfl ?_; focus (first | exact fun _ => rfl | (refine wanted_of rfl ?_; first | rfl | assumption | (rw [Bool.eq_false_iff]; assumption) | (simp only [decide_eq_false_iff_not, decide_eq_true_eq]; omega) | (simp; done) | (simp; omega) | (simp_all; done))))
      | (refine op_store_own ?_ 3 T rfl rfl rfl (szOf _ rfl) (Nat.le_of_ble_eq_true rfl) rfl ?_; focus (first | exact fun _ => rfl | (refine wanted_of rfl ?_; first | rfl | assumption | (rw [Bool.eq_false_iff]; assumption) | (simp only [decide_eq_false_iff_not, decide_eq_true_eq]; omega) | (simp; done) | (simp; omega) | (simp_all; done))))); clear T; intro w T; (try simp only [puts, Value.cells, List.set_cons_zero, List.set_cons_succ, List.setIfInBounds_toArray, Nat.reduceAdd, Nat.zero_add] at T); (try simp only [Act.put, List.setIfInBounds_toArray, List.set_cons_succ, List.set_cons_zero])))
          (try simp only [Exit.inBlock, Exit.then]); refine retct_of 0 rfl T rfl rfl rfl (agOf _ rfl) (szOf _ rfl) rfl ?_
          exact ⟨by rw [Hp.out]; rfl, T.below⟩
        · go_wp2
          go_meet
          simp only [List.length_cons] at hl4
          exact ⟨_, _, rfl, rfl, by omega, by simp; omega, Hp, T⟩
      | false =>
        replace Hp := hid (Hp.out.trans (if_neg (by simp)))
        go_wp2
        go_meet
        exact ⟨_, _, rfl, rfl, by omega, by simp, Hp, T⟩
    case rest =>
      clear T Hp
      obtain ⟨t, part, rfl, rfl, ht, hpl, Hp, T⟩ := hcut
      go_upto_if 49 with fail
      go_cut [4, 10] (fun s4 s10 wx => ∃ (e : Int), s10 = .int .i64 e ∧ -1000000 ≤ e ∧ e ≤ 1000000 ∧ Hid (parseS s = finS s neg (c :: W) part e) ∧
        Tr w0 (fun _ => none) [] wx (fun _ => none) [(bs, .cells #[.bool false, .string ⟨#[]⟩, .int .i64 0] 61)])
      case first =>
        rcases t with _ | ⟨x, u⟩
        · go_wp2
          go_meet
          exact ⟨0, rfl, by omega, by omega, Hp, T⟩
        · simp only [List.length_cons] at ht
          by_cases hx : (x.toNat : Int) ≠ 101 ∧ (x.toNat : Int) ≠ 69
          · have hb1 : ((x.toNat : Int) != 101) = true := by simpa using hx.1
            have hb2 : ((x.toNat : Int) != 69) = true := by simpa using hx.2
            have hq := Hp.out
            simp only [tailS, if_pos hx] at hq
            have Hq := hid hq; clear hq Hp hx
            go_wp2_with (first
    | ((with_reducible refine is_alloc ?_); (refine op_alloc ?_ (zrOf _ rfl) T ?_; focus (first | exact fun _ => rfl | (refine wanted_of rfl ?_; first | rfl | assumption | (rw [Bool.eq_false_iff]; assumption) | (simp only [decide_eq_false_iff_not, decide_eq_true_eq]; omega) | (simp; done) | (simp; omega) | (simp_all; done)))); clear T; intro w b T; (try simp only [puts, Value.cells, List.set_cons_zero, List.set_cons_succ, List.setIfInBounds_toArray, Nat.reduceAdd, Nat.zero_add] at T); (try simp only [Act.put, List.setIfInBounds_toArray, List.set_cons_succ, List.set_cons_zero]))
    | ((with_reducible refine is_box ?_); (refine op_box ?_ rfl T ?_; focus (first | exact fun _ => rfl | (refine wanted_of rfl ?_; first | rfl | assumption | (rw [Bool.eq_false_iff]; assumption) | (simp only [decide_eq_false_iff_not, decide_eq_true_eq]; omega) | (simp; done) | (simp; omega) | (simp_all; done)))); clear T; intro w b T; (try simp only [puts, Value.cells, List.set_cons_zero, List.set_cons_succ, List.setIfInBounds_toArray, Nat.reduceAdd, Nat.zero_add] at T); (try simp only [Act.put, List.setIfInBounds_toArray, List.set_cons_succ, List.set_cons_zero]))
    | ((with_reducible refine is_load ?_); (first
      | (refine op_load1_own ?_ 0 T rfl rfl (agOf _ rfl) rfl ?_; focus (first | exact fun _ => rfl | (refine wanted_of rfl ?_; first | rfl | assumption | (rw [Bool.eq_false_iff]; assumption) | (simp only [decide_eq_false_iff_not, decide_eq_true_eq]; omega) | (simp; done) | (simp; omega) | (simp_all; done))))
      | (refine op_load1_own ?_ 1 T rfl rfl (agOf _ rfl) rfl ?_; focus (first | exact fun _ => rfl | (refine wanted_of rfl ?_; first | rfl | assumption | (rw [Bool.eq_false_iff]; assumption) | (simp only [decide_eq_false_iff_not, decide_eq_true_eq]; omega) | (simp; done) | (simp; omega) | (simp_all; done))))
      | (refine op_load1_own ?_ 2 T rfl rfl (agOf _ rfl) rfl ?_; focus (first | exact fun _ => rfl | (refine wanted_of rfl ?_; first | rfl | assumption | (rw [Bool.eq_false_iff]; assumption) | (simp only [decide_eq_false_iff_not, decide_eq_true_eq]; omega) | (simp; done) | (simp; omega) | (simp_all; done))))
      | (refine op_load1_own ?_ 3 T rfl rfl (agOf _ rfl) rfl ?_; focus (first | exact fun _ => rfl | (refine wanted_of rfl ?_; first | rfl | assumption | (rw [Bool.eq_false_iff]; assumption) | (simp only [decide_eq_false_iff_not, decide_eq_true_eq]; omega) | (simp; done) | (simp; omega) | (simp_all; done))))
      | (refine op_loads_own ?_ 0 T rfl rfl (agOf _ rfl) (szOf _ rfl) ?_; focus (first | exact fun _ => rfl | (refine wanted_of rfl ?_; first | rfl | assumption | (rw [Bool.eq_false_iff]; assumption) | (simp only [decide_eq_false_iff_not, decide_eq_true_eq]; omega) | (simp; done) | (simp; omega) | (simp_all; done))))
      | (refine op_loads_own ?_ 1 T rfl rfl (agOf _ rfl) (szOf _ rfl) ?_; focus (first | exact fun _ => rfl | (refine wanted_of rfl ?_; first | rfl | assumption | (rw [Bool.eq_false_iff]; assumption) | (simp only [decide_eq_false_iff_not, decide_eq_true_eq]; omega) | (simp; done) | (simp; omega) | (simp_all; done))))
      | (refine op_loads_own ?_ 2 T rfl rfl (agOf _ rfl) (szOf _ rfl) ?_; focus (first | exact fun _ => rfl | (refine wanted_of rfl ?_; first | rfl | assumption | (rw [Bool.eq_false_iff]; assumption) | (simp only [decide_eq_false_iff_not, decide_eq_true_eq]; omega) | (simp; done) | (simp; omega) | (simp_all; done))))); (try simp only [Act.put, List.setIfInBounds_toArray, List.set_cons_succ, List.set_cons_zero]))
    | ((with_reducible refine is_store ?_); (first
      | (refine op_store_own ?_ 0 T rfl rfl rfl (szOf _ rfl) (Nat.le_of_ble_eq_true rfl) rfl ?_; focus (first | exact fun _ => rfl | (refine wanted_of rfl ?_; first | rfl | assumption | (rw [Bool.eq_false_iff]; assumption) | (simp only [decide_eq_false_iff_not, decide_eq_true_eq]; omega) | (simp; done) | (simp; omega) | (simp_all; done))))
      | (refine op_store_own ?_ 1 T rfl rfl rfl (szOf _ rfl) (Nat.le_of_ble_eq_true rfl) rfl ?_; focus (first | exact fun _ => rfl | (refine wanted_of rfl ?_; first | rfl | assumption | (rw [Bool.eq_false_iff]; assumption) | (simp only [decide_eq_false_iff_not, decide_eq_true_eq]; omega) | (simp; done) | (simp; omega) | (simp_all; done))))
      | (refine op_store_own ?_ 2 T rfl rfl rfl (szOf _ rfl) (Nat.le_of_ble_eq_true rfl) rfl ?_; focus (first | exact fun _ => rfl | (refine wanted_of rfl ?_; first | rfl | assumption | (rw [Bool.eq_false_iff]; assumption) | (simp only [decide_eq_false_iff_not, decide_eq_true_eq]; omega) | (simp; done) | (simp; omega) | (simp_all; done))))
      | (refine op_store_own ?_ 3 T rfl rfl rfl (szOf _ rfl) (Nat.le_of_ble_eq_true rfl) rfl ?_; focus (first | exact fun _ => rfl | (refine wanted_of rfl ?_; first | rfl | assumption | (rw [Bool.eq_false_iff]; assumption) | (simp only [decide_eq_false_iff_not, decide_eq_true_eq]; omega) | (simp; done) | (simp; omega) | (simp_all; done))))); clear T; intro w T; (try simp only [puts, Value.cells, List.set_cons_zero, List.set_cons_succ, List.setIfInBounds_toArray, Nat.reduceAdd, Nat.zero_add] at T); (try simp only [Act.put, List.setIfInBounds_toArray, List.set_cons_succ, List.set_cons_zero])))
            (try simp only [Exit.inBlock, Exit.then]); refine retct_of 0 rfl T rfl rfl rfl (agOf _ rfl) (szOf _ rfl) rfl ?_
            exact ⟨by rw [Hq.out]; rfl, T.below⟩
          · have hq := Hp.out
            simp only [tailS, if_neg hx] at hq
            have Hq := hid hq; clear hq Hp
            have hb : (((x.toNat : Int) != 101) = false) ∨ (((x.toNat : Int) != 101) = true ∧ ((x.toNat : Int) != 69) = false) := by
              by_cases h1 : (x.toNat : Int) = 101
              · left; simpa using h1
              · right; refine ⟨by simpa using h1, ?_⟩
                by_cases h2 : (x.toNat : Int) = 69
                · simpa using h2
                · exact absurd ⟨h1, h2⟩ hx
            clear hx
            go_upto_region 13 with fail
            go_cut [57] (fun s57 wx => s57 = .bool false ∧ wx = wc)
            case first =>
              rcases hb with hb | ⟨hb, hb2⟩
              all_goals
                go_wp2_with fail
                go_meet
                exact ⟨rfl, rfl⟩
            case rest =>
            clear hb
            obtain ⟨rfl, rfl⟩ := hcut
            obtain ⟨m, hm⟩ : ∃ m, Lib.hasPrefix u [45] = m := ⟨_, rfl⟩
            obtain ⟨pl, hpl2⟩ : ∃ m, Lib.hasPrefix u [43] = m := ⟨_, rfl⟩
            have hul : (m || pl) = true → 1 ≤ u.length := fun h => by
              cases u with
              | nil => rw [← hm, ← hpl2] at h; cases h
              | cons _ _ => simp
            have hex : expS u = expS u := rfl
            conv at hex => rhs; simp only [expS, hm, hpl2]
            have Hm := hid hm; have Hpl := hid hpl2; have Hex := hid hex; clear hm hpl2 hex
            go_upto_region 17 with (first
              | (go_at_call 29; refine (HasPrefix_l _ _ _).mono ?_; rintro e w ⟨rfl, hb⟩; replace T := T.of_below hb; clear hb; rw [Hm.out]))
            rcases m with _ | _
            · rcases pl with _ | _
              · clear hul
                simp only [Bool.or_self, Bool.false_eq_true, if_false] at Hex
                go_upto_region 19 with (first
                  | (go_at_call 29; refine (HasPrefix_l _ _ _).mono ?_; rintro e w ⟨rfl, hb⟩; replace T := T.of_below hb; clear hb; rw [Hpl.out]))
                obtain ⟨dg, hdg⟩ : ∃ d, digitsB (u) = d := ⟨_, rfl⟩
                have hvl : (u).length ≤ 1000000 := by first | omega | (simp; omega)
                go_upto_if 72 with (first
                  | (go_at_call 38; refine (digits_calls _ hvl _).mono ?_; rintro e w ⟨rfl, hb⟩; replace T := T.of_below hb; clear hb))
                (try rw [hdg])
                rw [hdg] at Hex
                cases dg with
                | false =>
                  clear hdg
                  go_wp2_with (first
                    | ((with_reducible refine is_alloc ?_); (refine op_alloc ?_ (zrOf _ rfl) T ?_; focus (first | exact fun _ => rfl | (refine wanted_of rfl ?_; first | rfl | assumption | (rw [Bool.eq_false_iff]; assumption) | (simp only [decide_eq_false_iff_not, decide_eq_true_eq]; omega) | (simp; done) | (simp; omega) | (simp_all; done)))); clear T; intro w b T; (try simp only [puts, Value.cells, List.set_cons_zero, List.set_cons_succ, List.setIfInBounds_toArray, Nat.reduceAdd, Nat.zero_add] at T); (try simp only [Act.put, List.setIfInBounds_toArray, List.set_cons_succ, List.set_cons_zero]))
                    | ((with_reducible refine is_box ?_); (refine op_box ?_ rfl T ?_; focus (first | exact fun _ => rfl | (refine wanted_of rfl ?_; first | rfl | assumption | (rw [Bool.eq_false_iff]; assumption) | (simp only [decide_eq_false_iff_not, decide_eq_true_eq]; omega) | (simp; done) | (simp; omega) | (simp_all; done)))); clear T; intro w b T; (try simp only [puts, Value.cells, List.set_cons_zero, List.set_cons_succ, List.setIfInBounds_toArray, Nat.reduceAdd, Nat.zero_add] at T); (try simp only [Act.put, List.setIfInBounds_toArray, List.set_cons_succ, List.set_cons_zero]))
                    | ((with_reducible refine is_load ?_); (first
                      | (refine op_load1_own ?_ 0 T rfl rfl (agOf _ rfl) rfl ?_; focus (first | exact fun _ => rfl | (refine wanted_of rfl ?_; first | rfl | assumption | (rw [Bool.eq_false_iff]; assumption) | (simp only [decide_eq_false_iff_not, decide_eq_true_eq]; omega) | (simp; done) | (simp; omega) | (simp_all; done))))
                      | (refine op_load1_own ?_ 1 T rfl rfl (agOf _ rfl) rfl ?_; focus (first | exact fun _ => rfl | (refine wanted_of rfl ?_; first | rfl | assumption | (rw [Bool.eq_false_iff]; assumption) | (simp only [decide_eq_false_iff_not, decide_eq_true_eq]; omega) | (simp; done) | (simp; omega) | (simp_all; done))))
                      | (refine op_load1_own ?_ 2 T rfl rfl (agOf _ rfl) rfl ?_; focus (first | exact fun _ => rfl | (refine wanted_of rfl ?_; first | rfl | assumption | (rw [Bool.eq_false_iff]; assumption) | (simp only [decide_eq_false_iff_not, decide_eq_true_eq]; omega) | (simp; done) | (simp; omega) | (simp_all; done))))
                      | (refine op_load1_own ?_ 3 T rfl rfl (agOf _ rfl) rfl ?_; focus (first | exact fun _ => rfl | (refine wanted_of rfl ?_; first | rfl | assumption | (rw [Bool.eq_false_iff]; assumption) | (simp only [decide_eq_false_iff_not, decide_eq_true_eq]; omega) | (simp; done) | (simp; omega) | (simp_all; done))))
                      | (refine op_loads_own ?_ 0 T rfl rfl (agOf _ rfl) (szOf _ rfl) ?_; focus (first | exact fun _ => rfl | (refine wanted_of rfl ?_; first | rfl | assumption | (rw [Bool.eq_false_iff]; assumption) | (simp only [decide_eq_false_iff_not, decide_eq_true_eq]; omega) | (simp; done) | (simp; omega) | (simp_all; done))))
                      | (refine op_loads_own ?_ 1 T rfl rfl (agOf _ rfl) (szOf _ rfl) ?_; focus (first | exact fun _ => rfl | (refine wanted_of rfl ?_; first | rfl | assumption | (rw [Bool.eq_false_iff]; assumption) | (simp only [decide_eq_false_iff_not, decide_eq_true_eq]; omega) | (simp; done) | (simp; omega) | (simp_all; done))))
                      | (refine op_loads_own ?_ 2 T rfl rfl (agOf _ rfl) (szOf _ rfl) ?_; focus (first | exact fun _ => rfl | (refine wanted_of rfl ?_; first | rfl | assumption | (rw [Bool.eq_false_iff]; assumption) | (simp only [decide_eq_false_iff_not, decide_eq_true_eq]; omega) | (simp; done) | (simp; omega) | (simp_all; done))))); (try simp only [Act.put, List.setIfInBounds_toArray, List.set_cons_succ, List.set_cons_zero]))
                    | ((with_reducible refine is_store ?_); (first
                      | (refine op_store_own ?_ 0 T rfl rfl rfl (szOf _ rfl) (Nat.le_of_ble_eq_true rfl) rfl ?_; focus (first | exact fun _ => rfl | (refine wanted_of rfl ?_; first | rfl | assumption | (rw [Bool.eq_false_iff]; assumption) | (simp only [decide_eq_false_iff_not, decide_eq_true_eq]; omega) | (simp; done) | (simp; omega) | (simp_all; done))))
                      | (refine op_store_own ?_ 1 T rfl rfl rfl (szOf _ rfl) (Nat.le_of_ble_eq_true rfl) rfl ?_; focus (first | exact fun _ => rfl | (refine wanted_of rfl ?_; first | rfl | assumption | (rw [Bool.eq_false_iff]; assumption) | (simp only [decide_eq_false_iff_not, decide_eq_true_eq]; omega) | (simp; done) | (simp; omega) | (simp_all; done))))
                      | (refine op_store_own ?_ 2 T rfl rfl rfl (szOf _ rfl) (Nat.le_of_ble_eq_true rfl) rfl ?_; focus (first | exact fun _ => rfl | (refine wanted_of rfl ?_; first | rfl | assumption | (rw [Bool.eq_false_iff]; assumption) | (simp only [decide_eq_false_iff_not, decide_eq_true_eq]; omega) | (simp; done) | (simp; omega) | (simp_all; done))))
                      | (refine op_store_own ?_ 3 T rfl rfl rfl (szOf _ rfl) (Nat.le_of_ble_eq_true rfl) rfl ?_; focus (first | exact fun _ => rfl | (refine wanted_of rfl ?_; first | rfl | assumption | (rw [Bool.eq_false_iff]; assumption) | (simp only [decide_eq_false_iff_not, decide_eq_true_eq]; omega) | (simp; done) | (simp; omega) | (simp_all; done))))); clear T; intro w T; (try simp only [puts, Value.cells, List.set_cons_zero, List.set_cons_succ, List.setIfInBounds_toArray, Nat.reduceAdd, Nat.zero_add] at T); (try simp only [Act.put, List.setIfInBounds_toArray, List.set_cons_succ, List.set_cons_zero])))
                  (try simp only [Exit.inBlock, Exit.then]); refine retct_of 0 rfl T rfl rfl rfl (agOf _ rfl) (szOf _ rfl) rfl ?_
                  exact ⟨by rw [Hq.out, Hex.out]; rfl, T.below⟩
                | true =>
                  have Hdg := hid hdg; clear hdg
                  have h6 := expDig_le (u) (digitsB_all Hdg.out)
                  go_upto_if 78 with (first
                    | (go_at_call 39; refine (TrimLeft_0 _ _).mono ?_; rintro e w ⟨rfl, hb⟩; replace T := T.of_below hb; clear hb))
                  go_cut [4] (fun s4 wx => s4 = str (expDig (u)) ∧ Tr w0 (fun _ => none) [] wx (fun _ => none) [(bs, .cells #[.bool false, .string ⟨#[]⟩, .int .i64 0] 61)])
                  case first =>
                    by_cases h6' : 6 < ((trimL0 (u)).length : Int)
                    · go_wp2
                      all_goals
                        go_meet
                        exact ⟨by unfold expDig; rw [if_pos h6'], T⟩
                    · go_wp2
                      all_goals
                        go_meet
                        exact ⟨by unfold expDig; rw [if_neg (by omega)], T⟩
                  case rest =>
                    clear T
                    obtain ⟨rfl, T⟩ := hcut
                    have hel := expDig_len (u)
                    simp only [List.length_cons] at hel
                    go_wp2_with (first
                      | (go_at_call 40; refine (Atoi_digs (48 :: expDig (u)) (expDig_all _ (digitsB_all Hdg.out)) (by simp) (expDig_len (u)) _).mono ?_; rintro e w ⟨rfl, hb⟩; replace T := T.of_below hb; clear hb))
                    all_goals
                      go_meet
                      refine ⟨_, rfl, ?_, ?_, hid ?_, T⟩
                    · omega
                    · omega
                    · rw [Hq.out, Hex.out]; rfl
              · have hul := hul rfl
                simp only [Bool.or_true, Bool.false_eq_true, if_false, if_true, List.drop_one] at Hex
                go_upto_region 19 with (first
                  | (go_at_call 29; refine (HasPrefix_l _ _ _).mono ?_; rintro e w ⟨rfl, hb⟩; replace T := T.of_below hb; clear hb; rw [Hpl.out]))
                obtain ⟨dg, hdg⟩ : ∃ d, digitsB (u.tail) = d := ⟨_, rfl⟩
                have hvl : (u.tail).length ≤ 1000000 := by first | omega | (simp; omega)
                go_upto_if 72 with (first
                  | (go_at_call 38; refine (digits_calls _ hvl _).mono ?_; rintro e w ⟨rfl, hb⟩; replace T := T.of_below hb; clear hb))
                (try rw [hdg])
                rw [hdg] at Hex
                cases dg with
                | false =>
                  clear hdg
                  go_wp2_with (first
                    | ((with_reducible refine is_alloc ?_); (refine op_alloc ?_ (zrOf _ rfl) T ?_; focus (first | exact fun _ => rfl | (refine wanted_of rfl ?_; first | rfl | assumption | (rw [Bool.eq_false_iff]; assumption) | (simp only [decide_eq_false_iff_not, decide_eq_true_eq]; omega) | (simp; done) | (simp; omega) | (simp_all; done)))); clear T; intro w b T; (try simp only [puts, Value.cells, List.set_cons_zero, List.set_cons_succ, List.setIfInBounds_toArray, Nat.reduceAdd, Nat.zero_add] at T); (try simp only [Act.put, List.setIfInBounds_toArray, List.set_cons_succ, List.set_cons_zero]))
                    | ((with_reducible refine is_box ?_); (refine op_box ?_ rfl T ?_; focus (first | exact fun _ => rfl | (refine wanted_of rfl ?_; first | rfl | assumption | (rw [Bool.eq_false_iff]; assumption) | (simp only [decide_eq_false_iff_not, decide_eq_true_eq]; omega) | (simp; done) | (simp; omega) | (simp_all; done)))); clear T; intro w b T; (try simp only [puts, Value.cells, List.set_cons_zero, List.set_cons_succ, List.setIfInBounds_toArray, Nat.reduceAdd, Nat.zero_add] at T); (try simp only [Act.put, List.setIfInBounds_toArray, List.set_cons_succ, List.set_cons_zero]))
                    | ((with_reducible refine is_load ?_); (first
                      | (refine op_load1_own ?_ 0 T rfl rfl (agOf _ rfl) rfl ?_; focus (first | exact fun _ => rfl | (refine wanted_of rfl ?_; first | rfl | assumption | (rw [Bool.eq_false_iff]; assumption) | (simp only [decide_eq_false_iff_not, decide_eq_true_eq]; omega) | (simp; done) | (simp; omega) | (simp_all; done))))
                      | (refine op_load1_own ?_ 1 T rfl rfl (agOf _ rfl) rfl ?_; focus (first | exact fun _ => rfl | (refine wanted_of rfl ?_; first | rfl | assumption | (rw [Bool.eq_false_iff]; assumption) | (simp only [decide_eq_false_iff_not, decide_eq_true_eq]; omega) | (simp; done) | (simp; omega) | (simp_all; done))))
                      | (refine op_load1_own ?_ 2 T rfl rfl (agOf _ rfl) rfl ?_; focus (first | exact fun _ => rfl | (refine wanted_of rfl ?_; first | rfl | assumption | (rw [Bool.eq_false_iff]; assumption) | (simp only [decide_eq_false_iff_not, decide_eq_true_eq]; omega) | (simp; done) | (simp; omega) | (simp_all; done))))
                      | (refine op_load1_own ?_ 3 T rfl rfl (agOf _ rfl) rfl ?_; focus (first | exact fun _ => rfl | (refine wanted_of rfl ?_; first | rfl | assumption | (rw [Bool.eq_false_iff]; assumption) | (simp only [decide_eq_false_iff_not, decide_eq_true_eq]; omega) | (simp; done) | (simp; omega) | (simp_all; done))))
                      | (refine op_loads_own ?_ 0 T rfl rfl (agOf _ rfl) (szOf _ rfl) ?_; focus (first | exact fun _ => rfl | (refine wanted_of rfl ?_; first | rfl | assumption | (rw [Bool.eq_false_iff]; assumption) | (simp only [decide_eq_false_iff_not, decide_eq_true_eq]; omega) | (simp; done) | (simp; omega) | (simp_all; done))))
                      | (refine op_loads_own ?_ 1 T rfl rfl (agOf _ rfl) (szOf _ rfl) ?_; focus (first | exact fun _ => rfl | (refine wanted_of rfl ?_; first | rfl | assumption | (rw [Bool.eq_false_iff]; assumption) | (simp only [decide_eq_false_iff_not, decide_eq_true_eq]; omega) | (simp; done) | (simp; omega) | (simp_all; done))))
                      | (refine op_loads_own ?_ 2 T rfl rfl (agOf _ rfl) (szOf _ rfl) ?_; focus (first | exact fun _ => rfl | (refine wanted_of rfl ?_; first | rfl | assumption | (rw [Bool.eq_false_iff]; assumption) | (simp only [decide_eq_false_iff_not, decide_eq_true_eq]; omega) | (simp; done) | (simp; omega) | (simp_all; done))))); (try simp only [Act.put, List.setIfInBounds_toArray, List.set_cons_succ, List.set_cons_zero]))
                    | ((with_reducible refine is_store ?_); (first
                      | (refine op_store_own ?_ 0 T rfl rfl rfl (szOf _ rfl) (Nat.le_of_ble_eq_true rfl) rfl ?_; focus (first | exact fun _ => rfl | (refine wanted_of rfl ?_; first | rfl | assumption | (rw [Bool.eq_false_iff]; assumption) | (simp only [decide_eq_false_iff_not, decide_eq_true_eq]; omega) | (simp; done) | (simp; omega) | (simp_all; done))))
                      | (refine op_store_own ?_ 1 T rfl rfl rfl (szOf _ rfl) (Nat.le_of_ble_eq_true rfl) rfl ?_; focus (first | exact fun _ => rfl | (refine wanted_of rfl ?_; first | rfl | assumption | (rw [Bool.eq_false_iff]; assumption) | (simp only [decide_eq_false_iff_not, decide_eq_true_eq]; omega) | (simp; done) | (simp; omega) | (simp_all; done))))
                      | (refine op_store_own ?_ 2 T rfl rfl rfl (szOf _ rfl) (Nat.le_of_ble_eq_true rfl) rfl ?_; focus (first | exact fun _ => rfl | (refine wanted_of rfl ?_; first | rfl | assumption | (rw [Bool.eq_false_iff]; assumption) | (simp only [decide_eq_false_iff_not, decide_eq_true_eq]; omega) | (simp; done) | (simp; omega) | (simp_all; done))))
                      | (refine op_store_own ?_ 3 T rfl rfl rfl (szOf _ rfl) (Nat.le_of_ble_eq_true rfl) rfl ?_; focus (first | exact fun _ => rfl | (refine wanted_of rfl ?_; first | rfl | assumption | (rw [Bool.eq_false_iff]; assumption) | (simp only [decide_eq_false_iff_not, decide_eq_true_eq]; omega) | (simp; done) | (simp; omega) | (simp_all; done))))); clear T; intro w T; (try simp only [puts, Value.cells, List.set_cons_zero, List.set_cons_succ, List.setIfInBounds_toArray, Nat.reduceAdd, Nat.zero_add] at T); (try simp only [Act.put, List.setIfInBounds_toArray, List.set_cons_succ, List.set_cons_zero])))
                  (try simp only [Exit.inBlock, Exit.then]); refine retct_of 0 rfl T rfl rfl rfl (agOf _ rfl) (szOf _ rfl) rfl ?_
                  exact ⟨by rw [Hq.out, Hex.out]; rfl, T.below⟩
                | true =>
                  have Hdg := hid hdg; clear hdg
                  have h6 := expDig_le (u.tail) (digitsB_all Hdg.out)
                  go_upto_if 78 with (first
                    | (go_at_call 39; refine (TrimLeft_0 _ _).mono ?_; rintro e w ⟨rfl, hb⟩; replace T := T.of_below hb; clear hb))
                  go_cut [4] (fun s4 wx => s4 = str (expDig (u.tail)) ∧ Tr w0 (fun _ => none) [] wx (fun _ => none) [(bs, .cells #[.bool false, .string ⟨#[]⟩, .int .i64 0] 61)])
                  case first =>
                    by_cases h6' : 6 < ((trimL0 (u.tail)).length : Int)
                    · go_wp2
                      all_goals
                        go_meet
                        exact ⟨by unfold expDig; rw [if_pos h6'], T⟩
                    · go_wp2
                      all_goals
                        go_meet
                        exact ⟨by unfold expDig; rw [if_neg (by omega)], T⟩
                  case rest =>
                    clear T
                    obtain ⟨rfl, T⟩ := hcut
                    have hel := expDig_len (u.tail)
                    simp only [List.length_cons] at hel
                    go_wp2_with (first
                      | (go_at_call 40; refine (Atoi_digs (48 :: expDig (u.tail)) (expDig_all _ (digitsB_all Hdg.out)) (by simp) (expDig_len (u.tail)) _).mono ?_; rintro e w ⟨rfl, hb⟩; replace T := T.of_below hb; clear hb))
                    all_goals
                      go_meet
                      refine ⟨_, rfl, ?_, ?_, hid ?_, T⟩
                    · omega
                    · omega
                    · rw [Hq.out, Hex.out]; rfl
            · have hul := hul rfl
              simp only [Bool.true_or, if_true, List.drop_one] at Hex
              go_upto_region 19 with fail
              obtain ⟨dg, hdg⟩ : ∃ d, digitsB (u.tail) = d := ⟨_, rfl⟩
              have hvl : (u.tail).length ≤ 1000000 := by first | omega | (simp; omega)
              go_upto_if 72 with (first
                | (go_at_call 38; refine (digits_calls _ hvl _).mono ?_; rintro e w ⟨rfl, hb⟩; replace T := T.of_below hb; clear hb))
              (try rw [hdg])
              rw [hdg] at Hex
              cases dg with
              | false =>
                clear hdg
                go_wp2_with (first
                  | ((with_reducible refine is_alloc ?_); (refine op_alloc ?_ (zrOf _ rfl) T ?_; focus (first | exact fun _ => rfl | (refine wanted_of rfl ?_; first | rfl | assumption | (rw [Bool.eq_false_iff]; assumption) | (simp only [decide_eq_false_iff_not, decide_eq_true_eq]; omega) | (simp; done) | (simp; omega) | (simp_all; done)))); clear T; intro w b T; (try simp only [puts, Value.cells, List.set_cons_zero, List.set_cons_succ, List.setIfInBounds_toArray, Nat.reduceAdd, Nat.zero_add] at T); (try simp only [Act.put, List.setIfInBounds_toArray, List.set_cons_succ, List.set_cons_zero]))
                  | ((with_reducible refine is_box ?_); (refine op_box ?_ rfl T ?_; focus (first | exact fun _ => rfl | (refine wanted_of rfl ?_; first | rfl | assumption | (rw [Bool.eq_false_iff]; assumption) | (simp only [decide_eq_false_iff_not, decide_eq_true_eq]; omega) | (simp; done) | (simp; omega) | (simp_all; done)))); clear T; intro w b T; (try simp only [puts, Value.cells, List.set_cons_zero, List.set_cons_succ, List.setIfInBounds_toArray, Nat.reduceAdd, Nat.zero_add] at T); (try simp only [Act.put, List.setIfInBounds_toArray, List.set_cons_succ, List.set_cons_zero]))
                  | ((with_reducible refine is_load ?_); (first
                    | (refine op_load1_own ?_ 0 T rfl rfl (agOf _ rfl) rfl ?_; focus (first | exact fun _ => rfl | (refine wanted_of rfl ?_; first | rfl | assumption | (rw [Bool.eq_false_iff]; assumption) | (simp only [decide_eq_false_iff_not, decide_eq_true_eq]; omega) | (simp; done) | (simp; omega) | (simp_all; done))))
                    | (refine op_load1_own ?_ 1 T rfl rfl (agOf _ rfl) rfl ?_; focus (first | exact fun _ => rfl | (refine wanted_of rfl ?_; first | rfl | assumption | (rw [Bool.eq_false_iff]; assumption) | (simp only [decide_eq_false_iff_not, decide_eq_true_eq]; omega) | (simp; done) | (simp; omega) | (simp_all; done))))
                    | (refine op_load1_own ?_ 2 T rfl rfl (agOf _ rfl) rfl ?_; focus (first | exact fun _ => rfl | (refine wanted_of rfl ?_; first | rfl | assumption | (rw [Bool.eq_false_iff]; assumption) | (simp only [decide_eq_false_iff_not, decide_eq_true_eq]; omega) | (simp; done) | (simp; omega) | (simp_all; done))))
                    | (refine op_load1_own ?_ 3 T rfl rfl (agOf _ rfl) rfl ?_; focus (first | exact fun _ => rfl | (refine wanted_of rfl ?_; first | rfl | assumption | (rw [Bool.eq_false_iff]; assumption) | (simp only [decide_eq_false_iff_not, decide_eq_true_eq]; omega) | (simp; done) | (simp; omega) | (simp_all; done))))
                    | (refine op_loads_own ?_ 0 T rfl rfl (agOf _ rfl) (szOf _ rfl) ?_; focus (first | exact fun _ => rfl | (refine wanted_of rfl ?_; first | rfl | assumption | (rw [Bool.eq_false_iff]; assumption) | (simp only [decide_eq_false_iff_not, decide_eq_true_eq]; omega) | (simp; done) | (simp; omega) | (simp_all; done))))
                    | (refine op_loads_own ?_ 1 T rfl rfl (agOf _ rfl) (szOf _ rfl) ?_; focus (first | exact fun _ => rfl | (refine wanted_of rfl ?_; first | rfl | assumption | (rw [Bool.eq_false_iff]; assumption) | (simp only [decide_eq_false_iff_not, decide_eq_true_eq]; omega) | (simp; done) | (simp; omega) | (simp_all; done))))
                    | (refine op_loads_own ?_ 2 T rfl rfl (agOf _ rfl) (szOf _ rfl) ?_; focus (first | exact fun _ => rfl | (refine wanted_of rfl ?_; first | rfl | assumption | (rw [Bool.eq_false_iff]; assumption) | (simp only [decide_eq_false_iff_not, decide_eq_true_eq]; omega) | (simp; done) | (simp; omega) | (simp_all; done))))); (try simp only [Act.put, List.setIfInBounds_toArray, List.set_cons_succ, List.set_cons_zero]))
                  | ((with_reducible refine is_store ?_); (first
                    | (refine op_store_own ?_ 0 T rfl rfl rfl (szOf _ rfl) (Nat.le_of_ble_eq_true rfl) rfl ?_; focus (first | exact fun _ => rfl | (refine wanted_of rfl ?_; first | rfl | assumption | (rw [Bool.eq_false_iff]; assumption) | (simp only [decide_eq_false_iff_not, decide_eq_true_eq]; omega) | (simp; done) | (simp; omega) | (simp_all; done))))
                    | (refine op_store_own ?_ 1 T rfl rfl rfl (szOf _ rfl) (Nat.le_of_ble_eq_true rfl) rfl ?_; focus (first | exact fun _ => rfl | (refine wanted_of rfl ?_; first | rfl | assumption | (rw [Bool.eq_false_iff]; assumption) | (simp only [decide_eq_false_iff_not, decide_eq_true_eq]; omega) | (simp; done) | (simp; omega) | (simp_all; done))))
                    | (refine op_store_own ?_ 2 T rfl rfl rfl (szOf _ rfl) (Nat.le_of_ble_eq_true rfl) rfl ?_; focus (first | exact fun _ => rfl | (refine wanted_of rfl ?_; first | rfl | assumption | (rw [Bool.eq_false_iff]; assumption) | (simp only [decide_eq_false_iff_not, decide_eq_true_eq]; omega) | (simp; done) | (simp; omega) | (simp_all; done))))
                    | (refine op_store_own ?_ 3 T rfl rfl rfl (szOf _ rfl) (Nat.le_of_ble_eq_true rfl) rfl ?_; focus (first | exact fun _ => rfl | (refine wanted_of rfl ?_; first | rfl | assumption | (rw [Bool.eq_false_iff]; assumption) | (simp only [decide_eq_false_iff_not, decide_eq_true_eq]; omega) | (simp; done) | (simp; omega) | (simp_all; done))))); clear T; intro w T; (try simp only [puts, Value.cells, List.set_cons_zero, List.set_cons_succ, List.setIfInBounds_toArray, Nat.reduceAdd, Nat.zero_add] at T); (try simp only [Act.put, List.setIfInBounds_toArray, List.set_cons_succ, List.set_cons_zero])))
                (try simp only [Exit.inBlock, Exit.then]); refine retct_of 0 rfl T rfl rfl rfl (agOf _ rfl) (szOf _ rfl) rfl ?_
                exact ⟨by rw [Hq.out, Hex.out]; rfl, T.below⟩
              | true =>
                have Hdg := hid hdg; clear hdg
                have h6 := expDig_le (u.tail) (digitsB_all Hdg.out)
                go_upto_if 78 with (first
                  | (go_at_call 39; refine (TrimLeft_0 _ _).mono ?_; rintro e w ⟨rfl, hb⟩; replace T := T.of_below hb; clear hb))
                go_cut [4] (fun s4 wx => s4 = str (expDig (u.tail)) ∧ Tr w0 (fun _ => none) [] wx (fun _ => none) [(bs, .cells #[.bool false, .string ⟨#[]⟩, .int .i64 0] 61)])
                case first =>
                  by_cases h6' : 6 < ((trimL0 (u.tail)).length : Int)
                  · go_wp2
                    all_goals
                      go_meet
                      exact ⟨by unfold expDig; rw [if_pos h6'], T⟩
                  · go_wp2
                    all_goals
                      go_meet
                      exact ⟨by unfold expDig; rw [if_neg (by omega)], T⟩
                case rest =>
                  clear T
                  obtain ⟨rfl, T⟩ := hcut
                  have hel := expDig_len (u.tail)
                  simp only [List.length_cons] at hel
                  go_wp2_with (first
                    | (go_at_call 40; refine (Atoi_digs (48 :: expDig (u.tail)) (expDig_all _ (digitsB_all Hdg.out)) (by simp) (expDig_len (u.tail)) _).mono ?_; rintro e w ⟨rfl, hb⟩; replace T := T.of_below hb; clear hb))
                  all_goals
                    go_meet
                    refine ⟨_, rfl, ?_, ?_, hid ?_, T⟩
                  · omega
                  · omega
                  · rw [Hq.out, Hex.out]; rfl
      case rest =>
        clear T Hp
        obtain ⟨e, rfl, he1, he2, Hp, T⟩ := hcut
        have hWl : W.length + 1 ≤ s.length := by simp only [List.length_cons] at hl1; omega
        go_wp2_with (first
    | ((with_reducible refine is_alloc ?_); (refine op_alloc ?_ (zrOf _ rfl) T ?_; focus (first | exact fun _ => rfl | (refine wanted_of rfl ?_; first | rfl | assumption | (rw [Bool.eq_false_iff]; assumption) | (simp only [decide_eq_false_iff_not, decide_eq_true_eq]; omega) | (simp; done) | (simp; omega) | (simp_all; done)))); clear T; intro w b T; (try simp only [puts, Value.cells, List.set_cons_zero, List.set_cons_succ, List.setIfInBounds_toArray, Nat.reduceAdd, Nat.zero_add] at T); (try simp only [Act.put, List.setIfInBounds_toArray, List.set_cons_succ, List.set_cons_zero]))
    | ((with_reducible refine is_box ?_); (refine op_box ?_ rfl T ?_; focus (first | exact fun _ => rfl | (refine wanted_of rfl ?_; first | rfl | assumption | (rw [Bool.eq_false_iff]; assumption) | (simp only [decide_eq_false_iff_not, decide_eq_true_eq]; omega) | (simp; done) | (simp; omega) | (simp_all; done)))); clear T; intro w b T; (try simp only [puts, Value.cells, List.set_cons_zero, List.set_cons_succ, List.setIfInBounds_toArray, Nat.reduceAdd, Nat.zero_add] at T); (try simp only [Act.put, List.setIfInBounds_toArray, List.set_cons_succ, List.set_cons_zero]))
    | ((with_reducible refine is_load ?_); (first
      | (refine op_load1_own ?_ 0 T rfl rfl (agOf _ rfl) rfl ?_; focus (first | exact fun _ => rfl | (refine wanted_of rfl ?_; first | rfl | assumption | (rw [Bool.eq_false_iff]; assumption) | (simp only [decide_eq_false_iff_not, decide_eq_true_eq]; omega) | (simp; done) | (simp; omega) | (simp_all; done))))
      | (refine op_load1_own ?_ 1 T rfl rfl (agOf _ rfl) rfl ?_; focus (first | exact fun _ => rfl | (refine wanted_of rfl ?_; first | rfl | assumption | (rw [Bool.eq_false_iff]; assumption) | (simp only [decide_eq_false_iff_not, decide_eq_true_eq]; omega) | (simp; done) | (simp; omega) | (simp_all; done))))
      | (refine op_load1_own ?_ 2 T rfl rfl (agOf _ rfl) rfl ?_; focus (first | exact fun _ => rfl | (refine wanted_of rfl ?_; first | rfl | assumption | (rw [Bool.eq_false_iff]; assumption) | (simp only [decide_eq_false_iff_not, decide_eq_true_eq]; omega) | (simp; done) | (simp; omega) | (simp_all; done))))
      | (refine op_load1_own ?_ 3 T rfl rfl (agOf _ rfl) rfl ?_; focus (first | exact fun _ => rfl | (refine wanted_of rfl ?_; first | rfl | assumption | (rw [Bool.eq_false_iff]; assumption) | (simp only [decide_eq_false_iff_not, decide_eq_true_eq]; omega) | (simp; done) | (simp; omega) | (simp_all; done))))
      | (refine op_loads_own ?_ 0 T rfl rfl (agOf _ rfl) (szOf _ rfl) ?_; focus (first | exact fun _ => rfl | (refine wanted_of rfl ?_; first | rfl | assumption | (rw [Bool.eq_false_iff]; assumption) | (simp only [decide_eq_false_iff_not, decide_eq_true_eq]; omega) | (simp; done) | (simp; omega) | (simp_all; done))))
      | (refine op_loads_own ?_ 1 T rfl rfl (agOf _ rfl) (szOf _ rfl) ?_; focus (first | exact fun _ => rfl | (refine wanted_of rfl ?_; first | rfl | assumption | (rw [Bool.eq_false_iff]; assumption) | (simp only [decide_eq_false_iff_not, decide_eq_true_eq]; omega) | (simp; done) | (simp; omega) | (simp_all; done))))
      | (refine op_loads_own ?_ 2 T rfl rfl (agOf _ rfl) (szOf _ rfl) ?_; focus (first | exact fun _ => rfl | (refine wanted_of rfl ?_; first | rfl | assumption | (rw [Bool.eq_false_iff]; assumption) | (simp only [decide_eq_false_iff_not, decide_eq_true_eq]; omega) | (simp; done) | (simp; omega) | (simp_all; done))))); (try simp only [Act.put, List.setIfInBounds_toArray, List.set_cons_succ, List.set_cons_zero]))
    | ((with_reducible refine is_store ?_); (first
      | (refine op_store_own ?_ 0 T rfl rfl rfl (szOf _ rfl) (Nat.le_of_ble_eq_true rfl) rfl ?_; focus (first | exact fun _ => rfl | (refine wanted_of rfl ?_; first | rfl | assumption | (rw [Bool.eq_false_iff]; assumption) | (simp only [decide_eq_false_iff_not, decide_eq_true_eq]; omega) | (simp; done) | (simp; omega) | (simp_all; done))))
      | (refine op_store_own ?_ 1 T rfl rfl rfl (szOf _ rfl) (Nat.le_of_ble_eq_true rfl) rfl ?_; focus (first | exact fun _ => rfl | (refine wanted_of rfl ?_; first | rfl | assumption | (rw [Bool.eq_false_iff]; assumption) | (simp only [decide_eq_false_iff_not, decide_eq_true_eq]; omega) | (simp; done) | (simp; omega) | (simp_all; done))))
      | (refine op_store_own ?_ 2 T rfl rfl rfl (szOf _ rfl) (Nat.le_of_ble_eq_true rfl) rfl ?_; focus (first | exact fun _ => rfl | (refine wanted_of rfl ?_; first | rfl | assumption | (rw [Bool.eq_false_iff]; assumption) | (simp only [decide_eq_false_iff_not, decide_eq_true_eq]; omega) | (simp; done) | (simp; omega) | (simp_all; done))))
      | (refine op_store_own ?_ 3 T rfl rfl rfl (szOf _ rfl) (Nat.le_of_ble_eq_true rfl) rfl ?_; focus (first | exact fun _ => rfl | (refine wanted_of rfl ?_; first | rfl | assumption | (rw [Bool.eq_false_iff]; assumption) | (simp only [decide_eq_false_iff_not, decide_eq_true_eq]; omega) | (simp; done) | (simp; omega) | (simp_all; done))))); clear T; intro w T; (try simp only [puts, Value.cells, List.set_cons_zero, List.set_cons_succ, List.setIfInBounds_toArray, Nat.reduceAdd, Nat.zero_add] at T); (try simp only [Act.put, List.setIfInBounds_toArray, List.set_cons_succ, List.set_cons_zero])))
        · (try simp only [Exit.inBlock, Exit.then]); refine retct_of 0 rfl T rfl rfl rfl (agOf _ rfl) (szOf _ rfl) rfl ?_
          have h512 := ‹512 < (s.length : Int)›
          exact ⟨by rw [Hp.out]; simp only [finS, if_pos h512]; rfl, T.below⟩
        · refine (made_calls _ _ _ ?_ ?_ ?_ _).mono ?_
          · simp only [List.length_cons, List.length_append]; omega
          · omega
          · omega
          · rintro e' w ⟨rfl, hb⟩; replace T := T.of_below hb; clear hb
            have h512 : ¬ 512 < (s.length : Int) := by have := ‹(s.length : Int) ≤ 512›; omega
            have hp := Hp.out
            simp only [finS, if_neg h512, List.cons_append] at hp
            generalize madeS neg (c :: (W ++ part)) (e - part.length) = r at *
            obtain ⟨⟨n1, n2, n3⟩, er⟩ := r
            have Hp2 := hid hp; clear hp Hp
            simp only [numRes, Nm.val]
            go_wp2_with (first
    | ((with_reducible refine is_alloc ?_); (refine op_alloc ?_ (zrOf _ rfl) T ?_; focus (first | exact fun _ => rfl | (refine wanted_of rfl ?_; first | rfl | assumption | (rw [Bool.eq_false_iff]; assumption) | (simp only [decide_eq_false_iff_not, decide_eq_true_eq]; omega) | (simp; done) | (simp; omega) | (simp_all; done)))); clear T; intro w b T; (try simp only [puts, Value.cells, List.set_cons_zero, List.set_cons_succ, List.setIfInBounds_toArray, Nat.reduceAdd, Nat.zero_add] at T); (try simp only [Act.put, List.setIfInBounds_toArray, List.set_cons_succ, List.set_cons_zero]))
    | ((with_reducible refine is_box ?_); (refine op_box ?_ rfl T ?_; focus (first | exact fun _ => rfl | (refine wanted_of rfl ?_; first | rfl | assumption | (rw [Bool.eq_false_iff]; assumption) | (simp only [decide_eq_false_iff_not, decide_eq_true_eq]; omega) | (simp; done) | (simp; omega) | (simp_all; done)))); clear T; intro w b T; (try simp only [puts, Value.cells, List.set_cons_zero, List.set_cons_succ, List.setIfInBounds_toArray, Nat.reduceAdd, Nat.zero_add] at T); (try simp only [Act.put, List.setIfInBounds_toArray, List.set_cons_succ, List.set_cons_zero]))
    | ((with_reducible refine is_load ?_); (first
      | (refine op_load1_own ?_ 0 T rfl rfl (agOf _ rfl) rfl ?_; focus (first | exact fun _ => rfl | (refine wanted_of rfl ?_; first | rfl | assumption | (rw [Bool.eq_false_iff]; assumption) | (simp only [decide_eq_false_iff_not, decide_eq_true_eq]; omega) | (simp; done) | (simp; omega) | (simp_all; done))))
      | (refine op_load1_own ?_ 1 T rfl rfl (agOf _ rfl) rfl ?_; focus (first | exact fun _ => rfl | (refine wanted_of rfl ?_; first | rfl | assumption | (rw [Bool.eq_false_iff]; assumption) | (simp only [decide_eq_false_iff_not, decide_eq_true_eq]; omega) | (simp; done) | (simp; omega) | (simp_all; done))))
      | (refine op_load1_own ?_ 2 T rfl rfl (agOf _ rfl) rfl ?_; focus (first | exact fun _ => rfl | (refine wanted_of rfl ?_; first | rfl | assumption | (rw [Bool.eq_false_iff]; assumption) | (simp only [decide_eq_false_iff_not, decide_eq_true_eq]; omega) | (simp; done) | (simp; omega) | (simp_all; done))))
      | (refine op_load1_own ?_ 3 T rfl rfl (agOf _ rfl) rfl ?_; focus (first | exact fun _ => rfl | (refine wanted_of rfl ?_; first | rfl | assumption | (rw [Bool.eq_false_iff]; assumption) | (simp only [decide_eq_false_iff_not, decide_eq_true_eq]; omega) | (simp; done) | (simp; omega) | (simp_all; done))))
      | (refine op_loads_own ?_ 0 T rfl rfl (agOf _ rfl) (szOf _ rfl) ?_; focus (first | exact fun _ => rfl | (refine wanted_of rfl ?_; first | rfl | assumption | (rw [Bool.eq_false_iff]; assumption) | (simp only [decide_eq_false_iff_not, decide_eq_true_eq]; omega) | (simp; done) | (simp; omega) | (simp_all; done))))
      | (refine op_loads_own ?_ 1 T rfl rfl (agOf _ rfl) (szOf _ rfl) ?_; focus (first | exact fun _ => rfl | (refine wanted_of rfl ?_; first | rfl | assumption | (rw [Bool.eq_false_iff]; assumption) | (simp only [decide_eq_false_iff_not, decide_eq_true_eq]; omega) | (simp; done) | (simp; omega) | (simp_all; done))))
      | (refine op_loads_own ?_ 2 T rfl rfl (agOf _ rfl) (szOf _ rfl) ?_; focus (first | exact fun _ => rfl | (refine wanted_of rfl ?_; first | rfl | assumption | (rw [Bool.eq_false_iff]; assumption) | (simp only [decide_eq_false_iff_not, decide_eq_true_eq]; omega) | (simp; done) | (simp; omega) | (simp_all; done))))); (try simp only [Act.put, List.setIfInBounds_toArray, List.set_cons_succ, List.set_cons_zero]))
    | ((with_reducible refine is_store ?_); (first
      | (refine op_store_own ?_ 0 T rfl rfl rfl (szOf _ rfl) (Nat.le_of_ble_eq_true rfl) rfl ?_; focus (first | exact fun _ => rfl | (refine wanted_of rfl ?_; first | rfl | assumption | (rw [Bool.eq_false_iff]; assumption) | (simp only [decide_eq_false_iff_not, decide_eq_true_eq]; omega) | (simp; done) | (simp; omega) | (simp_all; done))))
      | (refine op_store_own ?_ 1 T rfl rfl rfl (szOf _ rfl) (Nat.le_of_ble_eq_true rfl) rfl ?_; focus (first | exact fun _ => rfl | (refine wanted_of rfl ?_; first | rfl | assumption | (rw [Bool.eq_false_iff]; assumption) | (simp only [decide_eq_false_iff_not, decide_eq_true_eq]; omega) | (simp; done) | (simp; omega) | (simp_all; done))))
      | (refine op_store_own ?_ 2 T rfl rfl rfl (szOf _ rfl) (Nat.le_of_ble_eq_true rfl) rfl ?_; focus (first | exact fun _ => rfl | (refine wanted_of rfl ?_; first | rfl | assumption | (rw [Bool.eq_false_iff]; assumption) | (simp only [decide_eq_false_iff_not, decide_eq_true_eq]; omega) | (simp; done) | (simp; omega) | (simp_all; done))))
      | (refine op_store_own ?_ 3 T rfl rfl rfl (szOf _ rfl) (Nat.le_of_ble_eq_true rfl) rfl ?_; focus (first | exact fun _ => rfl | (refine wanted_of rfl ?_; first | rfl | assumption | (rw [Bool.eq_false_iff]; assumption) | (simp only [decide_eq_false_iff_not, decide_eq_true_eq]; omega) | (simp; done) | (simp; omega) | (simp_all; done))))); clear T; intro w T; (try simp only [puts, Value.cells, List.set_cons_zero, List.set_cons_succ, List.setIfInBounds_toArray, Nat.reduceAdd, Nat.zero_add] at T); (try simp only [Act.put, List.setIfInBounds_toArray, List.set_cons_succ, List.set_cons_zero])))
            (try simp only [Exit.inBlock, Exit.then]); refine retct_of 0 rfl T rfl rfl rfl (agOf _ rfl) (szOf _ rfl) rfl ?_
            exact ⟨by rw [Hp2.out]; rfl, T.below⟩
end Go.Proofs.YtjgnpaifdbanjaaDoor
