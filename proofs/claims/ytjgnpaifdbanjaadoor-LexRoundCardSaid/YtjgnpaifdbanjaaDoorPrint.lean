import Derived.Test.YtjgnpaifdbanjaaDoorScan
set_option linter.unusedSimpArgs false
set_option linter.unusedVariables false
namespace Go.Proofs.YtjgnpaifdbanjaaDoor
open Go.RowKit
set_option maxRecDepth 100000

/-! Print -/
theorem Tr.forget {w0 H0 L0 w H' L} (T : Tr w0 H0 L0 w H' L) : Tr w0 H0 L0 w H0 L :=
  { T with
    le := fun _ _ h => h
    new := fun _ h => .inl h
    inn := fun b c t h => T.inn b c t (T.le _ _ h)
    fresh := fun p hp => by
      refine ⟨?_, (T.fresh p hp).2⟩
      cases h : H0 p.1 with
      | none => rfl
      | some x => have := T.le _ _ h; rw [(T.fresh p hp).1] at this; cases this }

/-- a slice of tokens that nobody writes -/
def TokIn (H : Hp) (ao : Option Addr) (l : List Tk) : Prop :=
  l ≠ [] → ∃ b off c te, ao = some ⟨b, off, none⟩ ∧ H b = some (c, te) ∧ ∀ i t, l[i]? = some t → ∀ j, j < 3 → c[off + i * 3 + j]? = t.cells[j]?

def hexd (n : Nat) : UInt8 := if n < 10 then UInt8.ofNat (48 + n) else UInt8.ofNat (87 + n)
def escB (c : UInt8) : List UInt8 :=
  if c.toNat = 34 ∨ c.toNat = 92 then [92, c]
  else if c.toNat < 32 then [92, 117, 48, 48, hexd (c.toNat / 16), hexd (c.toNat % 16)] else [c]
def bodyTk (t : Tk) : List UInt8 := if (t.word != 2) = true then t.text else [34] ++ t.text.flatMap escB ++ [34]
def joinTk : List Tk → List UInt8
  | [] => []
  | t :: ts => bodyTk t ++ ts.flatMap fun t => 32 :: bodyTk t

def longT (t : Tk) : Bool := longS t.word t.text.length
def printS (l : List Tk) : List UInt8 × Int :=
  if l.all isS = false then ([], 1)
  else if (decide ((1024 : Int) < l.length) || l.any longT) = true then ([], 2)
  else if 4096 < (joinTk l).length then ([], 2) else (joinTk l, 0)

/-- how long a list of tokens may be here -/
def small (l : List Tk) : Prop := l.length ≤ 100000 ∧ ∀ t, t ∈ l → t.text.length ≤ 100000

theorem take_succ' {α : Type} (l : List α) (i : Nat) (t : α) (h : l[i]? = some t) : l.take (i + 1) = l.take i ++ [t] := by
  rw [List.take_add_one, h]; rfl

theorem join_snoc (l : List Tk) (i : Nat) (t : Tk) (h : l[i]? = some t) : joinTk (l.take (i + 1)) = (joinTk (l.take i) ++ (if i = 0 then [] else [32])) ++ bodyTk t := by
  have key : ∀ (xs : List Tk), joinTk (xs ++ [t]) = (joinTk xs ++ (if xs = [] then [] else [32])) ++ bodyTk t := by
    intro xs
    cases xs with
    | nil => simp [joinTk]
    | cons x xs => simp [joinTk]
  rw [take_succ' l i t h, key]
  have hi : i < l.length := by
    rcases Nat.lt_or_ge i l.length with h' | h'
    · exact h'
    · rw [List.getElem?_eq_none h'] at h; cases h
  congr 2
  cases i with
  | zero => simp
  | succ i =>
    have : l.take (i + 1) ≠ [] := by intro h; have hl := congrArg List.length h; rw [List.length_take, List.length_nil] at hl; omega
    rw [if_neg this, if_neg (by omega)]

theorem esc_len (l : List UInt8) : (l.flatMap escB).length ≤ 6 * l.length := by
  induction l with
  | nil => simp
  | cons c l ih =>
    rw [List.flatMap_cons, List.length_append, List.length_cons]
    have : (escB c).length ≤ 6 := by
      unfold escB
      split
      · simp
      · split <;> simp
    omega

theorem hexd_tab (n : Nat) (h : n < [48, 49, 50, 51, 52, 53, 54, 55, 56, 57, 97, 98, 99, 100, 101, 102].length) : ([48, 49, 50, 51, 52, 53, 54, 55, 56, 57, 97, 98, 99, 100, 101, 102] : List UInt8)[n] = hexd n := by
  have : ∀ n : Fin 16, ([48, 49, 50, 51, 52, 53, 54, 55, 56, 57, 97, 98, 99, 100, 101, 102] : List UInt8)[n.val] = hexd n.val := by decide +kernel
  exact this ⟨n, h⟩

set_option maxHeartbeats 1000000 in
theorem Print_calls (H : Hp) (hT : Tabs H) (ao : Option Addr) (cap : Nat) (l : List Tk) (hl : TokIn H ao l) (hsm : small l) (hj : ∀ k, (joinTk (l.take k)).length ≤ 8000000) (w0 : World) (hin : H.In w0) :
    Calls Tryd.prog 7 #[.slice ao l.length cap] w0 fun e w' => e = .returned (.tuple #[str (printS l).1, .int .i64 (printS l).2]) ∧ Below w0.heap.size w0 w' := by
  have T := Tr.start (St.nil hin)
  have HT := hid hT; have HL := hid hl; have Hsm := hid hsm; have Hj := hid hj; clear hT hin hl hj
  obtain ⟨hsm1, _⟩ := hsm
  go_enter Tryd.func7, Tryd.ntmps7
  go_upto_region 3 with fail
  go_loopg [2, 3, 4, 6, 17] (l.length) (fun n _ _ s4 _ s17 wr => ∃ (i : Nat), i ≤ l.length ∧ n = l.length - i ∧ s17 = .int .i64 i ∧ s4 = .bool (decide ((1024 : Int) < l.length) || (l.take i).any longT) ∧ Hid ((l.take i).all isS = true) ∧ Tr w0 H [] wr H [])
  case atStart => exact ⟨0, by omega, by omega, rfl, by simp, hid rfl, T⟩
  case round =>
    clear T
    obtain ⟨i, hi, hn, rfl, rfl, Hall, T⟩ := hrel
    have Hn := hid hn; clear hn
    generalize hfar : (decide ((1024 : Int) < l.length) || (l.take i).any longT) = far at *
    have Hfar := hid hfar; clear hfar
    rcases Nat.lt_or_ge i l.length with hlt | hge
    · obtain ⟨b, off, c, te, rfl, hb, hc⟩ := HL.out (by rintro rfl; simp at hlt)
      obtain ⟨t, ht⟩ : ∃ t, l[i]? = some t := ⟨_, List.getElem?_eq_getElem hlt⟩
      obtain ⟨wd, tx, at_⟩ := t
      have Hb := hid hb
      have Hc : Hid (∀ j, j < (#[.int .i64 wd, str tx, .int .i64 at_] : Array Value).size → c[off + i * 3 + j]? = (#[.int .i64 wd, str tx, .int .i64 at_] : Array Value)[j]?) :=
        hid (fun j hj => by have := hc i _ ht j hj; rw [this]; simp [Tk.cells])
      have hxl : tx.length ≤ 1000000 := Nat.le_trans (Hsm.out.2 _ (List.mem_of_getElem? ht)) (by omega)
      have Hxl := hid hxl
      have Ht := hid ht
      clear hb hc ht hxl
      generalize his : isS ⟨wd, tx, at_⟩ = bs at *
      generalize hlg : longT ⟨wd, tx, at_⟩ = bl at *
      have His := hid his; have Hlg := hid hlg; clear his hlg
      cases bs
      · go_wp2_with (first
    | ((with_reducible refine is_load ?_); (refine op_loads_held ?_ T Hb.out rfl (agOf _ rfl) (szOf _ rfl) (vs := #[.int .i64 wd, str tx, .int .i64 at_]) Hc.out ?_; focus (first | exact fun _ => rfl | (refine wanted_of rfl ?_; first | rfl | assumption | (rw [Bool.eq_false_iff]; assumption) | (simp only [decide_eq_false_iff_not, decide_eq_true_eq]; omega) | (simp; done) | (simp; omega) | (simp_all; done)))); (try simp only [Act.put, List.setIfInBounds_toArray, List.set_cons_succ, List.set_cons_zero]))
    | (go_at_call 12; refine (is_calls H HT.out ⟨wd, tx, at_⟩ Hxl.out _ T.inn).mono ?_; rintro e w ⟨rfl, hb⟩; replace T := T.of_below hb; clear hb; rw [His.out])
    | ((with_reducible refine is_alloc ?_); (refine op_alloc ?_ (zrOf _ rfl) T ?_; focus (first | exact fun _ => rfl | (refine wanted_of rfl ?_; first | rfl | assumption | (rw [Bool.eq_false_iff]; assumption) | (simp only [decide_eq_false_iff_not, decide_eq_true_eq]; omega) | (simp; done) | (simp; omega) | (simp_all; done)))); clear T; intro w b T; (try simp only [puts, Value.cells, List.set_cons_zero, List.set_cons_succ, List.setIfInBounds_toArray, Nat.reduceAdd, Nat.zero_add] at T); (try simp only [Act.put, List.setIfInBounds_toArray, List.set_cons_succ, List.set_cons_zero]))
    | ((with_reducible refine is_box ?_); (refine op_box ?_ rfl T ?_; focus (first | exact fun _ => rfl | (refine wanted_of rfl ?_; first | rfl | assumption | (rw [Bool.eq_false_iff]; assumption) | (simp only [decide_eq_false_iff_not, decide_eq_true_eq]; omega) | (simp; done) | (simp; omega) | (simp_all; done)))); clear T; intro w b T; (try simp only [puts, Value.cells, List.set_cons_zero, List.set_cons_succ, List.setIfInBounds_toArray, Nat.reduceAdd, Nat.zero_add] at T); (try simp only [Act.put, List.setIfInBounds_toArray, List.set_cons_succ, List.set_cons_zero]))
    | ((with_reducible refine is_load ?_); (first
      | (refine op_load1_own ?_ 0 T rfl rfl (agOf _ rfl) rfl ?_; focus (first | exact fun _ => rfl | (refine wanted_of rfl ?_; first | rfl | assumption | (rw [Bool.eq_false_iff]; assumption) | (simp only [decide_eq_false_iff_not, decide_eq_true_eq]; omega) | (simp; done) | (simp; omega) | (simp_all; done))))
      | (refine op_load1_own ?_ 1 T rfl rfl (agOf _ rfl) rfl ?_; focus (first | exact fun _ => rfl | (refine wanted_of rfl ?_; first | rfl | assumption | (rw [Bool.eq_false_iff]; assumption) | (simp only [decide_eq_false_iff_not, decide_eq_true_eq]; omega) | (simp; done) | (simp; omega) | (simp_all; done))))
      | (refine op_load1_own ?_ 2 T rfl rfl (agOf _ rfl) rfl ?_; focus (first | exact fun _ => rfl | (refine wanted_of rfl ?_; first | rfl | assumption | (rw [Bool.eq_false_iff]; assumption) | (simp only [decide_eq_false_iff_not, decide_eq_true_eq]; omega) | (simp; done) | (simp; omega) | (simp_all; done))))
      | (refine op_load1_own ?_ 3 T rfl rfl (agOf _ rfl) rfl ?_; focus (first | exact fun _ => rfl | (refine wanted_of rfl ?_; first | rfl | assumption | (rw [Bool.eq_false_iff]; assumption) | (simp only [decide_eq_false_iff_not, decide_eq_true_eq]; omega) | (simp; done) | (simp; omega) | (simp_all; done))))
      | (refine op_loads_own ?_ 0 T rfl rfl (agOf _ rfl) (szOf _ rfl) ?_; focus (first | exact fun _ => rfl | (refine wanted_of rfl ?_; first | rfl | assumption | (rw [Bool.eq_false_iff]; assumption) | (simp only [decide_eq_false_iff_not, decide_eq_true_eq]; omega) | (simp; done) | (simp; omega) | (simp_all; done))))
      | (refine op_loads_own ?_ 1 T rfl rfl (agOf _ rfl) (szOf _ rfl) ?_; focus (first | exact fun _ => rfl | (refine wanted_of rfl ?_; first | rfl | assumption | (rw [Bool.eq_false_iff]; assumption) | (simp only [decide_eq_false_iff_not, decide_eq_true_eq]; omega) | (simp; done) | (simp; omega) | (simp_all; done))))
      | (refine op_loads_own ?_ 2 T rfl rfl (agOf _ rfl) (szOf _ rfl) ?_; focus (first | exact fun _ => rfl | (refine wanted_of rfl ?_; first | rfl | assumption | (rw [Bool.eq_false_iff]; assumption) | (simp only [decide_eq_false_iff_not, decide_eq_true_eq]; omega) | (simp; done) | (simp; omega) | (simp_all; done))))); (try simp only [Act.put, List.setIfInBounds_toArray, List.set_cons_succ, List.set_cons_zero]))
    | ((with_reducible refine is_store ?_); (first
      | (refine op_store_own ?_ 0 T rfl rfl rfl (szOf _ rfl) (Nat.le_of_ble_eq_true rfl) rfl ?_; focus (first | exact fun _ => rfl | (refine wanted_of rfl ?_; first | rfl | assumption | (rw [Bool.eq_false_iff]; assumption) | (simp only [decide_eq_false_iff_not, decide_eq_true_eq]; omega) | (simp; done) | (simp; omega) | (simp_all; done))))
      | (refine op_store_own ?_ 1 T rfl rfl rfl (szOf _ rfl) (Nat.le_of_ble_eq_true rfl) rfl ?_; focus (first | exact fun _ => rfl | (refine wanted_of rfl ?_; first | rfl | assumption | (rw [Bool.eq_false_iff]; assumption) | (simp only [decide_eq_false_iff_not, decide_eq_true_eq]; omega) | (simp; done) | (simp; omega) | (simp_all; done))))
      | (refine op_store_own ?_ 2 T rfl rfl rfl (szOf _ rfl) (Nat.le_of_ble_eq_true rfl) rfl ?_; focus (first | exact fun _ => rfl | (refine wanted_of rfl ?_; first | rfl | assumption | (rw [Bool.eq_false_iff]; assumption) | (simp only [decide_eq_false_iff_not, decide_eq_true_eq]; omega) | (simp; done) | (simp; omega) | (simp_all; done))))
      | (refine op_store_own ?_ 3 T rfl rfl rfl (szOf _ rfl) (Nat.le_of_ble_eq_true rfl) rfl ?_; focus (first | exact fun _ => rfl | (refine wanted_of rfl ?_; first | rfl | assumption | (rw [Bool.eq_false_iff]; assumption) | (simp only [decide_eq_false_iff_not, decide_eq_true_eq]; omega) | (simp; done) | (simp; omega) | (simp_all; done))))); clear T; intro w T; (try simp only [puts, Value.cells, List.set_cons_zero, List.set_cons_succ, List.setIfInBounds_toArray, Nat.reduceAdd, Nat.zero_add] at T); (try simp only [Act.put, List.setIfInBounds_toArray, List.set_cons_succ, List.set_cons_zero])))
        (try simp only [Exit.inBlock, Exit.then]); refine ret2_of rfl rfl rfl rfl ?_
        have hp : printS l = ([], 1) := by
          unfold printS; rw [if_pos]
          rw [Bool.eq_false_iff]; intro h
          have := List.all_eq_true.1 h _ (List.mem_of_getElem? Ht.out)
          rw [His.out] at this; cases this
        exact ⟨by rw [hp], T.below⟩
      · have hall : (l.take (i + 1)).all isS = true := by
          rw [take_succ' l i _ Ht.out, List.all_append, Hall.out]; simp [His.out]
        have hany : (decide ((1024 : Int) < l.length) || (l.take (i + 1)).any longT) = (far || bl) := by
          rw [take_succ' l i _ Ht.out, List.any_append, ← Bool.or_assoc, Hfar.out]; simp [Hlg.out]
        have Hall' := hid hall; have Hany := hid hany; clear hall hany
        cases far
        all_goals
          go_wp2_with (first
    | ((with_reducible refine is_load ?_); (refine op_loads_held ?_ T Hb.out rfl (agOf _ rfl) (szOf _ rfl) (vs := #[.int .i64 wd, str tx, .int .i64 at_]) Hc.out ?_; focus (first | exact fun _ => rfl | (refine wanted_of rfl ?_; first | rfl | assumption | (rw [Bool.eq_false_iff]; assumption) | (simp only [decide_eq_false_iff_not, decide_eq_true_eq]; omega) | (simp; done) | (simp; omega) | (simp_all; done)))); (try simp only [Act.put, List.setIfInBounds_toArray, List.set_cons_succ, List.set_cons_zero]))
    | (go_at_call 12; refine (is_calls H HT.out ⟨wd, tx, at_⟩ Hxl.out _ T.inn).mono ?_; rintro e w ⟨rfl, hb⟩; replace T := T.of_below hb; clear hb; rw [His.out])
    | (go_at_call 13; refine (long_calls ⟨wd, tx, at_⟩ _).mono ?_; rintro e w ⟨rfl, hb⟩; replace T := T.of_below hb; clear hb; rw [show longS wd tx.length = bl from Hlg.out])
    | ((with_reducible refine is_alloc ?_); (refine op_alloc ?_ (zrOf _ rfl) T ?_; focus (first | exact fun _ => rfl | (refine wanted_of rfl ?_; first | rfl | assumption | (rw [Bool.eq_false_iff]; assumption) | (simp only [decide_eq_false_iff_not, decide_eq_true_eq]; omega) | (simp; done) | (simp; omega) | (simp_all; done)))); clear T; intro w b T; (try simp only [puts, Value.cells, List.set_cons_zero, List.set_cons_succ, List.setIfInBounds_toArray, Nat.reduceAdd, Nat.zero_add] at T); (try simp only [Act.put, List.setIfInBounds_toArray, List.set_cons_succ, List.set_cons_zero]))
    | ((with_reducible refine is_box ?_); (refine op_box ?_ rfl T ?_; focus (first | exact fun _ => rfl | (refine wanted_of rfl ?_; first | rfl | assumption | (rw [Bool.eq_false_iff]; assumption) | (simp only [decide_eq_false_iff_not, decide_eq_true_eq]; omega) | (simp; done) | (simp; omega) | (simp_all; done)))); clear T; intro w b T; (try simp only [puts, Value.cells, List.set_cons_zero, List.set_cons_succ, List.setIfInBounds_toArray, Nat.reduceAdd, Nat.zero_add] at T); (try simp only [Act.put, List.setIfInBounds_toArray, List.set_cons_succ, List.set_cons_zero]))
    | ((with_reducible refine is_load ?_); (first
      | (refine op_load1_own ?_ 0 T rfl rfl (agOf _ rfl) rfl ?_; focus (first | exact fun _ => rfl | (refine wanted_of rfl ?_; first | rfl | assumption | (rw [Bool.eq_false_iff]; assumption) | (simp only [decide_eq_false_iff_not, decide_eq_true_eq]; omega) | (simp; done) | (simp; omega) | (simp_all; done))))
      | (refine op_load1_own ?_ 1 T rfl rfl (agOf _ rfl) rfl ?_; focus (first | exact fun _ => rfl | (refine wanted_of rfl ?_; first | rfl | assumption | (rw [Bool.eq_false_iff]; assumption) | (simp only [decide_eq_false_iff_not, decide_eq_true_eq]; omega) | (simp; done) | (simp; omega) | (simp_all; done))))
      | (refine op_load1_own ?_ 2 T rfl rfl (agOf _ rfl) rfl ?_; focus (first | exact fun _ => rfl | (refine wanted_of rfl ?_; first | rfl | assumption | (rw [Bool.eq_false_iff]; assumption) | (simp only [decide_eq_false_iff_not, decide_eq_true_eq]; omega) | (simp; done) | (simp; omega) | (simp_all; done))))
      | (refine op_load1_own ?_ 3 T rfl rfl (agOf _ rfl) rfl ?_; focus (first | exact fun _ => rfl | (refine wanted_of rfl ?_; first | rfl | assumption | (rw [Bool.eq_false_iff]; assumption) | (simp only [decide_eq_false_iff_not, decide_eq_true_eq]; omega) | (simp; done) | (simp; omega) | (simp_all; done))))
      | (refine op_loads_own ?_ 0 T rfl rfl (agOf _ rfl) (szOf _ rfl) ?_; focus (first | exact fun _ => rfl | (refine wanted_of rfl ?_; first | rfl | assumption | (rw [Bool.eq_false_iff]; assumption) | (simp only [decide_eq_false_iff_not, decide_eq_true_eq]; omega) | (simp; done) | (simp; omega) | (simp_all; done))))
      | (refine op_loads_own ?_ 1 T rfl rfl (agOf _ rfl) (szOf _ rfl) ?_; focus (first | exact fun _ => rfl | (refine wanted_of rfl ?_; first | rfl | assumption | (rw [Bool.eq_false_iff]; assumption) | (simp only [decide_eq_false_iff_not, decide_eq_true_eq]; omega) | (simp; done) | (simp; omega) | (simp_all; done))))
      | (refine op_loads_own ?_ 2 T rfl rfl (agOf _ rfl) (szOf _ rfl) ?_; focus (first | exact fun _ => rfl | (refine wanted_of rfl ?_; first | rfl | assumption | (rw [Bool.eq_false_iff]; assumption) | (simp only [decide_eq_false_iff_not, decide_eq_true_eq]; omega) | (simp; done) | (simp; omega) | (simp_all; done))))); (try simp only [Act.put, List.setIfInBounds_toArray, List.set_cons_succ, List.set_cons_zero]))
    | ((with_reducible refine is_store ?_); (first
      | (refine op_store_own ?_ 0 T rfl rfl rfl (szOf _ rfl) (Nat.le_of_ble_eq_true rfl) rfl ?_; focus (first | exact fun _ => rfl | (refine wanted_of rfl ?_; first | rfl | assumption | (rw [Bool.eq_false_iff]; assumption) | (simp only [decide_eq_false_iff_not, decide_eq_true_eq]; omega) | (simp; done) | (simp; omega) | (simp_all; done))))
      | (refine op_store_own ?_ 1 T rfl rfl rfl (szOf _ rfl) (Nat.le_of_ble_eq_true rfl) rfl ?_; focus (first | exact fun _ => rfl | (refine wanted_of rfl ?_; first | rfl | assumption | (rw [Bool.eq_false_iff]; assumption) | (simp only [decide_eq_false_iff_not, decide_eq_true_eq]; omega) | (simp; done) | (simp; omega) | (simp_all; done))))
      | (refine op_store_own ?_ 2 T rfl rfl rfl (szOf _ rfl) (Nat.le_of_ble_eq_true rfl) rfl ?_; focus (first | exact fun _ => rfl | (refine wanted_of rfl ?_; first | rfl | assumption | (rw [Bool.eq_false_iff]; assumption) | (simp only [decide_eq_false_iff_not, decide_eq_true_eq]; omega) | (simp; done) | (simp; omega) | (simp_all; done))))
      | (refine op_store_own ?_ 3 T rfl rfl rfl (szOf _ rfl) (Nat.le_of_ble_eq_true rfl) rfl ?_; focus (first | exact fun _ => rfl | (refine wanted_of rfl ?_; first | rfl | assumption | (rw [Bool.eq_false_iff]; assumption) | (simp only [decide_eq_false_iff_not, decide_eq_true_eq]; omega) | (simp; done) | (simp; omega) | (simp_all; done))))); clear T; intro w T; (try simp only [puts, Value.cells, List.set_cons_zero, List.set_cons_succ, List.setIfInBounds_toArray, Nat.reduceAdd, Nat.zero_add] at T); (try simp only [Act.put, List.setIfInBounds_toArray, List.set_cons_succ, List.set_cons_zero])))
          go_roundg (l.length - (i + 1))
          case measure => have := Hn.out; omega
          case rel => exact ⟨i + 1, by omega, by omega, by congr 1, by rw [Hany.out]; simp, Hall', T.drops⟩
    · obtain rfl : i = l.length := by omega
      have Hall2 : Hid (l.all isS = true) := hid (by have := Hall.out; rwa [List.take_length] at this)
      have Hfar2 : Hid ((decide ((1024 : Int) < l.length) || l.any longT) = far) := hid (by have := Hfar.out; rwa [List.take_length] at this)
      clear Hall Hfar hge
      cases far
      · have HP : Hid (printS l = if 4096 < (joinTk l).length then ([], 2) else (joinTk l, 0)) := hid (by
          unfold printS; rw [if_neg (by rw [Hall2.out]; simp), Hfar2.out, if_neg (by simp)])
        clear Hall2 Hfar2
        go_upto_region 13 with (first
    | ((with_reducible refine is_alloc ?_); (refine op_alloc ?_ (zrOf _ rfl) T ?_; focus (first | exact fun _ => rfl | (refine wanted_of rfl ?_; first | rfl | assumption | (rw [Bool.eq_false_iff]; assumption) | (simp only [decide_eq_false_iff_not, decide_eq_true_eq]; omega) | (simp; done) | (simp; omega) | (simp_all; done)))); clear T; intro w b T; (try simp only [puts, Value.cells, List.set_cons_zero, List.set_cons_succ, List.setIfInBounds_toArray, Nat.reduceAdd, Nat.zero_add] at T); (try simp only [Act.put, List.setIfInBounds_toArray, List.set_cons_succ, List.set_cons_zero]))
    | ((with_reducible refine is_box ?_); (refine op_box ?_ rfl T ?_; focus (first | exact fun _ => rfl | (refine wanted_of rfl ?_; first | rfl | assumption | (rw [Bool.eq_false_iff]; assumption) | (simp only [decide_eq_false_iff_not, decide_eq_true_eq]; omega) | (simp; done) | (simp; omega) | (simp_all; done)))); clear T; intro w b T; (try simp only [puts, Value.cells, List.set_cons_zero, List.set_cons_succ, List.setIfInBounds_toArray, Nat.reduceAdd, Nat.zero_add] at T); (try simp only [Act.put, List.setIfInBounds_toArray, List.set_cons_succ, List.set_cons_zero]))
    | ((with_reducible refine is_load ?_); (first
      | (refine op_load1_own ?_ 0 T rfl rfl (agOf _ rfl) rfl ?_; focus (first | exact fun _ => rfl | (refine wanted_of rfl ?_; first | rfl | assumption | (rw [Bool.eq_false_iff]; assumption) | (simp only [decide_eq_false_iff_not, decide_eq_true_eq]; omega) | (simp; done) | (simp; omega) | (simp_all; done))))
      | (refine op_load1_own ?_ 1 T rfl rfl (agOf _ rfl) rfl ?_; focus (first | exact fun _ => rfl | (refine wanted_of rfl ?_; first | rfl | assumption | (rw [Bool.eq_false_iff]; assumption) | (simp only [decide_eq_false_iff_not, decide_eq_true_eq]; omega) | (simp; done) | (simp; omega) | (simp_all; done))))
      | (refine op_load1_own ?_ 2 T rfl rfl (agOf _ rfl) rfl ?_; focus (first | exact fun _ => rfl | (refine wanted_of rfl ?_; first | rfl | assumption | (rw [Bool.eq_false_iff]; assumption) | (simp only [decide_eq_false_iff_not, decide_eq_true_eq]; omega) | (simp; done) | (simp; omega) | (simp_all; done))))
      | (refine op_load1_own ?_ 3 T rfl rfl (agOf _ rfl) rfl ?_; focus (first | exact fun _ => rfl | (refine wanted_of rfl ?_; first | rfl | assumption | (rw [Bool.eq_false_iff]; assumption) | (simp only [decide_eq_false_iff_not, decide_eq_true_eq]; omega) | (simp; done) | (simp; omega) | (simp_all; done))))
      | (refine op_loads_own ?_ 0 T rfl rfl (agOf _ rfl) (szOf _ rfl) ?_; focus (first | exact fun _ => rfl | (refine wanted_of rfl ?_; first | rfl | assumption | (rw [Bool.eq_false_iff]; assumption) | (simp only [decide_eq_false_iff_not, decide_eq_true_eq]; omega) | (simp; done) | (simp; omega) | (simp_all; done))))
      | (refine op_loads_own ?_ 1 T rfl rfl (agOf _ rfl) (szOf _ rfl) ?_; focus (first | exact fun _ => rfl | (refine wanted_of rfl ?_; first | rfl | assumption | (rw [Bool.eq_false_iff]; assumption) | (simp only [decide_eq_false_iff_not, decide_eq_true_eq]; omega) | (simp; done) | (simp; omega) | (simp_all; done))))
      | (refine op_loads_own ?_ 2 T rfl rfl (agOf _ rfl) (szOf _ rfl) ?_; focus (first | exact fun _ => rfl | (refine wanted_of rfl ?_; first | rfl | assumption | (rw [Bool.eq_false_iff]; assumption) | (simp only [decide_eq_false_iff_not, decide_eq_true_eq]; omega) | (simp; done) | (simp; omega) | (simp_all; done))))); (try simp only [Act.put, List.setIfInBounds_toArray, List.set_cons_succ, List.set_cons_zero]))
    | ((with_reducible refine is_store ?_); (first
      | (refine op_store_own ?_ 0 T rfl rfl rfl (szOf _ rfl) (Nat.le_of_ble_eq_true rfl) rfl ?_; focus (first | exact fun _ => rfl | (refine wanted_of rfl ?_; first | rfl | assumption | (rw [Bool.eq_false_iff]; assumption) | (simp only [decide_eq_false_iff_not, decide_eq_true_eq]; omega) | (simp; done) | (simp; omega) | (simp_all; done))))
      | (refine op_store_own ?_ 1 T rfl rfl rfl (szOf _ rfl) (Nat.le_of_ble_eq_true rfl) rfl ?_; focus (first | exact fun _ => rfl | (refine wanted_of rfl ?_; first | rfl | assumption | (rw [Bool.eq_false_iff]; assumption) | (simp only [decide_eq_false_iff_not, decide_eq_true_eq]; omega) | (simp; done) | (simp; omega) | (simp_all; done))))
      | (refine op_store_own ?_ 2 T rfl rfl rfl (szOf _ rfl) (Nat.le_of_ble_eq_true rfl) rfl ?_; focus (first | exact fun _ => rfl | (refine wanted_of rfl ?_; first | rfl | assumption | (rw [Bool.eq_false_iff]; assumption) | (simp only [decide_eq_false_iff_not, decide_eq_true_eq]; omega) | (simp; done) | (simp; omega) | (simp_all; done))))
      | (refine op_store_own ?_ 3 T rfl rfl rfl (szOf _ rfl) (Nat.le_of_ble_eq_true rfl) rfl ?_; focus (first | exact fun _ => rfl | (refine wanted_of rfl ?_; first | rfl | assumption | (rw [Bool.eq_false_iff]; assumption) | (simp only [decide_eq_false_iff_not, decide_eq_true_eq]; omega) | (simp; done) | (simp; omega) | (simp_all; done))))); clear T; intro w T; (try simp only [puts, Value.cells, List.set_cons_zero, List.set_cons_succ, List.setIfInBounds_toArray, Nat.reduceAdd, Nat.zero_add] at T); (try simp only [Act.put, List.setIfInBounds_toArray, List.set_cons_succ, List.set_cons_zero])))
        have HB := hid (BS.fresh b)
        obtain ⟨E, hE⟩ : ∃ E, E = [(b, Obj.cells #[.pointer none, .slice none 0 0] 42 (0, 0))] := ⟨_, rfl⟩
        rw [← hE] at HB T
        clear hE
        obtain ⟨bb, rfl⟩ : ∃ x, x = b := ⟨_, rfl⟩
        go_loopg [8, 9, 11, 33, 52] (l.length) (fun n _ _ _ s33 _ wr => ∃ (i : Nat) (E : Own), i ≤ l.length ∧ n = l.length - i ∧ s33 = .int .i64 i ∧ Hid (BS bb (joinTk (l.take i)) E) ∧ Tr w0 H [] wr H E)
        case atStart => exact ⟨0, E, by omega, by omega, rfl, HB, T⟩
        case round =>
          clear T HB E
          obtain ⟨i, E, hi, hn, rfl, HB, T⟩ := hrel
          have Hn := hid hn; clear hn
          rcases Nat.lt_or_ge i l.length with hlt | hge
          · obtain ⟨b, off, c, te, rfl, hb, hc⟩ := HL.out (by rintro rfl; simp at hlt)
            obtain ⟨t, ht⟩ : ∃ t, l[i]? = some t := ⟨_, List.getElem?_eq_getElem hlt⟩
            obtain ⟨wd, tx, at_⟩ := t
            have Hb := hid hb
            have Hc : Hid (∀ j, j < (#[.int .i64 wd, str tx, .int .i64 at_] : Array Value).size → c[off + i * 3 + j]? = (#[.int .i64 wd, str tx, .int .i64 at_] : Array Value)[j]?) :=
              hid (fun j hj => by have := hc i _ ht j hj; rw [this]; simp [Tk.cells])
            have hxl : tx.length ≤ 100000 := Hsm.out.2 _ (List.mem_of_getElem? ht)
            have Hjs : Hid (joinTk (l.take (i + 1)) = (joinTk (l.take i) ++ (if i = 0 then [] else [32])) ++ bodyTk ⟨wd, tx, at_⟩) := hid (join_snoc l i _ ht)
            have hj1 := Hj.out (i + 1)
            rw [Hjs.out, List.length_append] at hj1
            clear hb hc ht
            go_upto_region 15 with (first
    | ((with_reducible refine is_load ?_); (refine op_loads_held ?_ T Hb.out rfl (agOf _ rfl) (szOf _ rfl) (vs := #[.int .i64 wd, str tx, .int .i64 at_]) Hc.out ?_; focus (first | exact fun _ => rfl | (refine wanted_of rfl ?_; first | rfl | assumption | (rw [Bool.eq_false_iff]; assumption) | (simp only [decide_eq_false_iff_not, decide_eq_true_eq]; omega) | (simp; done) | (simp; omega) | (simp_all; done)))); (try simp only [Act.put, List.setIfInBounds_toArray, List.set_cons_succ, List.set_cons_zero]))
    | ((with_reducible refine is_alloc ?_); (refine op_alloc ?_ (zrOf _ rfl) T ?_; focus (first | exact fun _ => rfl | (refine wanted_of rfl ?_; first | rfl | assumption | (rw [Bool.eq_false_iff]; assumption) | (simp only [decide_eq_false_iff_not, decide_eq_true_eq]; omega) | (simp; done) | (simp; omega) | (simp_all; done)))); clear T; intro w b T; (try simp only [puts, Value.cells, List.set_cons_zero, List.set_cons_succ, List.setIfInBounds_toArray, Nat.reduceAdd, Nat.zero_add] at T); (try simp only [Act.put, List.setIfInBounds_toArray, List.set_cons_succ, List.set_cons_zero]))
    | ((with_reducible refine is_box ?_); (refine op_box ?_ rfl T ?_; focus (first | exact fun _ => rfl | (refine wanted_of rfl ?_; first | rfl | assumption | (rw [Bool.eq_false_iff]; assumption) | (simp only [decide_eq_false_iff_not, decide_eq_true_eq]; omega) | (simp; done) | (simp; omega) | (simp_all; done)))); clear T; intro w b T; (try simp only [puts, Value.cells, List.set_cons_zero, List.set_cons_succ, List.setIfInBounds_toArray, Nat.reduceAdd, Nat.zero_add] at T); (try simp only [Act.put, List.setIfInBounds_toArray, List.set_cons_succ, List.set_cons_zero]))
    | ((with_reducible refine is_load ?_); (first
      | (refine op_load1_own ?_ 0 T rfl rfl (agOf _ rfl) rfl ?_; focus (first | exact fun _ => rfl | (refine wanted_of rfl ?_; first | rfl | assumption | (rw [Bool.eq_false_iff]; assumption) | (simp only [decide_eq_false_iff_not, decide_eq_true_eq]; omega) | (simp; done) | (simp; omega) | (simp_all; done))))
      | (refine op_load1_own ?_ 1 T rfl rfl (agOf _ rfl) rfl ?_; focus (first | exact fun _ => rfl | (refine wanted_of rfl ?_; first | rfl | assumption | (rw [Bool.eq_false_iff]; assumption) | (simp only [decide_eq_false_iff_not, decide_eq_true_eq]; omega) | (simp; done) | (simp; omega) | (simp_all; done))))
      | (refine op_load1_own ?_ 2 T rfl rfl (agOf _ rfl) rfl ?_; focus (first | exact fun _ => rfl | (refine wanted_of rfl ?_; first | rfl | assumption | (rw [Bool.eq_false_iff]; assumption) | (simp only [decide_eq_false_iff_not, decide_eq_true_eq]; omega) | (simp; done) | (simp; omega) | (simp_all; done))))
      | (refine op_load1_own ?_ 3 T rfl rfl (agOf _ rfl) rfl ?_; focus (first | exact fun _ => rfl | (refine wanted_of rfl ?_; first | rfl | assumption | (rw [Bool.eq_false_iff]; assumption) | (simp only [decide_eq_false_iff_not, decide_eq_true_eq]; omega) | (simp; done) | (simp; omega) | (simp_all; done))))
      | (refine op_loads_own ?_ 0 T rfl rfl (agOf _ rfl) (szOf _ rfl) ?_; focus (first | exact fun _ => rfl | (refine wanted_of rfl ?_; first | rfl | assumption | (rw [Bool.eq_false_iff]; assumption) | (simp only [decide_eq_false_iff_not, decide_eq_true_eq]; omega) | (simp; done) | (simp; omega) | (simp_all; done))))
      | (refine op_loads_own ?_ 1 T rfl rfl (agOf _ rfl) (szOf _ rfl) ?_; focus (first | exact fun _ => rfl | (refine wanted_of rfl ?_; first | rfl | assumption | (rw [Bool.eq_false_iff]; assumption) | (simp only [decide_eq_false_iff_not, decide_eq_true_eq]; omega) | (simp; done) | (simp; omega) | (simp_all; done))))
      | (refine op_loads_own ?_ 2 T rfl rfl (agOf _ rfl) (szOf _ rfl) ?_; focus (first | exact fun _ => rfl | (refine wanted_of rfl ?_; first | rfl | assumption | (rw [Bool.eq_false_iff]; assumption) | (simp only [decide_eq_false_iff_not, decide_eq_true_eq]; omega) | (simp; done) | (simp; omega) | (simp_all; done))))); (try simp only [Act.put, List.setIfInBounds_toArray, List.set_cons_succ, List.set_cons_zero]))
    | ((with_reducible refine is_store ?_); (first
      | (refine op_store_own ?_ 0 T rfl rfl rfl (szOf _ rfl) (Nat.le_of_ble_eq_true rfl) rfl ?_; focus (first | exact fun _ => rfl | (refine wanted_of rfl ?_; first | rfl | assumption | (rw [Bool.eq_false_iff]; assumption) | (simp only [decide_eq_false_iff_not, decide_eq_true_eq]; omega) | (simp; done) | (simp; omega) | (simp_all; done))))
      | (refine op_store_own ?_ 1 T rfl rfl rfl (szOf _ rfl) (Nat.le_of_ble_eq_true rfl) rfl ?_; focus (first | exact fun _ => rfl | (refine wanted_of rfl ?_; first | rfl | assumption | (rw [Bool.eq_false_iff]; assumption) | (simp only [decide_eq_false_iff_not, decide_eq_true_eq]; omega) | (simp; done) | (simp; omega) | (simp_all; done))))
      | (refine op_store_own ?_ 2 T rfl rfl rfl (szOf _ rfl) (Nat.le_of_ble_eq_true rfl) rfl ?_; focus (first | exact fun _ => rfl | (refine wanted_of rfl ?_; first | rfl | assumption | (rw [Bool.eq_false_iff]; assumption) | (simp only [decide_eq_false_iff_not, decide_eq_true_eq]; omega) | (simp; done) | (simp; omega) | (simp_all; done))))
      | (refine op_store_own ?_ 3 T rfl rfl rfl (szOf _ rfl) (Nat.le_of_ble_eq_true rfl) rfl ?_; focus (first | exact fun _ => rfl | (refine wanted_of rfl ?_; first | rfl | assumption | (rw [Bool.eq_false_iff]; assumption) | (simp only [decide_eq_false_iff_not, decide_eq_true_eq]; omega) | (simp; done) | (simp; omega) | (simp_all; done))))); clear T; intro w T; (try simp only [puts, Value.cells, List.set_cons_zero, List.set_cons_succ, List.setIfInBounds_toArray, Nat.reduceAdd, Nat.zero_add] at T); (try simp only [Act.put, List.setIfInBounds_toArray, List.set_cons_succ, List.set_cons_zero])))
            obtain ⟨tb, rfl⟩ : ∃ x, x = b := ⟨_, rfl⟩
            replace T := T.settle
            generalize hH1 : Hp.put H tb #[.int .i64 wd, str tx, .int .i64 at_] 36 = H1 at T
            have Htb : Hid (H1 tb = some (#[.int .i64 wd, str tx, .int .i64 at_], 36)) := hid (by rw [← hH1]; exact Hp.put_self _ _ _ _)
            clear hH1
            generalize hB0 : joinTk (l.take i) ++ (if i = 0 then [] else [32]) = B0 at *
            have HB0 := hid hB0; clear hB0
            go_upto_if 39 with fail
            go_cut [] (fun wx => ∃ E, Hid (BS bb B0 E) ∧ Tr w0 H [] wx H1 E)
            case first =>
              rcases Nat.eq_zero_or_pos i with h0 | h0
              · subst h0
                go_wp2
                go_meet
                exact ⟨E, hid (by rw [← HB0.out]; simpa using HB.out), T⟩
              · have hb0 : decide ((0 : Int) < (i : Int)) = true := decide_eq_true (by omega)
                have hne : ¬ i = 0 := by omega
                have hlen : (joinTk (l.take i)).length ≤ 8000000 := Hj.out i
                have Hlen := hid hlen; clear hlen
                go_wp2_with (first
    | (go_at_call 14; refine (WriteByte_n HB.out T.st 32 (by first | with_reducible rfl | decide) (Nat.le_trans Hlen.out (by omega))).mono ?_; clear HB; rintro e w ⟨E', rfl, hB, CC⟩; replace T := T.trans CC; have HB := hid hB; clear CC hB))
                go_meet
                exact ⟨E', hid (by rw [← HB0.out, if_neg hne]; exact HB.out), T⟩
            case rest =>
              clear T HB E
              obtain ⟨E, HB, T⟩ := hcut
              cases hw2 : wd != 2
              · have hbody : bodyTk ⟨wd, tx, at_⟩ = [34] ++ tx.flatMap escB ++ [34] := by unfold bodyTk; rw [if_neg (by rw [hw2]; simp)]
                rw [hbody] at Hjs hj1
                have hb0 : B0.length ≤ 8000000 := by omega
                clear hj1 hbody
                go_upto_region 21 with (first
    | (go_at_call 14; refine (WriteByte_n HB.out T.st 34 (by first | with_reducible rfl | decide) (by omega)).mono ?_; clear HB; rintro e w ⟨E', rfl, hB, CC⟩; replace T := T.trans CC; have HB := hid hB; clear CC hB)
    | ((with_reducible refine is_convert ?_); (refine op_conv_bytes ?_ rfl Tryd.underlying9 (slOf _ rfl) Tryd.underlying5 T ?_; focus (first | exact fun _ => rfl | (refine wanted_of rfl ?_; first | rfl | assumption | (rw [Bool.eq_false_iff]; assumption) | (simp only [decide_eq_false_iff_not, decide_eq_true_eq]; omega) | (simp; done) | (simp; omega) | (simp_all; done)))); clear T; intro w cb cc ccap hcb T; have Hcb := hid hcb; clear hcb; (try simp only [Act.put, List.setIfInBounds_toArray, List.set_cons_succ, List.set_cons_zero]))
    | ((with_reducible refine is_load ?_); (refine op_load1_held ?_ T Htb.out rfl (agOf _ rfl) rfl ?_; focus (first | exact fun _ => rfl | (refine wanted_of rfl ?_; first | rfl | assumption | (rw [Bool.eq_false_iff]; assumption) | (simp only [decide_eq_false_iff_not, decide_eq_true_eq]; omega) | (simp; done) | (simp; omega) | (simp_all; done)))); (try simp only [Act.put, List.setIfInBounds_toArray, List.set_cons_succ, List.set_cons_zero])))
                replace T := T.settle
                generalize hH2 : Hp.put H1 cb cc 5 = H2 at T
                have Hcc : Hid (H2 cb = some (cc, 5)) := hid (by rw [← hH2]; exact Hp.put_self _ _ _ _)
                clear hH2
                go_loopg [11, 52] (tx.length) (fun n _ s52 wr => ∃ (k : Nat) (E : Own), k ≤ tx.length ∧ n = tx.length - k ∧ s52 = .int .i64 k ∧ Hid (BS bb (B0 ++ [34] ++ (tx.take k).flatMap escB) E) ∧ Tr w0 H [] wr H2 E)
                case atStart => exact ⟨0, _, by omega, by omega, rfl, hid (by simpa using HB.out), T⟩
                case round =>
                  clear T HB
                  obtain ⟨k, E, hk, hn2, rfl, HB, T⟩ := hrel
                  have Hn2 := hid hn2; clear hn2
                  rcases Nat.lt_or_ge k tx.length with hlt2 | hge2
                  · obtain ⟨ch, hch⟩ : ∃ ch, tx[k]? = some ch := ⟨_, List.getElem?_eq_getElem hlt2⟩
                    have Hck : Hid (cc[k]? = some (.int .u8 ch.toNat)) := hid (Hcb.out k ch hch)
                    have hfm : (tx.take (k + 1)).flatMap escB = (tx.take k).flatMap escB ++ escB ch := by rw [take_succ' tx k ch hch, List.flatMap_append]; simp
                    have hfl : ((tx.take k).flatMap escB).length ≤ 600000 := Nat.le_trans (esc_len (tx.take k)) (by simp; omega)
                    have Hfm := hid hfm; clear hfm hch
                    generalize hG : B0 ++ [34] ++ (tx.take k).flatMap escB = G at *
                    have hGl : G.length ≤ 8600001 := by rw [← hG, List.length_append, List.length_append]; simp only [List.length_cons, List.length_nil]; omega
                    have HG := hid hG; clear hG hfl
                    by_cases h34 : ch.toNat = 34 ∨ ch.toNat = 92
                    · have hesc : escB ch = [92, ch] := by unfold escB; rw [if_pos h34]
                      rcases h34 with h3 | h3
                      · obtain rfl : ch = 34 := UInt8.toNat_inj.1 h3
                        go_wp2_with (first
    | (go_at_call 14; refine (WriteByte_n HB.out T.st 92 (by first | with_reducible rfl | decide) (by (try simp); omega)).mono ?_; clear HB; rintro e w ⟨E', rfl, hB, CC⟩; replace T := T.trans CC; have HB := hid hB; clear CC hB)
    | (go_at_call 14; refine (WriteByte_n HB.out T.st 34 (by first | with_reducible rfl | decide) (by simp; omega)).mono ?_; clear HB; rintro e w ⟨E', rfl, hB, CC⟩; replace T := T.trans CC; have HB := hid hB; clear CC hB)
    | ((with_reducible refine is_load ?_); (refine op_load1_held ?_ T Hcc.out rfl (agOf _ rfl) Hck.out ?_; focus (first | exact fun _ => rfl | (refine wanted_of rfl ?_; first | rfl | assumption | (rw [Bool.eq_false_iff]; assumption) | (simp only [decide_eq_false_iff_not, decide_eq_true_eq]; omega) | (simp; done) | (simp; omega) | (simp_all; done)))); (try simp only [Act.put, List.setIfInBounds_toArray, List.set_cons_succ, List.set_cons_zero])))
                        go_roundg (tx.length - (k + 1))
                        case measure => have := Hn2.out; omega
                        case rel => exact ⟨k + 1, _, by omega, by omega, by congr 1, hid (by rw [Hfm.out, hesc, ← List.append_assoc, HG.out]; simpa using HB.out), T⟩
                      · obtain rfl : ch = 92 := UInt8.toNat_inj.1 h3
                        go_wp2_with (first
    | (go_at_call 14; refine (WriteByte_n HB.out T.st 92 (by first | with_reducible rfl | decide) (by (try simp); omega)).mono ?_; clear HB; rintro e w ⟨E', rfl, hB, CC⟩; replace T := T.trans CC; have HB := hid hB; clear CC hB)
    | ((with_reducible refine is_load ?_); (refine op_load1_held ?_ T Hcc.out rfl (agOf _ rfl) Hck.out ?_; focus (first | exact fun _ => rfl | (refine wanted_of rfl ?_; first | rfl | assumption | (rw [Bool.eq_false_iff]; assumption) | (simp only [decide_eq_false_iff_not, decide_eq_true_eq]; omega) | (simp; done) | (simp; omega) | (simp_all; done)))); (try simp only [Act.put, List.setIfInBounds_toArray, List.set_cons_succ, List.set_cons_zero])))
                        go_roundg (tx.length - (k + 1))
                        case measure => have := Hn2.out; omega
                        case rel => exact ⟨k + 1, _, by omega, by omega, by congr 1, hid (by rw [Hfm.out, hesc, ← List.append_assoc, HG.out]; simpa using HB.out), T⟩
                    · have hb34 : ((ch.toNat : Int) == 34) = false := by rw [Bool.eq_false_iff]; intro h; rw [beq_iff_eq] at h; omega
                      have hb92 : ((ch.toNat : Int) == 92) = false := by rw [Bool.eq_false_iff]; intro h; rw [beq_iff_eq] at h; omega
                      by_cases h32 : ch.toNat < 32
                      · have hesc : escB ch = [92, 117, 48, 48, hexd (ch.toNat / 16), hexd (ch.toNat % 16)] := by unfold escB; rw [if_neg h34, if_pos h32]
                        have hb32 : decide ((ch.toNat : Int) < 32) = true := decide_eq_true (by omega)
                        go_wp2_with (first
    | (go_at_call 15; refine (WriteString_calls HB.out T.st _ (by simp; omega)).mono ?_; clear HB; rintro e w ⟨E', rfl, hB, CC⟩; replace T := T.trans CC; have HB := hid hB; clear CC hB)
    | (go_at_call 14; refine (WriteByte_calls HB.out T.st _ (by simp; omega)).mono ?_; clear HB; rintro e w ⟨E', rfl, hB, CC⟩; replace T := T.trans CC; have HB := hid hB; clear CC hB)
    | ((with_reducible refine is_load ?_); (refine op_load1_held ?_ T Hcc.out rfl (agOf _ rfl) Hck.out ?_; focus (first | exact fun _ => rfl | (refine wanted_of rfl ?_; first | rfl | assumption | (rw [Bool.eq_false_iff]; assumption) | (simp only [decide_eq_false_iff_not, decide_eq_true_eq]; omega) | (simp; done) | (simp; omega) | (simp_all; done)))); (try simp only [Act.put, List.setIfInBounds_toArray, List.set_cons_succ, List.set_cons_zero])))
                        trace_state
                        go_roundg (tx.length - (k + 1))
                        case measure => have := Hn2.out; omega
                        case rel => exact ⟨k + 1, _, by omega, by omega, by congr 1, hid (by rw [Hfm.out, hesc, ← List.append_assoc, HG.out]; simpa [hexd_tab] using HB.out), T⟩
                      · have hesc : escB ch = [ch] := by unfold escB; rw [if_neg h34, if_neg h32]
                        have hb32 : decide ((ch.toNat : Int) < 32) = false := decide_eq_false (by omega)
                        go_wp2_with (first
    | (go_at_call 14; refine (WriteByte_n HB.out T.st ch (by first | with_reducible rfl | decide) (by omega)).mono ?_; clear HB; rintro e w ⟨E', rfl, hB, CC⟩; replace T := T.trans CC; have HB := hid hB; clear CC hB)
    | ((with_reducible refine is_load ?_); (refine op_load1_held ?_ T Hcc.out rfl (agOf _ rfl) Hck.out ?_; focus (first | exact fun _ => rfl | (refine wanted_of rfl ?_; first | rfl | assumption | (rw [Bool.eq_false_iff]; assumption) | (simp only [decide_eq_false_iff_not, decide_eq_true_eq]; omega) | (simp; done) | (simp; omega) | (simp_all; done)))); (try simp only [Act.put, List.setIfInBounds_toArray, List.set_cons_succ, List.set_cons_zero])))
                        go_roundg (tx.length - (k + 1))
                        case measure => have := Hn2.out; omega
                        case rel => exact ⟨k + 1, _, by omega, by omega, by congr 1, hid (by rw [Hfm.out, hesc, ← List.append_assoc, HG.out]; simpa using HB.out), T⟩
                  · obtain rfl : k = tx.length := by omega
                    rw [List.take_length] at HB
                    have hfl := esc_len tx
                    have hgl : (B0 ++ [34] ++ tx.flatMap escB).length ≤ 9000000 := by rw [List.length_append, List.length_append]; simp only [List.length_cons, List.length_nil]; omega
                    have Hgl := hid hgl; clear hgl hfl
                    go_wp2_with (first
    | (go_at_call 14; refine (WriteByte_n HB.out T.st 34 (by first | with_reducible rfl | decide) Hgl.out).mono ?_; clear HB; rintro e w ⟨E', rfl, hB, CC⟩; replace T := T.trans CC; have HB := hid hB; clear CC hB))
                    go_roundg (l.length - (i + 1))
                    case measure => have := Hn.out; omega
                    case rel => exact ⟨i + 1, _, by omega, by omega, by congr 1, hid (by rw [Hjs.out]; simpa [List.append_assoc] using HB.out), T.forget⟩
              · have hbody : bodyTk ⟨wd, tx, at_⟩ = tx := by unfold bodyTk; rw [if_pos hw2]
                rw [hbody] at Hjs hj1
                have hb0 : B0.length + tx.length ≤ 9000000 := by omega
                go_wp2_with (first
    | (go_at_call 15; refine (WriteString_calls HB.out T.st _ (by omega)).mono ?_; clear HB; rintro e w ⟨E', rfl, hB, CC⟩; replace T := T.trans CC; have HB := hid hB; clear CC hB)
    | ((with_reducible refine is_load ?_); (refine op_load1_held ?_ T Htb.out rfl (agOf _ rfl) rfl ?_; focus (first | exact fun _ => rfl | (refine wanted_of rfl ?_; first | rfl | assumption | (rw [Bool.eq_false_iff]; assumption) | (simp only [decide_eq_false_iff_not, decide_eq_true_eq]; omega) | (simp; done) | (simp; omega) | (simp_all; done)))); (try simp only [Act.put, List.setIfInBounds_toArray, List.set_cons_succ, List.set_cons_zero])))
                go_roundg (l.length - (i + 1))
                case measure => have := Hn.out; omega
                case rel => exact ⟨i + 1, _, by omega, by omega, by congr 1, hid (by rw [Hjs.out]; exact HB.out), T.forget⟩
          · obtain rfl : i = l.length := by omega
            rw [List.take_length] at HB
            have hjl : (joinTk l).length ≤ 8000000 := by have := Hj.out l.length; rwa [List.take_length] at this
            have Hjl := hid hjl
            generalize joinTk l = J at *
            by_cases h4 : 4096 < J.length
            · have hb4 : decide ((4096 : Int) < J.length) = true := decide_eq_true (by omega)
              go_wp2_with (first
    | (go_at_call 16; refine (Len_calls HB.out T.st).mono ?_; rintro e w ⟨rfl, hb⟩; replace T := T.of_below hb; clear hb))
              (try simp only [Exit.inBlock, Exit.then]); refine ret2_of rfl rfl rfl rfl ?_
              exact ⟨by rw [HP.out, if_pos h4], T.below⟩
            · have hb4 : decide ((4096 : Int) < J.length) = false := decide_eq_false (by omega)
              go_wp2_with (first
    | (go_at_call 16; refine (Len_calls HB.out T.st).mono ?_; rintro e w ⟨rfl, hb⟩; replace T := T.of_below hb; clear hb)
    | (go_at_call 17; refine (String_calls HB.out T.st (Nat.le_trans Hjl.out (by omega))).mono ?_; rintro e w ⟨rfl, CC⟩; replace T := T.trans CC; clear CC))
              (try simp only [Exit.inBlock, Exit.then]); refine ret2_of rfl rfl rfl rfl ?_
              exact ⟨by rw [HP.out, if_neg h4], T.below⟩
      · have hp : printS l = ([], 2) := by
          unfold printS; rw [if_neg (by rw [Hall2.out]; simp), Hfar2.out, if_pos rfl]
        have HP := hid hp; clear hp
        go_wp2
        (try simp only [Exit.inBlock, Exit.then]); refine ret2_of rfl rfl rfl rfl ?_
        exact ⟨by rw [HP.out], T.below⟩
end Go.Proofs.YtjgnpaifdbanjaaDoor
