import Derived.Test.YtjgnpaifdbanjaaDoorLib
import Derived.Deep.DeepCutAuto
set_option linter.unusedSimpArgs false
set_option linter.unusedVariables false
namespace Go.Proofs.YtjgnpaifdbanjaaDoor
open Go.RowKit
set_option maxRecDepth 100000

/-! package utf -/
/-- utf8's two tables lie among what is not written -/
def Tabs (H : Hp) : Prop := ∀ w : World, H.In w → Lib.Utf8Tabs 0 1 w
theorem Tabs.mono {H H' : Hp} (h : Tabs H) (hl : ∀ b x, H b = some x → H' b = some x) : Tabs H' :=
  fun w hin => h w fun b c t hb => hin b c t (hl _ _ hb)

def SomeBool (e : Ending) : Prop := ∃ r : Bool, e = .returned (.bool r)

set_option maxHeartbeats 4000000 in
theorem FullRune_calls (H : Hp) (hT : Tabs H) (s : List UInt8) (hs : s.length ≤ 1000000) (w0 : World) (hin : H.In w0) :
    Calls Tryd.prog 43 #[str s] w0 fun e w' => SomeBool e ∧ Below w0.heap.size w0 w' := by
  have T := Tr.start (St.nil hin)
  rcases s with _ | ⟨c, s⟩
  · go_enter Tryd.func43, Tryd.ntmps43
    go_wp2
    (try simp only [Exit.inBlock, Exit.then]); refine ret1_of rfl rfl rfl ?_
    exact ⟨⟨_, rfl⟩, T.below⟩
  · have h0 := fun w hin => (hT w hin).1 c.toNat c.toNat_lt
    have H0 := hid h0; clear h0
    have hlo := fun (i : Nat) (h : i < 16) (w : World) (hin : H.In w) => ((hT w hin).2 i h).1
    have hhi := fun (i : Nat) (h : i < 16) (w : World) (hin : H.In w) => ((hT w hin).2 i h).2
    have Hlo := hid hlo; have Hhi := hid hhi; clear hlo hhi hT
    have hc256 : (c.toNat : Int) < 256 := by have := c.toNat_lt; omega
    go_enter Tryd.func43, Tryd.ntmps43
    go_upto_region 5 with (first
      | ((with_reducible refine is_load ?_); (refine op_load1_cell ?_ (agOf _ rfl) rfl (H0.out _ T.inn) ?_; focus (first | exact fun _ => rfl | (refine wanted_of rfl ?_; first | rfl | assumption | (rw [Bool.eq_false_iff]; assumption) | (simp only [decide_eq_false_iff_not, decide_eq_true_eq]; omega) | (simp; done) | (simp; omega) | (simp_all; done)))); (try simp only [Act.put, List.setIfInBounds_toArray, List.set_cons_succ, List.set_cons_zero])))
    obtain ⟨x, hx⟩ : ∃ x, Lib.firstT c.toNat = x := ⟨_, rfl⟩
    have hcs := Lib.firstT_cases c.toNat
    rw [hx] at hcs ⊢
    clear hx
    rcases s with _ | ⟨d, _ | ⟨e, _ | ⟨f, s⟩⟩⟩
    all_goals
      rcases hcs with rfl | rfl | rfl | rfl | rfl | rfl | rfl | rfl | rfl
    all_goals
      have h8 : ∀ i < 16, (2 * i, Lib.accLo i, Lib.accHi i) = (2 * i, Lib.accLo i, Lib.accHi i) := fun _ _ => rfl
      clear h8
      go_upto_region 8 with (first
      | ((with_reducible refine is_load ?_); (first
        | (refine op_load2_cell ?_ (agOf _ rfl) (szOf _ rfl) rfl (Hlo.out 0 (by decide) _ T.inn) (Hhi.out 0 (by decide) _ T.inn) ?_; focus (first | exact fun _ => rfl | (refine wanted_of rfl ?_; first | rfl | assumption | (rw [Bool.eq_false_iff]; assumption) | (simp only [decide_eq_false_iff_not, decide_eq_true_eq]; omega) | (simp; done) | (simp; omega) | (simp_all; done))))
        | (refine op_load2_cell ?_ (agOf _ rfl) (szOf _ rfl) rfl (Hlo.out 1 (by decide) _ T.inn) (Hhi.out 1 (by decide) _ T.inn) ?_; focus (first | exact fun _ => rfl | (refine wanted_of rfl ?_; first | rfl | assumption | (rw [Bool.eq_false_iff]; assumption) | (simp only [decide_eq_false_iff_not, decide_eq_true_eq]; omega) | (simp; done) | (simp; omega) | (simp_all; done))))
        | (refine op_load2_cell ?_ (agOf _ rfl) (szOf _ rfl) rfl (Hlo.out 2 (by decide) _ T.inn) (Hhi.out 2 (by decide) _ T.inn) ?_; focus (first | exact fun _ => rfl | (refine wanted_of rfl ?_; first | rfl | assumption | (rw [Bool.eq_false_iff]; assumption) | (simp only [decide_eq_false_iff_not, decide_eq_true_eq]; omega) | (simp; done) | (simp; omega) | (simp_all; done))))
        | (refine op_load2_cell ?_ (agOf _ rfl) (szOf _ rfl) rfl (Hlo.out 3 (by decide) _ T.inn) (Hhi.out 3 (by decide) _ T.inn) ?_; focus (first | exact fun _ => rfl | (refine wanted_of rfl ?_; first | rfl | assumption | (rw [Bool.eq_false_iff]; assumption) | (simp only [decide_eq_false_iff_not, decide_eq_true_eq]; omega) | (simp; done) | (simp; omega) | (simp_all; done))))
        | (refine op_load2_cell ?_ (agOf _ rfl) (szOf _ rfl) rfl (Hlo.out 4 (by decide) _ T.inn) (Hhi.out 4 (by decide) _ T.inn) ?_; focus (first | exact fun _ => rfl | (refine wanted_of rfl ?_; first | rfl | assumption | (rw [Bool.eq_false_iff]; assumption) | (simp only [decide_eq_false_iff_not, decide_eq_true_eq]; omega) | (simp; done) | (simp; omega) | (simp_all; done))))); (try simp only [Act.put, List.setIfInBounds_toArray, List.set_cons_succ, List.set_cons_zero]))
      | ((with_reducible refine is_alloc ?_); (refine op_alloc ?_ (zrOf _ rfl) T ?_; focus (first | exact fun _ => rfl | (refine wanted_of rfl ?_; first | rfl | assumption | (rw [Bool.eq_false_iff]; assumption) | (simp only [decide_eq_false_iff_not, decide_eq_true_eq]; omega) | (simp; done) | (simp; omega) | (simp_all; done)))); clear T; intro w b T; (try simp only [puts, Value.cells, List.set_cons_zero, List.set_cons_succ, List.setIfInBounds_toArray, Nat.reduceAdd, Nat.zero_add] at T); (try simp only [Act.put, List.setIfInBounds_toArray, List.set_cons_succ, List.set_cons_zero]))
      | ((with_reducible refine is_box ?_); (refine op_box ?_ rfl T ?_; focus (first | exact fun _ => rfl | (refine wanted_of rfl ?_; first | rfl | assumption | (rw [Bool.eq_false_iff]; assumption) | (simp only [decide_eq_false_iff_not, decide_eq_true_eq]; omega) | (simp; done) | (simp; omega) | (simp_all; done)))); clear T; intro w b T; (try simp only [puts, Value.cells, List.set_cons_zero, List.set_cons_succ, List.setIfInBounds_toArray, Nat.reduceAdd, Nat.zero_add] at T); (try simp only [Act.put, List.setIfInBounds_toArray, List.set_cons_succ, List.set_cons_zero]))
      | ((with_reducible refine is_load ?_); (first
        | (refine op_load1_own ?_ 0 T rfl rfl (agOf _ rfl) rfl ?_; focus (first | exact fun _ => rfl | (refine wanted_of rfl ?_; first | rfl | assumption | (rw [Bool.eq_false_iff]; assumption) | (simp only [decide_eq_false_iff_not, decide_eq_true_eq]; omega) | (simp; done) | (simp; omega) | (simp_all; done))))
        | (refine op_load1_own ?_ 1 T rfl rfl (agOf _ rfl) rfl ?_; focus (first | exact fun _ => rfl | (refine wanted_of rfl ?_; first | rfl | assumption | (rw [Bool.eq_false_iff]; assumption) | (simp only [decide_eq_false_iff_not, decide_eq_true_eq]; omega) | (simp; done) | (simp; omega) | (simp_all; done))))
        | (refine op_load1_own ?_ 2 T rfl rfl (agOf _ rfl) rfl ?_; focus (first | exact fun _ => rfl | (refine wanted_of rfl ?_; first | rfl | assumption | (rw [Bool.eq_false_iff]; assumption) | (simp only [decide_eq_false_iff_not, decide_eq_true_eq]; omega) | (simp; done) | (simp; omega) | (simp_all; done))))
        | (refine op_load1_own ?_ 3 T rfl rfl (agOf _ rfl) rfl ?_; focus (first | exact fun _ => rfl | (refine wanted_of rfl ?_; first | rfl | assumption | (rw [Bool.eq_false_iff]; assumption) | (simp only [decide_eq_false_iff_not, decide_eq_true_eq]; omega) | (simp; done) | (simp; omega) | (simp_all; done))))
        | (refine op_loads_own ?_ 0 T rfl rfl (agOf _ rfl) (szOf _ rfl) ?_; focus (first | exact fun _ => rfl | (refine wanted_of rfl ?_; first | rfl | assumption | (rw [Bool.eq_false_iff]; assumption) | (simp only [decide_eq_false_iff_not, decide_eq_true_eq]; omega) | (simp; done) | (simp; omega) | (simp_all; done))))
        | (refine op_loads_own ?_ 1 T rfl rfl (agOf _ rfl) (szOf _ rfl) ?_; focus (first | exact fun _ => rfl | (refine wanted_of rfl ?_; first | rfl | assumption | (rw [Bool.eq_false_iff]; assumption) | (simp only [decide_eq_false_iff_not, decide_eq_true_eq]; omega) | (simp; done) | (simp; omega) | (simp_all; done))))
        | (refine op_loads_own ?_ 2 T rfl rfl (agOf _ rfl) (szOf _ rfl) ?_; focus (first | exact fun _ => rfl | (refine wanted_of rfl ?_; first | rfl | assumption | (rw [Bool.eq_false_iff]; assumption) | (simp only [decide_eq_false_iff_not, decide_eq_true_eq]; omega) | (simp; done) | (simp; omega) | (simp_all; done))))); (try simp only [Act.put, List.setIfInBounds_toArray, List.set_cons_succ, List.set_cons_zero]))
      | ((with_reducible refine is_store ?_); (first
        | (refine op_store_own ?_ 0 T rfl rfl rfl (szOf _ rfl) (Nat.le_of_ble_eq_true rfl) rfl ?_; focus (first | exact fun _ => rfl | (refine wanted_of rfl ?_; first | rfl | assumption | (rw [Bool.eq_false_iff]; assumption) | (simp only [decide_eq_false_iff_not, decide_eq_true_eq]; omega) | (simp; done) | (simp; omega) | (simp_all; done))))
        | (refine op_store_own ?_ 1 T rfl rfl rfl (szOf _ rfl) (Nat.le_of_ble_eq_true rfl) rfl ?_; focus (first | exact fun _ => rfl | (refine wanted_of rfl ?_; first | rfl | assumption | (rw [Bool.eq_false_iff]; assumption) | (simp only [decide_eq_false_iff_not, decide_eq_true_eq]; omega) | (simp; done) | (simp; omega) | (simp_all; done))))
        | (refine op_store_own ?_ 2 T rfl rfl rfl (szOf _ rfl) (Nat.le_of_ble_eq_true rfl) rfl ?_; focus (first | exact fun _ => rfl | (refine wanted_of rfl ?_; first | rfl | assumption | (rw [Bool.eq_false_iff]; assumption) | (simp only [decide_eq_false_iff_not, decide_eq_true_eq]; omega) | (simp; done) | (simp; omega) | (simp_all; done))))
        | (refine op_store_own ?_ 3 T rfl rfl rfl (szOf _ rfl) (Nat.le_of_ble_eq_true rfl) rfl ?_; focus (first | exact fun _ => rfl | (refine wanted_of rfl ?_; first | rfl | assumption | (rw [Bool.eq_false_iff]; assumption) | (simp only [decide_eq_false_iff_not, decide_eq_true_eq]; omega) | (simp; done) | (simp; omega) | (simp_all; done))))); clear T; intro w T; (try simp only [puts, Value.cells, List.set_cons_zero, List.set_cons_succ, List.setIfInBounds_toArray, Nat.reduceAdd, Nat.zero_add] at T); (try simp only [Act.put, List.setIfInBounds_toArray, List.set_cons_succ, List.set_cons_zero])))
      try ((try simp only [Exit.inBlock, Exit.then]); refine ret1_of rfl rfl rfl ?_; exact ⟨⟨_, rfl⟩, T.below⟩)
    all_goals
      have hb0 := cell_of_heap (off := 0) (T.own _ (List.mem_cons_self ..))
      have hb1 := cell_of_heap (off := 1) (T.own _ (List.mem_cons_self ..))
      simp only [List.getElem?_toArray, List.getElem?_cons_zero, List.getElem?_cons_succ] at hb0 hb1
      obtain ⟨lo, hc0⟩ : ∃ lo : Int, w.cell? ⟨b, 0, none⟩ = some (.int .u8 lo) := ⟨_, hb0⟩
      obtain ⟨hi, hc1⟩ : ∃ hi : Int, w.cell? ⟨b, 1, none⟩ = some (.int .u8 hi) := ⟨_, hb1⟩
      clear hb0 hb1
      have HT := hid T; clear T
      try
        (go_quiet (fail)
         go_wp2
         all_goals ((try simp only [Exit.inBlock, Exit.then]); refine ret1_of rfl rfl rfl ?_; exact ⟨⟨_, rfl⟩, (HT.out.drewN _).below⟩)
         done)
    all_goals
      rcases Classical.em ((d.toNat : Int) < lo) with h1 | h1
      · have hd1 : decide ((d.toNat : Int) < lo) = true := decide_eq_true h1
        clear h1
        go_quiet (fail)
        go_wp2
        all_goals ((try simp only [Exit.inBlock, Exit.then]); refine ret1_of rfl rfl rfl ?_; exact ⟨⟨_, rfl⟩, (HT.out.drewN _).below⟩)
      · have hd1 : decide ((d.toNat : Int) < lo) = false := decide_eq_false h1
        clear h1
        go_quiet (fail)
        go_wp2
        all_goals ((try simp only [Exit.inBlock, Exit.then]); refine ret1_of rfl rfl rfl ?_; exact ⟨⟨_, rfl⟩, (HT.out.drewN _).below⟩)
end Go.Proofs.YtjgnpaifdbanjaaDoor
