/- RunNil holds for every list of events: a machine that is nil tells no event and ErrNil, is not done and holds nothing, and the document's examples come out. No condition. -/
import Derived.Test.YtgklmecijeadlaaGreatDoorRunEval
import Derived.Test.YtgklmecijeadlaaGreatDoorTie
import Derived.Test.YtgklmecijeadlaaGreatDoorCards
import Derived.OpenShut
import Derived.LaidMore
import Derived.Lay
import Derived.ProofKit
import Derived.SizedLaws
import Derived.SevenTiedAt
import Derived.Stop.Joined
import Derived.Lib.LaidU8
import Derived.Carry
import Derived.ChangeOld
set_option linter.unusedSimpArgs false
set_option linter.unusedVariables false
namespace Go.Proofs.YtgklmecijeadlaaGreatDoor
open Go.ChangeShapes Go.WideShapes Go.ChangeAt Go.RowKit Ab
set_option maxRecDepth 100000

theorem own : ownKnob Tryz.prog.godebug = none := by kernel_rfl
theorem laidOut : laidOutB Tryz.prog = true := by kernel_rfl

set_option maxHeartbeats 2000000 in
theorem runNil_lifted (os : Os) (started : os.Started) (H : Type) (enc : TypeId × Value → H) :
    ReturnsInHanded {} Tryz.checked os 3 .any (fun w args => (Rows.runNilSpec.pre enc Tryz.prog Tryz.f3 Rows.runNilRow.domain false w args ∧ laidMetH Tryz.prog Rows.runNilRow.laid w) ∧ sizedMet enc Tryz.prog Tryz.f3 (OpenSpec.ofChange Rows.runNilSpec) false w args)
      (Rows.runNilSpec.post enc Tryz.prog Tryz.f3 false true false false) := by
  refine returnsInHanded_of_change_and (C := Tryz.checked) (X := fun w _ => laidMetH Tryz.prog Rows.runNilRow.laid w) (fun _ _ _ hh h => h.of_heap hh) own started (by kernel_rfl) Tryz.func3
    (ChangeSpec.witness_shaped (enc := enc) (C := Tryz.checked) (os := os) (X := fun w _ => laidMetH Tryz.prog Rows.runNilRow.laid w) false (World.laidAll Tryz.prog os Rows.runNilRow.laid) #[.slice none 0 0] 8 (World.laidAll_os _ _ _)
      (World.shaped_of_ZipB (by kernel_rfl) (by kernel_rfl)) (by kernel_rfl) (by kernel_rfl) (by kernel_rfl)
      (by rw [MakeChecks.laidMetH_plain _ _ _ (by kernel_rfl)]; exact laidMet_laidAll _ (by kernel_rfl) (by kernel_rfl))) ?_
  intro W base args ds gs before hval0 hW hc _ hL0 _
  have hW' := hW
  obtain ⟨p, q, hA0, hV, rfl, _, _⟩ := hW
  have hA : DataW.TrodAll enc Tryz.prog W 0 (fun _ => true) true Tryz.f3.params.toList args.toList ds p := hA0
  rw [Tryz.params3] at hA
  have hlt : ∀ x ∈ p, x.block < W.heap.size := fun x hx => by simpa using hA0.lt x hx
  obtain ⟨v0, d0, rfl, rfl, h0⟩ := trodAll_one hA
  obtain ⟨rfl, rfl⟩ := trodVars_none hV
  have hL : laidMet Tryz.prog Rows.runNilRow.laid W := by rw [← MakeChecks.laidMetH_plain _ _ _ (by kernel_rfl)]; exact hL0
  have hg : ∀ g row, tab.glob g = some row → Rel (Env.pure (heapH W)) (.iptr row 0) (.pointer (some ⟨g, 0, none⟩)) := by
    intro g row h
    have h' : globT g = some row := h
    unfold globT at h'
    rw [nbeq] at h'
    by_cases e : g = 2
    · subst e
      rw [decide_eq_true rfl, cond_true] at h'
      cases h'
      exact glob_strs (name := "calamus/lang.words") (by kernel_rfl) (by kernel_rfl) Tryz.underlying125 Tryz.underlying9 (by kernel_rfl) (by kernel_rfl) (Lib.laidMet.reads hL (.tail _ (.tail _ (.tail _ (.tail _ (.tail _ (.tail _ (.head _))))))))
    · rw [decide_eq_false e, cond_false] at h'; cases h'
  obtain ⟨σ', hrun⟩ := isTrue_iff runNil_eval
  refine (top_calls tab_ok ext_ok hg (callFunc_enter Tryz.func3 (by kernel_rfl) (by kernel_rfl) #[v0] W) hrun ⟨rfl, fun i a hi => by
    match i, hi with
    | 0, hi => cases hi; exact .junk
    | i + 1, hi => cases hi⟩).mono ?_
  rintro e W' ⟨v, E', rfl, hv, bel⟩
  cases hv
  refine ⟨_, rfl, _, _, _, [], p, [], hW', ?_, ?_, ?_, bel.frame _, fun h => by cases h⟩
  · exact trodAll_mk1 (shut_bool Tryz.underlying4 _)
  · exact trodAll_mk1 (Below.trod laidOut (by kernel_rfl) (of_decide_eq_true (by kernel_rfl)) h0 bel hlt)
  · rfl

theorem runNil_holds : Rows.RunNilSaid :=
  OpenClaim.holds_of_wide 3 Tryz.f3 rfl rfl rfl rfl rfl rfl rfl ⟨rfl, rfl, rfl, rfl, rfl⟩ rfl rfl rfl rfl rfl (by kernel_rfl) Tryz.func3 (by kernel_rfl)
    (of_decide_eq_true (by kernel_rfl)) (by unfold Func.isWrapper; first | (rw [if_pos (by decide +kernel)]; kernel_rfl) | (rw [if_neg (by decide +kernel)]; exact ⟨rfl, rfl⟩))
    (fun os started H enc _ => runNil_lifted os started H enc)

theorem runNil_card : Rows.RunNilCardSaid :=
  Claim7.holds_tied_plain_at .later [] [.data, .data, .data, .data, .sentinel, .sentinel, .data, .pinned] true (true, "29247eadf2ca4e79a5b23978d505b575f65a53b59c10ec22a4f1f5d0050a13a6") true runNil_holds (fun _ h => by cases h) (by kernel_rfl) (fun _ h => by cases h) runNil_row_tie rfl ⟨rfl, rfl⟩ (by kernel_rfl) rfl
    (fun f fn hf hfn => by
      obtain rfl : f = 3 := Option.some.inj ((show Tryz.prog.funcNamed "calamus/calamuslaw19.RunNil" = some 3 by kernel_rfl).symm.trans hf) |>.symm
      obtain rfl : fn = Tryz.f3 := (Option.some.inj (Tryz.func3.symm.trans hfn)).symm
      exact ⟨by kernel_rfl, fun j t ht => by
        rw [Tryz.params3] at ht
        have hm : t ∈ [22] := by simpa using Array.mem_of_getElem? ht
        have hall : ([22].all fun u => !Tryz.prog.wantsStandIn u) = true := by kernel_rfl
        exact (show Tryz.prog.wantsStandIn t = false by simpa using List.all_eq_true.1 hall t hm)⟩)
    (by kernel_rfl)
#print axioms runNil_card
end Go.Proofs.YtgklmecijeadlaaGreatDoor
