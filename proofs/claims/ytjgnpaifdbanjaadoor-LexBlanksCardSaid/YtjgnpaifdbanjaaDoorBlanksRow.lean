/- LexBlanks holds for every text, list of blanks and remark: where text and remark are at most 65536 bytes long, blanks behind the text, and a remark behind it, change nothing of its tokens. No condition. -/
import Derived.Test.YtjgnpaifdbanjaaDoorRow0
import Derived.Test.YtjgnpaifdbanjaaDoorBlanksWalk
import Derived.Carry
import Derived.ChangeOld
set_option linter.unusedSimpArgs false
set_option linter.unusedVariables false
namespace Go.Proofs.YtjgnpaifdbanjaaDoor
open Go.ChangeShapes Go.WideShapes Go.ChangeAt Go.RowKit
open Go.ChangeMaps (open_string shut_string)
set_option maxRecDepth 100000

/-! a row's begin: the whole heap is immutable -/
def allH (W : World) : Hp := fun b => match W.heap[b]? with | some (.cells c t _) => some (c, t) | _ => none
theorem allH_at {W : World} {b : Nat} {c : Array Value} {t : TypeId} {fz : Nat × Nat} (h : W.heap[b]? = some (.cells c t fz)) : allH W b = some (c, t) := by unfold allH; rw [h]
theorem allH_in (W : World) : (allH W).In W := by
  intro b c t h
  unfold allH at h
  split at h
  · rename_i c' t' fz hb
    cases h
    exact ⟨fz, hb⟩
  · cases h
theorem tabs_all {W : World} (h : Lib.Utf8Tabs 0 1 W) : Tabs (allH W) := by
  intro w hin
  exact ⟨fun c hc => cell_same hin (fun c t fz hb => allH_at hb) (h.1 c hc), fun i hi => ⟨cell_same hin (fun c t fz hb => allH_at hb) (h.2 i hi).1, cell_same hin (fun c t fz hb => allH_at hb) (h.2 i hi).2⟩⟩
theorem laidOut : laidOutB Tryd.prog = true := by kernel_rfl

theorem open_blanks {H : Type} {enc : TypeId × Value → H} {W : World} {a0 : Option Addr} {len0 cap0 : Nat} {d : DataW H} {p : List MemPlace} (h : DataW.Trod enc Tryd.prog W 0 (fun _ => true) true 32 (.slice a0 len0 cap0) d p) :
    ∃ bo zs cap, (Value.slice a0 len0 cap0) = .slice bo (List.length zs) cap ∧ IntIn (allH W) bo zs := by
  obtain ⟨fuel, hf⟩ := h
  rcases Go.ChangeShapes.open_ints Tryd.underlying32 Tryd.underlying3 (by kernel_rfl) hf with ⟨h1, _⟩ | ⟨a, len, cap, zs, h1, _, hle, _, hlen, _, hc, _⟩
  · have h1 : Value.slice a0 len0 cap0 = .slice none 0 0 := List.cons.inj h1 |>.1
    exact ⟨none, [], 0, h1, fun h => absurd rfl h⟩
  · have h1 : Value.slice a0 len0 cap0 = .slice (some a) len cap := List.cons.inj h1 |>.1
    rw [if_pos rfl] at hlen
    have hl : (zs.take len).length = len := by rw [List.length_take]; omega
    refine ⟨some a, zs.take len, cap, by rw [hl]; exact h1, ?_⟩
    intro hne
    have hpos : 0 < len := by
      rcases Nat.eq_zero_or_pos len with h0 | h0
      · subst h0; exact absurd rfl hne
      · exact h0
    obtain ⟨b, off, spot⟩ := a
    have cell : ∀ i, i < len → ∃ c te fz, W.heap[b]? = some (.cells c te fz) ∧ (i = 0 → spot = none) ∧ c[off + i]? = some (.int .i64 (zs.getD i 0)) := by
      intro i hi
      have := hc i (by omega)
      by_cases h0 : i = 0
      · subst h0
        unfold World.cell? at this
        simp only [Addr.add, if_true] at this
        cases hb : W.heap[b]? with
        | none => rw [hb] at this; cases this
        | some o =>
          rw [hb] at this
          cases o with
          | cells c te fz =>
            cases spot with
            | none => exact ⟨c, te, fz, rfl, fun _ => rfl, this⟩
            | some q => simp at this
          | _ => simp at this
      · unfold World.cell? at this
        simp only [Addr.add, if_neg h0] at this
        cases hb : W.heap[b]? with
        | none => rw [hb] at this; cases this
        | some o =>
          rw [hb] at this
          cases o with
          | cells c te fz => exact ⟨c, te, fz, rfl, fun h => absurd h h0, by simpa using this⟩
          | _ => simp at this
    obtain ⟨c, te, fz, hb, hsp, _⟩ := cell 0 hpos
    obtain rfl := hsp rfl
    refine ⟨b, off, c, te, rfl, allH_at hb, ?_⟩
    intro i z hi
    have hil : i < len := by
      rcases Nat.lt_or_ge i len with h' | h'
      · exact h'
      · rw [List.getElem?_eq_none (by omega)] at hi; cases hi
    obtain ⟨c', te', fz', hb', _, h3⟩ := cell i hil
    rw [hb] at hb'
    cases hb'
    rw [h3]
    rw [List.getElem?_take, if_pos hil] at hi
    rw [List.getD_eq_getElem?_getD, hi]
    rfl

set_option maxHeartbeats 2000000 in
theorem blanks_lifted (os : Os) (started : os.Started) (H : Type) (enc : TypeId × Value → H) :
    ReturnsInHanded {} Tryd.checked os 4 .any (fun w args => (Rows.lexBlanksSpec.pre enc Tryd.prog Tryd.f4 Rows.lexBlanksRow.domain false w args ∧ laidMetH Tryd.prog Rows.lexBlanksRow.laid w) ∧ sizedMet enc Tryd.prog Tryd.f4 (OpenSpec.ofChange Rows.lexBlanksSpec) false w args)
      (Rows.lexBlanksSpec.post enc Tryd.prog Tryd.f4 false true false false) := by
  refine returnsInHanded_of_change_and (C := Tryd.checked) (X := fun w _ => laidMetH Tryd.prog Rows.lexBlanksRow.laid w) (fun _ _ _ hh h => h.of_heap hh) own started (by kernel_rfl) Tryd.func4
    (ChangeSpec.witness_shaped (enc := enc) (C := Tryd.checked) (os := os) (X := fun w _ => laidMetH Tryd.prog Rows.lexBlanksRow.laid w) false (World.laidAll Tryd.prog os Rows.lexBlanksRow.laid) #[.string ⟨#[]⟩, .slice none 0 0, .string ⟨#[]⟩] 8 (World.laidAll_os _ _ _)
      (World.shaped_of_ZipB (by kernel_rfl) (by kernel_rfl)) (by kernel_rfl) (by kernel_rfl) (by kernel_rfl)
      (by rw [MakeChecks.laidMetH_plain _ _ _ (by kernel_rfl)]; exact laidMet_laidAll _ (by kernel_rfl) (by kernel_rfl))) ?_
  intro W base args ds gs before hval0 hW hc _ hL0 _
  have hval : ∀ (j : Nat) t v, Tryd.f4.params[j]? = some t → args[j]? = some v → Value.okWide Tryd.prog W .any base t v := hval0
  have hW' := hW
  obtain ⟨p, q, hA0, hV, rfl, _, _⟩ := hW
  have hA : DataW.TrodAll enc Tryd.prog W 0 (fun _ => true) true Tryd.f4.params.toList args.toList ds p := hA0
  rw [Tryd.params4] at hA hval
  have hlt : ∀ x ∈ p, x.block < W.heap.size := fun x hx => by simpa using hA0.lt x hx
  obtain ⟨v0, v1, v2, d0, d1, d2, p0, p1, p2, rfl, rfl, rfl, h0, h1, h2⟩ := trodAll_three hA
  obtain ⟨rfl, rfl⟩ := trodVars_none hV
  obtain ⟨s0, rfl, rfl, rfl, ws0⟩ := open_string Tryd.underlying9 (hval 0 9 v0 rfl rfl) h0
  obtain ⟨s2, rfl, rfl, rfl, ws2⟩ := open_string Tryd.underlying9 (hval 2 9 v2 rfl rfl) h2
  obtain ⟨a1, len1, cap1, rfl⟩ := okWide_slice Tryd.underlying32 (hval 1 32 v1 rfl rfl)
  obtain ⟨bo, zs, cap, he, hz⟩ := open_blanks (H := H) h1
  rw [he] at h1 hW'
  rw [he]
  clear he hval hval0
  have hL : laidMet Tryd.prog Rows.lexBlanksRow.laid W := by rw [← MakeChecks.laidMetH_plain _ _ _ (by kernel_rfl)]; exact hL0
  have hU : Lib.Utf8Tabs 0 1 W :=
    utf8Tabs_of_reads (ρ := Tryd.lays161_ren) { Tryd.lays161 with } ⟨by kernel_rfl, by kernel_rfl, by kernel_rfl, by kernel_rfl, by kernel_rfl, by kernel_rfl, by kernel_rfl⟩
      (Lib.laidMet.reads hL (.tail _ (.tail _ (.tail _ (.tail _ (.tail _ (.tail _ (.head _)))))))) (Lib.laidMet.reads hL (.tail _ (.tail _ (.tail _ (.head _)))))
  obtain ⟨l0, rfl⟩ : ∃ l : List UInt8, s0 = ⟨l.toArray⟩ := ⟨s0.data.toList, by cases s0; simp⟩
  obtain ⟨l2, rfl⟩ : ∃ l : List UInt8, s2 = ⟨l.toArray⟩ := ⟨s2.data.toList, by cases s2; simp⟩
  refine (LexBlanks_calls _ (tabs_all hU) l0 l2 zs bo cap hz W (allH_in W)).mono ?_
  rintro e W' ⟨rfl, bel⟩
  refine ⟨_, rfl, _, _, _, [], [] ++ (p1 ++ []), [], hW', ?_, ?_, ?_, bel.frame _, fun h => by cases h⟩
  · exact trodAll_mk1 (shut_bool Tryd.underlying4 _)
  · exact trodAll_mk3 (shut_string Tryd.underlying9 ws0) (Below.trod laidOut (by kernel_rfl) (of_decide_eq_true (by kernel_rfl)) h1 bel (fun x hx => hlt x (by simp [hx]))) (shut_string Tryd.underlying9 ws2)
  · rfl

theorem lexBlanks_holds : Rows.LexBlanksSaid :=
  OpenClaim.holds_of_wide 4 Tryd.f4 rfl rfl rfl rfl rfl rfl rfl ⟨rfl, rfl, rfl, rfl, rfl⟩ rfl rfl rfl rfl rfl (by kernel_rfl) Tryd.func4 (by kernel_rfl)
    (of_decide_eq_true (by kernel_rfl)) (by unfold Func.isWrapper; first | (rw [if_pos (by decide +kernel)]; kernel_rfl) | (rw [if_neg (by decide +kernel)]; exact ⟨rfl, rfl⟩))
    (fun os started H enc _ => blanks_lifted os started H enc)

theorem lexBlanks_card : Rows.LexBlanksCardSaid :=
  Claim7.holds_tied_plain_at .later [] [.data, .data, .data, .data, .sentinel, .sentinel, .pinned] true (true, "4e413196359aeba2d3590c15632a50446b65693d7f2dee9f702647c289ef773d") true lexBlanks_holds (fun _ h => by cases h) (by kernel_rfl) (fun _ h => by cases h) lexBlanks_row_tie rfl ⟨rfl, rfl⟩ (by kernel_rfl) rfl
    (fun f fn hf hfn => by
      obtain rfl : f = 4 := Option.some.inj ((show Tryd.prog.funcNamed "calamus/calamuslaw13.LexBlanks" = some 4 by kernel_rfl).symm.trans hf) |>.symm
      obtain rfl : fn = Tryd.f4 := (Option.some.inj (Tryd.func4.symm.trans hfn)).symm
      exact ⟨by kernel_rfl, fun j t ht => by
        rw [Tryd.params4] at ht
        have hm : t ∈ [9, 32, 9] := by simpa using Array.mem_of_getElem? ht
        have hall : ([9, 32, 9].all fun u => !Tryd.prog.wantsStandIn u) = true := by kernel_rfl
        exact (show Tryd.prog.wantsStandIn t = false by simpa using List.all_eq_true.1 hall t hm)⟩)
    (by kernel_rfl)
#print axioms lexBlanks_card
end Go.Proofs.YtjgnpaifdbanjaaDoor
