/- LexRound holds for every list of tokens and text: what is printed of tokens is scanned as the same tokens, and what is scanned of a text, and printed, is scanned as the same. No condition. -/
import Derived.Test.YtjgnpaifdbanjaaDoorRow0
import Derived.Test.YtjgnpaifdbanjaaDoorRoundWalk
import Derived.Carry
import Derived.ChangeOld
set_option linter.unusedSimpArgs false
set_option linter.unusedVariables false
namespace Go.Proofs.YtjgnpaifdbanjaaDoor
open Go.ChangeShapes Go.WideShapes Go.ChangeAt Go.RowKit
open Go.ChangeMaps (open_string shut_string)
set_option maxRecDepth 100000

/-! a row's begin: the whole heap is immutable -/
def allH (W : World) : Hp := fun b => match W.heap[b]? with | some (.cells c t _) => some (c, t) | _ => none
theorem allH_at {W : World} {b : Nat} {c : Array Value} {t : TypeId} {fz : Nat × Nat} (h : W.heap[b]? = some (.cells c t fz)) : allH W b = some (c, t) := by unfold allH; rw [h]
theorem allH_in (W : World) : (allH W).In W := by
  intro b c t h
  unfold allH at h
  split at h
  · rename_i c' t' fz hb
    cases h
    exact ⟨fz, hb⟩
  · cases h
theorem tabs_all {W : World} (h : Lib.Utf8Tabs 0 1 W) : Tabs (allH W) := by
  intro w hin
  exact ⟨fun c hc => cell_same hin (fun c t fz hb => allH_at hb) (h.1 c hc), fun i hi => ⟨cell_same hin (fun c t fz hb => allH_at hb) (h.2 i hi).1, cell_same hin (fun c t fz hb => allH_at hb) (h.2 i hi).2⟩⟩
theorem laidOut : laidOutB Tryd.prog = true := by kernel_rfl

def tkOf {H : Type} : DataW H → Tk
  | .agg [.lit (.int _ w), .lit (.string s), .lit (.int _ a)] => ⟨w, s, a⟩
  | _ => ⟨0, [], 0⟩

theorem weights_in {H : Type} {e : TypeId} : ∀ (l : List (DataW H)) (d : DataW H), d ∈ l → ∀ n ∈ d.weights Tryd.prog e, n ∈ DataW.weightsAll Tryd.prog e l
  | [], d, h, n, hn => by cases h
  | x :: l, d, h, n, hn => by
    unfold DataW.weightsAll
    rcases List.mem_cons.1 h with rfl | h
    · exact List.mem_append_left _ hn
    · exact List.mem_append_right _ (weights_in l d h n hn)

theorem tok_underlying : Tryd.prog.underlying 36 = some (.struct (Tryd.prog.fieldsOf 36)) := by kernel_rfl

theorem open_token {H : Type} {enc : TypeId × Value → H} {W : World} {n : Nat} {a : Addr} {y : DataW H × List MemPlace}
    (h : (W.cells? 0 a 3).bind (DataW.trod enc Tryd.prog W 0 (fun _ => true) true n 36) = some y) :
    ∃ (w : Int) (s : List UInt8) (z : Int), y.1 = .agg [.lit (.int .i64 w), .lit (.string s), .lit (.int .i64 z)] ∧ W.cell? (a.add 0) = some (.int .i64 w) ∧ W.cell? (a.add 1) = some (str s) ∧ W.cell? (a.add 2) = some (.int .i64 z) := by
  obtain ⟨cs, hcs, ht⟩ := Option.bind_eq_some_iff.1 h
  obtain ⟨_, hl, hc⟩ := World.cells?_some hcs
  obtain ⟨xs, m, rfl, rfl, hl2, hxl, hf⟩ := DataW.trod_struct tok_underlying ht
  obtain ⟨c0, c1, c2, rfl⟩ : ∃ c0 c1 c2, cs = [c0, c1, c2] := by
    match cs, hl with
    | [c0, c1, c2], _ => exact ⟨c0, c1, c2, rfl⟩
  have e0 : (Tryd.prog.fieldsOf 36)[0]? = some { name := "Word", type := 34, offset := 0, embedded := false, tag := "", pkgPath := "", byteOffset := 0 } := by kernel_rfl
  have e1 : (Tryd.prog.fieldsOf 36)[1]? = some { name := "Text", type := 9, offset := 1, embedded := false, tag := "", pkgPath := "", byteOffset := 8 } := by kernel_rfl
  have e2 : (Tryd.prog.fieldsOf 36)[2]? = some { name := "At", type := 3, offset := 2, embedded := false, tag := "", pkgPath := "", byteOffset := 24 } := by kernel_rfl
  have s3 : (Tryd.prog.fieldsOf 36).size = 3 := by kernel_rfl
  have z0 : Tryd.prog.cellsOf 34 = 1 := by kernel_rfl
  have z1 : Tryd.prog.cellsOf 9 = 1 := by kernel_rfl
  have z2 : Tryd.prog.cellsOf 3 = 1 := by kernel_rfl
  have f0 := hf 0 _ e0
  have f1 := hf 1 _ e1
  have f2 := hf 2 _ e2
  rw [s3] at hxl
  obtain ⟨x0, x1, x2, rfl⟩ : ∃ x0 x1 x2, xs = [x0, x1, x2] := by
    match xs, hxl with
    | [x0, x1, x2], _ => exact ⟨x0, x1, x2, rfl⟩
  simp only [z0, z1, z2, List.drop_zero, List.drop_succ_cons, List.take_succ_cons, List.take_zero, List.getElem?_cons_zero, List.getElem?_cons_succ] at f0 f1 f2
  obtain ⟨w, hw, rfl, _⟩ := DataW.trod_int (k := .i64) (by kernel_rfl) f0
  obtain ⟨sb, hs, rfl, _⟩ := DataW.trod_string (by kernel_rfl) f1
  obtain ⟨z, hz, rfl, _⟩ := DataW.trod_int (k := .i64) (by kernel_rfl) f2
  cases hw; cases hs; cases hz
  refine ⟨w, sb.data.toList, z, rfl, hc 0 (by omega), ?_, hc 2 (by omega)⟩
  rw [hc 1 (by omega)]
  cases sb
  simp

theorem open_tokens {H : Type} {enc : TypeId × Value → H} {W : World} {a0 : Option Addr} {len0 cap0 : Nat} {d : DataW H} {p : List MemPlace} (h : DataW.Trod enc Tryd.prog W 0 (fun _ => true) true 22 (.slice a0 len0 cap0) d p)
    (hz : ∀ n ∈ d.weights Tryd.prog 22, n ≤ reachBytes) :
    ∃ ao l cap, (Value.slice a0 len0 cap0) = .slice ao (List.length l) cap ∧ TokIn (allH W) ao l ∧ l.length ≤ 1152921504606846976 ∧ ∀ t ∈ l, t.text.length ≤ 1152921504606846976 := by
  have hrb : reachBytes ≤ 140737488355328 := by decide
  obtain ⟨fuel, hf⟩ := h
  have hce : Tryd.prog.cellsOf 36 = 3 := by kernel_rfl
  rcases DataW.trod_slice Tryd.underlying22 hf with ⟨h1, _⟩ | ⟨a, len, cap, elems, rest, n, _, h1, hx, _, hle, _, hlen, hel, _, _⟩
  · have h1 : Value.slice a0 len0 cap0 = .slice none 0 0 := List.cons.inj h1 |>.1
    exact ⟨none, [], 0, h1, fun h => absurd rfl h, by simp, fun t ht => by cases ht⟩
  · have h1 : Value.slice a0 len0 cap0 = .slice (some a) len cap := List.cons.inj h1 |>.1
    rw [hce] at hel
    have hd : d = .slice (elems.map (·.1)) (rest.map (·.1)) := congrArg Prod.fst hx
    have hll : (elems.map fun y => tkOf y.1).length = len := by rw [List.length_map]; exact hlen
    have tok : ∀ i, i < len → ∃ y w s z, elems[i]? = some y ∧ y.1 = .agg [.lit (.int .i64 w), .lit (.string s), .lit (.int .i64 z)] ∧ W.cell? ((a.add (i * 3)).add 0) = some (.int .i64 w) ∧ W.cell? ((a.add (i * 3)).add 1) = some (str s) ∧ W.cell? ((a.add (i * 3)).add 2) = some (.int .i64 z) := by
      intro i hi
      have := hel i hi
      obtain ⟨y, hy⟩ : ∃ y, elems[i]? = some y := ⟨_, List.getElem?_eq_getElem (by omega)⟩
      rw [hy] at this
      obtain ⟨w, s, z, k1, k2, k3, k4⟩ := open_token this
      exact ⟨y, w, s, z, hy, k1, k2, k3, k4⟩
    have hw : ∀ y ∈ elems, ∀ n ∈ y.1.weights Tryd.prog 36, n ≤ reachBytes := by
      intro y hy n hn
      refine hz n ?_
      rw [hd]
      unfold DataW.weights
      simp only [Tryd.underlying22]
      refine List.mem_cons_of_mem _ (List.mem_append_left _ ?_)
      exact weights_in _ y.1 (List.mem_map.2 ⟨y, hy, rfl⟩) n hn
    have hlr : len ≤ reachBytes := by
      have := hz ((elems.length + rest.length) * Tryd.prog.bytesOf 36) (by
        rw [hd]
        unfold DataW.weights
        simp only [Tryd.underlying22, List.length_map]
        exact List.mem_cons_self)
      have hb : Tryd.prog.bytesOf 36 = 32 := by kernel_rfl
      rw [hb] at this
      omega
    refine ⟨some a, elems.map fun y => tkOf y.1, cap, by rw [hll]; exact h1, ?_, by rw [hll]; omega, ?_⟩
    · intro hne
      have hpos : 0 < len := by
        rcases Nat.eq_zero_or_pos len with h0 | h0
        · rw [h0] at hll; exact absurd (List.length_eq_zero_iff.1 hll) hne
        · exact h0
      obtain ⟨b, off, spot⟩ := a
      have cell : ∀ k v, W.cell? ((Addr.mk b off spot).add k) = some v → ∃ c te fz, W.heap[b]? = some (.cells c te fz) ∧ (k = 0 → spot = none) ∧ c[off + k]? = some v := by
        intro k v this
        by_cases h0 : k = 0
        · subst h0
          unfold World.cell? at this
          simp only [Addr.add, if_true] at this
          cases hb : W.heap[b]? with
          | none => rw [hb] at this; cases this
          | some o =>
            rw [hb] at this
            cases o with
            | cells c te fz =>
              cases spot with
              | none => exact ⟨c, te, fz, rfl, fun _ => rfl, this⟩
              | some q => simp at this
            | _ => simp at this
        · unfold World.cell? at this
          simp only [Addr.add, if_neg h0] at this
          cases hb : W.heap[b]? with
          | none => rw [hb] at this; cases this
          | some o =>
            rw [hb] at this
            cases o with
            | cells c te fz => exact ⟨c, te, fz, rfl, fun h => absurd h h0, by simpa using this⟩
            | _ => simp at this
      have hadd : ∀ i j, ((Addr.mk b off spot).add i).add j = (Addr.mk b off spot).add (i + j) := by
        intro i j
        unfold Addr.add
        by_cases hi : i = 0
        · subst hi; simp
        · by_cases hj : j = 0
          · subst hj; simp [hi]
          · simp [hi, hj]; omega
      obtain ⟨_, w, _, _, _, _, k0, _, _⟩ := tok 0 hpos
      rw [hadd] at k0
      obtain ⟨c, te, fz, hb, hsp, _⟩ := cell _ _ k0
      obtain rfl := hsp rfl
      refine ⟨b, off, c, te, rfl, allH_at hb, ?_⟩
      intro i t hi j hj
      have hil : i < len := by
        rcases Nat.lt_or_ge i len with h' | h'
        · exact h'
        · rw [List.getElem?_eq_none (by omega)] at hi; cases hi
      obtain ⟨y, w, s, z, hy, hy1, k0, k1, k2⟩ := tok i hil
      rw [List.getElem?_map, hy] at hi
      cases hi
      show c[off + i * 3 + j]? = (tkOf y.1).cells[j]?
      rw [hy1, Nat.add_assoc]
      rw [hadd] at k0 k1 k2
      have out : ∀ k v, W.cell? ((Addr.mk b off none).add k) = some v → c[off + k]? = some v := by
        intro k v h
        obtain ⟨c', te', fz', hb', _, h3⟩ := cell k v h
        rw [hb] at hb'
        cases hb'
        exact h3
      match j, hj with
      | 0, _ => exact out _ _ k0
      | 1, _ => exact out _ _ k1
      | 2, _ => exact out _ _ k2
    · intro t ht
      obtain ⟨y, hy, rfl⟩ := List.mem_map.1 ht
      obtain ⟨i, hi⟩ := List.mem_iff_getElem?.1 hy
      have hil : i < len := by rw [← hlen]; exact (List.getElem?_eq_some_iff.1 hi).1
      obtain ⟨y', w, s, z, hy', hy1, _, _, _⟩ := tok i hil
      rw [hi] at hy'
      cases hy'
      show (tkOf y.1).text.length ≤ 1152921504606846976
      rw [hy1]
      have := hw y hy s.length (by
        rw [hy1]
        unfold DataW.weights
        rw [tok_underlying]
        simp only
        have hfs : ((Tryd.prog.fieldsOf 36).toList.map (·.type)) = [34, 9, 3] := by kernel_rfl
        rw [hfs]
        simp [DataW.weightsEach, DataW.weights])
      show s.length ≤ 1152921504606846976
      omega

set_option maxHeartbeats 2000000 in
theorem round_lifted (os : Os) (started : os.Started) (H : Type) (enc : TypeId × Value → H) :
    ReturnsInHanded {} Tryd.checked os 3 .any (fun w args => (Rows.lexRoundSpec.pre enc Tryd.prog Tryd.f3 Rows.lexRoundRow.domain false w args ∧ laidMetH Tryd.prog Rows.lexRoundRow.laid w) ∧ sizedMet enc Tryd.prog Tryd.f3 (OpenSpec.ofChange Rows.lexRoundSpec) false w args)
      (Rows.lexRoundSpec.post enc Tryd.prog Tryd.f3 false true false false) := by
  refine returnsInHanded_of_change_and (C := Tryd.checked) (X := fun w _ => laidMetH Tryd.prog Rows.lexRoundRow.laid w) (fun _ _ _ hh h => h.of_heap hh) own started (by kernel_rfl) Tryd.func3
    (ChangeSpec.witness_shaped (enc := enc) (C := Tryd.checked) (os := os) (X := fun w _ => laidMetH Tryd.prog Rows.lexRoundRow.laid w) false (World.laidAll Tryd.prog os Rows.lexRoundRow.laid) #[.slice none 0 0, .string ⟨#[]⟩] 8 (World.laidAll_os _ _ _)
      (World.shaped_of_ZipB (by kernel_rfl) (by kernel_rfl)) (by kernel_rfl) (by kernel_rfl) (by kernel_rfl)
      (by rw [MakeChecks.laidMetH_plain _ _ _ (by kernel_rfl)]; exact laidMet_laidAll _ (by kernel_rfl) (by kernel_rfl))) ?_
  intro W base args ds gs before hval0 hW hc hwt hL0 _
  have hval : ∀ (j : Nat) t v, Tryd.f3.params[j]? = some t → args[j]? = some v → Value.okWide Tryd.prog W .any base t v := hval0
  have hW' := hW
  obtain ⟨p, q, hA0, hV, rfl, _, _⟩ := hW
  have hA : DataW.TrodAll enc Tryd.prog W 0 (fun _ => true) true Tryd.f3.params.toList args.toList ds p := hA0
  rw [Tryd.params3] at hA hval
  have hlt : ∀ x ∈ p, x.block < W.heap.size := fun x hx => by simpa using hA0.lt x hx
  obtain ⟨v0, v1, d0, d1, p0, p1, rfl, rfl, rfl, h0, h1⟩ := trodAll_two hA
  obtain ⟨rfl, rfl⟩ := trodVars_none hV
  obtain ⟨s1, rfl, rfl, rfl, ws1⟩ := open_string Tryd.underlying9 (hval 1 9 v1 rfl rfl) h1
  obtain ⟨a1, len1, cap1, rfl⟩ := okWide_slice Tryd.underlying22 (hval 0 22 v0 rfl rfl)
  have hw0 : ∀ n ∈ d0.weights Tryd.prog 22, n ≤ reachBytes := by
    intro n hn
    have hp : Tryd.f3.params.toList = [22, 9] := by rw [Tryd.params3]
    have := List.all_eq_true.1 hwt n (DataW.weights_mem_each (j := 0) (t := 22) (d := d0) (by show (Tryd.f3.params.toList ++ _)[0]? = _; rw [hp]; rfl) rfl n hn)
    simpa using this
  obtain ⟨ao, l, cap, he, ht, hl1, hl2⟩ := open_tokens (H := H) h0 hw0
  rw [he] at h0 hW'
  rw [he]
  clear he hval hval0
  have hL : laidMet Tryd.prog Rows.lexRoundRow.laid W := by rw [← MakeChecks.laidMetH_plain _ _ _ (by kernel_rfl)]; exact hL0
  have hU : Lib.Utf8Tabs 0 1 W :=
    utf8Tabs_of_reads (ρ := Tryd.lays161_ren) { Tryd.lays161 with } ⟨by kernel_rfl, by kernel_rfl, by kernel_rfl, by kernel_rfl, by kernel_rfl, by kernel_rfl, by kernel_rfl⟩
      (Lib.laidMet.reads hL (.tail _ (.tail _ (.tail _ (.tail _ (.tail _ (.tail _ (.head _)))))))) (Lib.laidMet.reads hL (.tail _ (.tail _ (.tail _ (.head _)))))
  obtain ⟨x, rfl⟩ : ∃ x : List UInt8, s1 = ⟨x.toArray⟩ := ⟨s1.data.toList, by cases s1; simp⟩
  refine (LexRound_calls _ (tabs_all hU) ao cap l ht hl1 hl2 x W (allH_in W)).mono ?_
  rintro e W' ⟨rfl, bel⟩
  refine ⟨_, rfl, _, _, _, [], p0 ++ [], [], hW', ?_, ?_, ?_, bel.frame _, fun h => by cases h⟩
  · exact trodAll_mk1 (shut_bool Tryd.underlying4 _)
  · exact trodAll_mk2 (Below.trod laidOut (by kernel_rfl) (of_decide_eq_true (by kernel_rfl)) h0 bel (fun x hx => hlt x (by simp [hx]))) (shut_string Tryd.underlying9 ws1)
  · rfl

theorem lexRound_holds : Rows.LexRoundSaid :=
  OpenClaim.holds_of_wide 3 Tryd.f3 rfl rfl rfl rfl rfl rfl rfl ⟨rfl, rfl, rfl, rfl, rfl⟩ rfl rfl rfl rfl rfl (by kernel_rfl) Tryd.func3 (by kernel_rfl)
    (of_decide_eq_true (by kernel_rfl)) (by unfold Func.isWrapper; first | (rw [if_pos (by decide +kernel)]; kernel_rfl) | (rw [if_neg (by decide +kernel)]; exact ⟨rfl, rfl⟩))
    (fun os started H enc _ => round_lifted os started H enc)

theorem lexRound_card : Rows.LexRoundCardSaid :=
  Claim7.holds_tied_plain_at .later [] [.data, .data, .data, .data, .sentinel, .sentinel, .pinned] true (true, "4e413196359aeba2d3590c15632a50446b65693d7f2dee9f702647c289ef773d") true lexRound_holds (fun _ h => by cases h) (by kernel_rfl) (fun _ h => by cases h) lexRound_row_tie rfl ⟨rfl, rfl⟩ (by kernel_rfl) rfl
    (fun f fn hf hfn => by
      obtain rfl : f = 3 := Option.some.inj ((show Tryd.prog.funcNamed "calamus/calamuslaw13.LexRound" = some 3 by kernel_rfl).symm.trans hf) |>.symm
      obtain rfl : fn = Tryd.f3 := (Option.some.inj (Tryd.func3.symm.trans hfn)).symm
      exact ⟨by kernel_rfl, fun j t ht => by
        rw [Tryd.params3] at ht
        have hm : t ∈ [22, 9] := by simpa using Array.mem_of_getElem? ht
        have hall : ([22, 9].all fun u => !Tryd.prog.wantsStandIn u) = true := by kernel_rfl
        exact (show Tryd.prog.wantsStandIn t = false by simpa using List.all_eq_true.1 hall t hm)⟩)
    (by kernel_rfl)
#print axioms lexRound_card
end Go.Proofs.YtjgnpaifdbanjaaDoor
