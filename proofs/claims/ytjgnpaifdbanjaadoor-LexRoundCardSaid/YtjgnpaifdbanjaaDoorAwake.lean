import Derived.Test.YtjgnpaifdbanjaaDoorToks
set_option linter.unusedSimpArgs false
set_option linter.unusedVariables false
namespace Go.Proofs.YtjgnpaifdbanjaaDoor
open Go.RowKit
set_option maxRecDepth 100000

/-! the document's examples -/
abbrev ex1 : List UInt8 := [46, 97, 32, 59, 32, 116, 97, 103, 32, 34, 120, 92, 117, 48, 48, 52, 49, 34]
abbrev ex1T : List Tk := [⟨4, [46], 0⟩, ⟨1, [97], 1⟩, ⟨4, [59], 3⟩, ⟨1, [116, 97, 103], 5⟩, ⟨2, [120, 65], 9⟩]
theorem quo_ex1 : quoS [120, 92, 117, 48, 48, 52, 49, 34] [] 1 = some ([120, 65], 9) := by
  have h1 : u8dec [120, 92, 117, 48, 48, 52, 49, 34] = some (120, 1) := by decide +kernel
  have h2 : u8enc (hexV [48, 48, 52, 49]) = some [65] := by decide +kernel
  have h3 : Lib.trimS [48, 48, 52, 49] hexL = [] := by decide +kernel
  rw [quoS, if_neg (by decide), if_neg (by decide), if_pos (by decide), h1]
  simp only [List.drop_zero, Nat.sub_self, List.nil_append]
  rw [quoS, if_neg (by decide), if_neg (by decide), if_neg (by decide), if_neg (by decide), if_neg (by decide), if_neg (by decide)]
  simp only [List.drop_succ_cons, List.drop_zero, List.take_succ_cons, List.take_zero]
  rw [if_neg (by rw [h3]; simp), h2]
  simp only [List.cons_append, List.nil_append]
  rw [quoS, if_pos (by decide)]
theorem scan_bad {c : UInt8} {r : List UInt8} {at_ : Nat} {acc : List Tk} (h : headS (c :: r) c r at_ = none) : scanGo (c :: r) at_ acc = ([], 130, (at_ : Int)) := by
  rw [scanGo, h]
theorem scan_skip {c : UInt8} {r : List UInt8} {at_ n : Nat} {acc : List Tk} (h : headS (c :: r) c r at_ = some (none, n)) : scanGo (c :: r) at_ acc = scanGo (r.drop (n - 1)) (at_ + n) acc := by
  rw [scanGo, h]
theorem scan_tok {c : UInt8} {r : List UInt8} {at_ n : Nat} {t : Tk} {acc : List Tk} (h : headS (c :: r) c r at_ = some (some t, n)) (hl : (longS t.word t.text.length || (acc.length : Int) == 1024) = false) :
    scanGo (c :: r) at_ acc = scanGo (r.drop (n - 1)) (at_ + n) (acc ++ [t]) := by
  rw [scanGo, h]; simp only; rw [if_neg (by rw [hl]; simp)]
theorem scan_lim {c : UInt8} {r : List UInt8} {at_ n : Nat} {t : Tk} {acc : List Tk} (h : headS (c :: r) c r at_ = some (some t, n)) (hl : (longS t.word t.text.length || (acc.length : Int) == 1024) = true) :
    scanGo (c :: r) at_ acc = ([], 2, (at_ : Int)) := by
  rw [scanGo, h]; simp only; rw [if_pos hl]
theorem scan_end (at_ : Nat) (acc : List Tk) : scanGo [] at_ acc = (acc, 0, 0) := by rw [scanGo]

theorem scan_ex1 : scanS ex1 = (ex1T, 0, 0) := by
  have hq : headS [34, 120, 92, 117, 48, 48, 52, 49, 34] 34 [120, 92, 117, 48, 48, 52, 49, 34] 9 = some (some ⟨2, [120, 65], 9⟩, 9) := by
    unfold headS
    rw [if_neg (by decide), if_neg (by decide), if_neg (by decide), if_neg (by decide), if_pos (by decide), quo_ex1]; rfl
  unfold scanS
  rw [if_neg (by decide)]
  rw [scan_tok (t := ⟨4, [46], 0⟩) (n := 1) (by rfl) (by rfl)]
  simp only [List.drop_zero, Nat.sub_self, Nat.reduceAdd, List.nil_append]
  rw [scan_tok (t := ⟨1, [97], 1⟩) (n := 1) (by rfl) (by rfl)]
  simp only [List.drop_zero, Nat.sub_self, Nat.reduceAdd, List.nil_append]
  rw [scan_skip (n := 1) (by rfl)]
  simp only [List.drop_zero, Nat.sub_self, Nat.reduceAdd, List.nil_append]
  rw [scan_tok (t := ⟨4, [59], 3⟩) (n := 1) (by rfl) (by rfl)]
  simp only [List.drop_zero, Nat.sub_self, Nat.reduceAdd, List.nil_append]
  rw [scan_skip (n := 1) (by rfl)]
  simp only [List.drop_zero, Nat.sub_self, Nat.reduceAdd, List.nil_append]
  rw [scan_tok (t := ⟨1, [116, 97, 103], 5⟩) (n := 3) (by rfl) (by rfl)]
  simp only [List.drop_zero, List.drop_succ_cons, Nat.reduceSub, Nat.reduceAdd]
  rw [scan_skip (n := 1) (by rfl)]
  simp only [List.drop_zero, Nat.sub_self, Nat.reduceAdd, List.nil_append]
  rw [scan_tok hq (by rfl)]
  simp only [List.drop_zero, List.drop_succ_cons, Nat.reduceSub, Nat.reduceAdd]
  rw [scan_end]
  rfl
theorem scan_ex2 : scanS [97, 32, 36] = ([], 130, 2) := by
  unfold scanS
  rw [if_neg (by decide)]
  rw [scan_tok (t := ⟨1, [97], 0⟩) (n := 1) (by rfl) (by rfl)]
  simp only [List.drop_zero, Nat.sub_self, Nat.reduceAdd, List.nil_append]
  rw [scan_skip (n := 1) (by rfl)]
  simp only [List.drop_zero, Nat.sub_self, Nat.reduceAdd, List.nil_append]
  rw [scan_bad (by rfl)]; rfl
theorem scan_ex3 : scanS [48, 49] = ([], 130, 0) := by
  unfold scanS
  rw [if_neg (by decide)]
  rw [scan_bad (by decide +kernel)]; rfl
abbrev ex1P : List UInt8 := [46, 32, 97, 32, 59, 32, 116, 97, 103, 32, 34, 120, 65, 34]
theorem print_ex1 : printS ex1T = (ex1P, 0) := by decide +kernel

theorem small_ex1 : small ex1T := by
  refine ⟨by decide, ?_⟩
  intro t ht
  have : ∀ t, t ∈ ex1T → t.text.length ≤ 100000 := by decide
  exact this t ht

set_option maxHeartbeats 1000000 in
theorem awake_calls (H : Hp) (hT : Tabs H) (w0 : World) (hin : H.In w0) :
    Calls Tryd.prog 10 #[] w0 fun e w' => e = .returned (.bool true) ∧ Below w0.heap.size w0 w' := by
  have T := Tr.start (St.nil hin)
  have HT := hid hT; clear hin hT
  have hj : ∀ k, (joinTk (ex1T.take k)).length ≤ 8000000 := by
    intro k
    have h1 : ∀ k : Fin 6, (joinTk (ex1T.take k.val)).length ≤ 8000000 := by decide +kernel
    rcases Nat.lt_or_ge k 6 with h | h
    · exact h1 ⟨k, h⟩
    · rw [List.take_of_length_le (by simp; omega)]; exact h1 ⟨5, by omega⟩
  have Hj := hid hj; clear hj
  have sc : ∀ (s : List UInt8) res, scanS s = res → s.length ≤ 1000000 → ∀ (H : Hp) (w0 : World), Tabs H → H.In w0 → Calls Tryd.prog 8 #[str s] w0 (ScanRes w0 H res) :=
    fun s res h hl H w0 hT hin => h ▸ Scan_res H hT s hl w0 hin
  have Sc := hid sc; clear sc
  go_enter Tryd.func10, Tryd.ntmps10
  go_upto_region 2 with (first
    | (go_at_call 8; refine (Sc.out ex1 _ scan_ex1 (by decide) _ _ HT.out T.inn).mono ?_; rintro e w ⟨ao, cap, H1, rfl, hL, CC, _⟩; replace T := T.trans CC; replace HT := hid (HT.out.mono CC.le); have HL := hid hL; clear CC hL))
  have HL' := HL; clear HL
  go_upto_region 3 with (first
    | (go_at_call 8; refine (Sc.out [97, 32, 36] _ scan_ex2 (by decide) _ _ HT.out T.inn).mono ?_; rintro e w ⟨ao2, cap2, H2, rfl, hL, CC, _⟩; replace T := T.trans CC; replace HT := hid (HT.out.mono CC.le); replace HL' := hid (HL'.out.mono CC.le); clear CC hL))
  go_upto_region 4 with (first
    | (go_at_call 8; refine (Sc.out [48, 49] _ scan_ex3 (by decide) _ _ HT.out T.inn).mono ?_; rintro e w ⟨ao3, cap3, H3, rfl, hL, CC, _⟩; replace T := T.trans CC; replace HT := hid (HT.out.mono CC.le); replace HL' := hid (HL'.out.mono CC.le); clear CC hL))
  go_upto_region 5 with (first
    | (go_at_call 7; refine (Print_calls H3 HT.out ao cap ex1T HL'.out small_ex1 Hj.out _ T.inn).mono ?_; rintro e w ⟨rfl, hb⟩; replace T := T.of_below hb; clear hb; rw [print_ex1]))
  obtain ⟨b, off, c, te, rfl, hb, hc⟩ := HL'.out (by simp)
  have Hb := hid hb
  have Hc : Hid (∀ j, j < (#[.int .i64 2, str [120, 65], .int .i64 9] : Array Value).size → c[off + 12 + j]? = (#[.int .i64 2, str [120, 65], .int .i64 9] : Array Value)[j]?) :=
    hid (fun j hj => by have := hc 4 _ rfl j hj; rw [this]; simp [Tk.cells])
  clear hb hc
  go_wp2_with (first
    | ((with_reducible refine is_load ?_); (refine op_loads_held ?_ T Hb.out rfl (agOf _ rfl) (szOf _ rfl) (vs := #[.int .i64 2, str [120, 65], .int .i64 9]) Hc.out ?_; focus (first | exact fun _ => rfl | (refine wanted_of rfl ?_; first | rfl | assumption | (rw [Bool.eq_false_iff]; assumption) | (simp only [decide_eq_false_iff_not, decide_eq_true_eq]; omega) | (simp; done) | (simp; omega) | (simp_all; done)))); (try simp only [Act.put, List.setIfInBounds_toArray, List.set_cons_succ, List.set_cons_zero])))
  go_tidy
  (try simp only [Exit.inBlock, Exit.then]); refine ret1_of rfl rfl rfl ?_
  exact ⟨rfl, T.below⟩
end Go.Proofs.YtjgnpaifdbanjaaDoor
