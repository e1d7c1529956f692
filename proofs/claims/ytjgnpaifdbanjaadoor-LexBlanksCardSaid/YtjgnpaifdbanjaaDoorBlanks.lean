import Derived.Test.YtjgnpaifdbanjaaDoorScanLaw
set_option linter.unusedSimpArgs false
set_option linter.unusedVariables false
namespace Go.Proofs.YtjgnpaifdbanjaaDoor
open Go.RowKit
set_option maxRecDepth 100000

/-! LexBlanks: the plain law -/
theorem ofS_blank (c : UInt8) : blanksL.contains c = true → ofS c = 5 :=
  fun h => ofS_all (p := fun o c => blanksL.contains c = true → o = 5) (by decide +kernel) c h

theorem scan_blanks : ∀ (more : List UInt8) (at_ : Nat) (acc : List Tk), more.all (blanksL.contains ·) = true → scanGo more at_ acc = (acc, 0, 0)
  | [], at_, acc, _ => scan_end at_ acc
  | c :: r, at_, acc, h => by
    rw [List.all_cons, Bool.and_eq_true] at h
    rw [scan_skip (n := 1) (by unfold headS; rw [if_pos (ofS_blank c h.1)])]
    exact scan_blanks r _ acc h.2

theorem scan_remark (r : List UInt8) (at_ : Nat) (acc : List Tk) (h : r.contains 10 = false) : scanGo (35 :: r) at_ acc = (acc, 0, 0) := by
  have hi : Lib.indexByte (35 :: r) 10 < 0 := by
    rcases Int.lt_or_le (Lib.indexByte (35 :: r) 10) 0 with h' | h'
    · exact h'
    · rw [indexByte_in] at h'
      rw [List.mem_cons] at h'
      rcases h' with h' | h'
      · exact absurd h' (by decide)
      · have : r.contains 10 = true := by rw [List.contains_iff_mem]; exact h'
        rw [h] at this; cases this
  have hr : remN (35 :: r) = r.length + 1 := by unfold remN; rw [if_pos hi]; rfl
  have hh : headS (35 :: r) 35 r at_ = some (none, r.length + 1) := by unfold headS; rw [if_neg (by decide), if_pos (by decide), hr]
  rw [scan_skip hh, Nat.add_sub_cancel, List.drop_length, scan_end]

theorem blanks_law (t more : List UInt8) (l m : List Tk) (e p f q : Int) (ha : scanS t = (l, e, p)) (hb : scanS (t ++ 10 :: more) = (m, f, q)) (hm : more.all (blanksL.contains ·) = true) :
    (e ≠ 0 → f ≠ 0) ∧ (e = 0 → f ≠ 2 → f = 0 ∧ m = l) := by
  unfold scanS at ha hb
  by_cases h1 : 4096 < (t ++ 10 :: more).length
  · rw [if_pos h1] at hb; cases hb
    exact ⟨fun _ => by decide, fun _ h => absurd rfl h⟩
  · rw [if_neg h1] at hb
    rw [if_neg (by rw [List.length_append] at h1; omega)] at ha
    constructor
    · intro he
      rw [scan_fail t.length t more 0 [] (Nat.le_refl _) (by rw [ha]; exact he), ha] at hb
      cases hb; exact he
    · intro he _
      subst he
      rw [scan_app t.length t more 0 [] l p (Nat.le_refl _) ha, scan_blanks _ _ _ hm] at hb
      cases hb; exact ⟨rfl, rfl⟩

theorem remark_law (t r : List UInt8) (l k : List Tk) (p g q : Int) (ha : scanS t = (l, 0, p)) (hb : scanS (t ++ 10 :: 35 :: r) = (k, g, q)) (hg : g = 0) (hr : r.contains 10 = false) : k = l := by
  subst hg
  unfold scanS at ha hb
  split at hb
  · cases hb
  · rename_i h1
    rw [if_neg (by rw [List.length_append] at h1; omega)] at ha
    rw [scan_app t.length t _ 0 [] l p (Nat.le_refl _) ha, scan_remark _ _ _ hr] at hb
    cases hb; rfl
end Go.Proofs.YtjgnpaifdbanjaaDoor
