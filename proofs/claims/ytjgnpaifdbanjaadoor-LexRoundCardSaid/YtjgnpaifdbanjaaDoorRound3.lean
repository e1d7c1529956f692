import Derived.Test.YtjgnpaifdbanjaaDoorRound2
set_option linter.unusedSimpArgs false
set_option linter.unusedVariables false
namespace Go.Proofs.YtjgnpaifdbanjaaDoor
open Go.RowKit
set_option maxRecDepth 100000

/-! what is printed is scanned: tokens -/
theorem fig_dig (c : UInt8) (h : digB c = true) : figuresL.contains c = true := by
  have : ∀ n : Fin 256, digB (UInt8.ofNat n.val) = true → figuresL.contains (UInt8.ofNat n.val) = true := by decide +kernel
  have h2 := this ⟨c.toNat, c.toNat_lt⟩
  simp only [UInt8.ofNat_toNat] at h2
  exact h2 h
theorem mem_tw {α : Type} {p : α → Bool} {l : List α} {c : α} (h : c ∈ l) : p c = true ∨ c ∈ l.dropWhile p := by
  rw [← List.takeWhile_append_dropWhile (p := p) (l := l)] at h
  rcases List.mem_append.1 h with h | h
  · exact .inl (mem_takeWhile p l c h)
  · exact .inr h
theorem pre_cons {s : List UInt8} {d : UInt8} (h : Lib.hasPrefix s [d] = true) : s = d :: s.drop 1 := by
  cases s with
  | nil => cases h
  | cons y u =>
    rw [hasPrefix1] at h
    have : d = y := by simpa using h
    subst this; rfl
theorem trim_mem {s : List UInt8} {d c : UInt8} (h : c ∈ s) : c = d ∨ c ∈ Lib.trimPrefix s [d] := by
  unfold Lib.trimPrefix
  cases hp : Lib.hasPrefix s [d] with
  | false => exact .inr (by simpa using h)
  | true =>
    have := pre_cons hp
    rw [this] at h
    rcases List.mem_cons.1 h with h | h
    · exact .inl h
    · exact .inr (by simpa using h)

theorem exp_figs {u : List UInt8} {e : Int} (h : expS u = some e) : ∀ c ∈ u, figuresL.contains c = true := by
  cases hd' : digitsB (if Lib.hasPrefix u [45] || Lib.hasPrefix u [43] then u.drop 1 else u) with
  | false =>
    unfold expS at h
    rw [if_pos (by rw [hd']; simp)] at h
    cases h
  | true =>
    clear h
    intro c hc
    have key : ∀ v : List UInt8, digitsB v = true → c ∈ v → figuresL.contains c = true := by
      intro v hv hcv
      unfold digitsB at hv
      rw [Bool.and_eq_true, List.all_eq_true] at hv
      exact fig_dig c (hv.2 c hcv)
    cases h1 : Lib.hasPrefix u [45] with
    | true =>
      rw [h1] at hd'
      rw [pre_cons h1] at hc
      rcases List.mem_cons.1 hc with rfl | hc
      · decide
      · exact key _ hd' hc
    | false =>
      cases h2 : Lib.hasPrefix u [43] with
      | true =>
        rw [h1, h2] at hd'
        rw [pre_cons h2] at hc
        rcases List.mem_cons.1 hc with rfl | hc
        · decide
        · exact key _ hd' hc
      | false =>
        rw [h1, h2] at hd'
        exact key _ hd' hc

theorem tail_figs {s : List UInt8} {neg : Bool} {w p t : List UInt8} (h : ¬ (tailS s neg w p t).2 = 10) : ∀ c ∈ t, figuresL.contains c = true := by
  intro c hc
  cases t with
  | nil => cases hc
  | cons d u =>
    unfold tailS at h
    simp only at h
    split at h
    · exact absurd rfl h
    · rename_i hd
      have hd : d.toNat = 101 ∨ d.toNat = 69 := by omega
      rcases List.mem_cons.1 hc with rfl | hc
      · rcases hd with hd | hd
        · have : c = 101 := UInt8.toNat_inj.1 hd
          subst this; decide
        · have : c = 69 := UInt8.toNat_inj.1 hd
          subst this; decide
      · cases he : expS u with
        | none => rw [he] at h; exact absurd rfl h
        | some e => exact exp_figs he c hc

theorem form_figs {s : List UInt8} (h : formS s = true) : ∀ c ∈ s, figuresL.contains c = true := by
  have h : ¬ (parseS s).2 = 10 := by unfold formS at h; simpa using h
  intro c hc
  rcases trim_mem (d := 45) hc with rfl | hc
  · decide
  · unfold parseS at h
    simp only at h
    split at h
    · exact absurd rfl h
    · rcases mem_tw (p := digB) hc with hc | hc
      · exact fig_dig c hc
      · split at h
        · rcases trim_mem (d := 46) hc with rfl | hc
          · decide
          · split at h
            · exact absurd rfl h
            · rcases mem_tw (p := digB) hc with hc | hc
              · exact fig_dig c hc
              · exact tail_figs h c hc
        · exact tail_figs h c hc

theorem tw_app2 {p : UInt8 → Bool} : ∀ (a b : List UInt8), (∀ c ∈ a, p c = true) → (b = [] ∨ ∃ d m, b = d :: m ∧ p d = false) → (a ++ b).takeWhile p = a
  | [], b, _, hb => by
    rcases hb with rfl | ⟨d, m, rfl, hd⟩
    · rfl
    · rw [List.nil_append, List.takeWhile_cons_of_neg (by rw [hd]; simp)]
  | c :: a, b, ha, hb => by
    rw [List.cons_append, List.takeWhile_cons_of_pos (ha c (by simp)), tw_app2 a b (fun d hd => ha d (by simp [hd])) hb]
theorem tw_all {p : UInt8 → Bool} : ∀ (a : List UInt8), (a.takeWhile p).length = a.length → ∀ c ∈ a, p c = true
  | [], _, c, h => by cases h
  | d :: a, hl, c, h => by
    by_cases hd : p d = true
    · rw [List.takeWhile_cons_of_pos hd] at hl
      rcases List.mem_cons.1 h with rfl | h
      · exact hd
      · exact tw_all a (by simpa using hl) c h
    · rw [List.takeWhile_cons_of_neg hd] at hl
      simp at hl

/-- a token's own text is scanned as that token -/
theorem head_body (t : Tk) (ht : isS t = true) (tail : List UInt8) (htail : tail = [] ∨ ∃ m, tail = 32 :: m) (at_ : Nat) :
    ∃ c r, bodyTk t ++ tail = c :: r ∧ headS (c :: r) c r at_ = some (some ⟨t.word, t.text, at_⟩, (bodyTk t).length) ∧ 1 ≤ (bodyTk t).length := by
  obtain ⟨wd, tx, ta⟩ := t
  unfold isS at ht
  simp only at ht ⊢
  by_cases h1 : (wd == 1) = true
  · rw [if_pos h1] at ht
    have hw : wd = 1 := by simpa using h1
    subst hw
    have hb : bodyTk ⟨1, tx, ta⟩ = tx := by unfold bodyTk; rw [if_pos (show ((1 : Int) != 2) = true by decide)]
    rw [hb]
    cases tx with
    | nil => cases ht
    | cons c r =>
      unfold isName at ht
      simp only [Bool.and_eq_true, beq_iff_eq] at ht
      have hall := tw_all (p := (nameL.contains ·)) (c :: r) (by have := ht.2; omega)
      have htw : (c :: r ++ tail).takeWhile (nameL.contains ·) = c :: r := tw_app2 _ _ hall (by
        rcases htail with h | ⟨m, h⟩
        · exact .inl h
        · exact .inr ⟨32, m, h, by decide⟩)
      refine ⟨c, r ++ tail, rfl, ?_, by simp⟩
      unfold headS
      rw [if_neg (by rw [ht.1]; decide), if_neg (by rw [ht.1]; decide), if_pos ht.1]
      have hn : nameN (c :: (r ++ tail)) = (c :: r).length := by unfold nameN; rw [← List.cons_append, htw]
      rw [hn, ← List.cons_append, List.take_left]
  · rw [if_neg h1] at ht
    by_cases h3 : (wd == 3) = true
    · rw [if_pos h3] at ht
      have hw : wd = 3 := by simpa using h3
      subst hw
      have hb : bodyTk ⟨3, tx, ta⟩ = tx := by unfold bodyTk; rw [if_pos (show ((3 : Int) != 2) = true by decide)]
      rw [hb]
      cases tx with
      | nil => cases ht
      | cons c r =>
        unfold isNum at ht
        simp only [Bool.and_eq_true, beq_iff_eq] at ht
        have hall := form_figs ht.2
        have htw : (c :: r ++ tail).takeWhile (figuresL.contains ·) = c :: r := tw_app2 _ _ hall (by
          rcases htail with h | ⟨m, h⟩
          · exact .inl h
          · exact .inr ⟨32, m, h, by decide⟩)
        refine ⟨c, r ++ tail, rfl, ?_, by simp⟩
        unfold headS
        rw [if_neg (by rw [ht.1]; decide), if_neg (by rw [ht.1]; decide), if_neg (by rw [ht.1]; decide), if_pos ht.1]
        have hn : figN (c :: (r ++ tail)) = (c :: r).length := by unfold figN; rw [← List.cons_append, htw]
        rw [hn, ← List.cons_append, List.take_left, if_pos ht.2]
    · rw [if_neg h3] at ht
      by_cases h2 : (wd == 2) = true
      · rw [if_pos h2] at ht
        have hw : wd = 2 := by simpa using h2
        subst hw
        have hb : bodyTk ⟨2, tx, ta⟩ = [34] ++ tx.flatMap escB ++ [34] := by unfold bodyTk; rw [if_neg (by show ¬ ((2 : Int) != 2) = true; decide)]
        rw [hb]
        refine ⟨34, tx.flatMap escB ++ 34 :: tail, by simp, ?_, by simp⟩
        unfold headS
        rw [if_neg (by decide), if_neg (by decide), if_neg (by decide), if_neg (by decide), if_pos (by decide)]
        rw [quo_esc tx.length tx [] tail 1 (Nat.le_refl _) ht]
        simp only [List.nil_append, List.length_append, List.length_cons, List.length_nil]
        all_goals (congr 2 <;> omega)
      · rw [if_neg h2] at ht
        by_cases h4 : (wd == 4) = true
        · rw [if_pos h4] at ht
          have hw : wd = 4 := by simpa using h4
          subst hw
          have hb : bodyTk ⟨4, tx, ta⟩ = tx := by unfold bodyTk; rw [if_pos (show ((4 : Int) != 2) = true by decide)]
          rw [hb]
          cases tx with
          | nil => cases ht
          | cons c r =>
            unfold isMark at ht
            simp only [Bool.and_eq_true, beq_iff_eq] at ht
            have hr : r = [] := by
              have := ht.1
              exact List.length_eq_zero_iff.1 (by omega)
            subst hr
            refine ⟨c, tail, rfl, ?_, by simp⟩
            unfold headS
            rw [if_neg (by rw [ht.2]; decide), if_neg (by rw [ht.2]; decide), if_neg (by rw [ht.2]; decide), if_neg (by rw [ht.2]; decide), if_neg (by rw [ht.2]; decide), if_pos ht.2]
            rfl
        · rw [if_neg h4] at ht; cases ht

def joinR (l : List Tk) : List UInt8 := l.flatMap fun t => 32 :: bodyTk t
theorem joinR_head (l : List Tk) : joinR l = [] ∨ ∃ m, joinR l = 32 :: m := by
  cases l with
  | nil => exact .inl rfl
  | cons t l => exact .inr ⟨bodyTk t ++ joinR l, rfl⟩

theorem scan_body (t : Tk) (ht : isS t = true) (hl : longT t = false) (l : List Tk) (at_ : Nat) (acc : List Tk) (ha : acc.length < 1024) :
    scanGo (bodyTk t ++ joinR l) at_ acc = scanGo (joinR l) (at_ + (bodyTk t).length) (acc ++ [⟨t.word, t.text, at_⟩]) := by
  obtain ⟨c, r, he, hh, h1⟩ := head_body t ht (joinR l) (joinR_head l) at_
  rw [he, scan_tok hh (by
    have : longS t.word t.text.length = false := hl
    simp only [this, Bool.false_or]
    rw [Bool.eq_false_iff]; intro h; rw [beq_iff_eq] at h; omega)]
  congr 1
  have : r.drop ((bodyTk t).length - 1) = (c :: r).drop (bodyTk t).length := by
    obtain ⟨k, hk⟩ : ∃ k, (bodyTk t).length = k + 1 := ⟨(bodyTk t).length - 1, by omega⟩
    rw [hk]; rfl
  rw [this, ← he, List.drop_left]

theorem scan_joinR : ∀ (l : List Tk) (at_ : Nat) (acc : List Tk), (∀ t ∈ l, isS t = true ∧ longT t = false) → acc.length + l.length ≤ 1024 →
    ∃ res, scanGo (joinR l) at_ acc = (acc ++ res, 0, 0) ∧ res.map keyT = l.map keyT
  | [], at_, acc, _, _ => ⟨[], by rw [List.append_nil]; exact scan_end at_ acc, rfl⟩
  | t :: l, at_, acc, h, hn => by
    simp only [List.length_cons] at hn
    obtain ⟨h1, h2⟩ := h t (by simp)
    have hj : joinR (t :: l) = 32 :: (bodyTk t ++ joinR l) := rfl
    rw [hj, scan_skip (n := 1) (by unfold headS; rw [if_pos (by decide)])]
    simp only [Nat.sub_self, List.drop_zero]
    rw [scan_body t h1 h2 l _ acc (by omega)]
    obtain ⟨res, e1, e2⟩ := scan_joinR l (at_ + 1 + (bodyTk t).length) (acc ++ [⟨t.word, t.text, (at_ + 1 : Nat)⟩]) (fun u hu => h u (by simp [hu])) (by simp; omega)
    refine ⟨⟨t.word, t.text, (at_ + 1 : Nat)⟩ :: res, ?_, ?_⟩
    · rw [e1]; simp
    · simp only [List.map_cons, e2]; rfl

/-- what is printed is scanned as it was -/
theorem scan_print {l : List Tk} {s : List UInt8} (h : printS l = (s, 0)) : ∃ m p, scanS s = (m, 0, p) ∧ m.map keyT = l.map keyT := by
  unfold printS at h
  split at h
  · cases h
  · rename_i hi
    split at h
    · cases h
    · rename_i hf
      split at h
      · cases h
      · rename_i hj
        cases h
        have hi' : ∀ t ∈ l, isS t = true := by
          intro t ht
          have := hi
          rw [Bool.eq_false_iff, Classical.not_not] at this
          exact List.all_eq_true.1 this t ht
        have hf' : l.length ≤ 1024 ∧ ∀ t ∈ l, longT t = false := by
          rw [Bool.not_eq_true, Bool.or_eq_false_iff] at hf
          refine ⟨by have := of_decide_eq_false hf.1; omega, fun t ht => ?_⟩
          cases hl : longT t with
          | false => rfl
          | true =>
            have := hf.2
            rw [Bool.eq_false_iff] at this
            exact absurd (List.any_eq_true.2 ⟨t, ht, hl⟩) this
        have hall : ∀ t ∈ l, isS t = true ∧ longT t = false := fun t ht => ⟨hi' t ht, hf'.2 t ht⟩
        unfold scanS
        rw [if_neg hj]
        cases l with
        | nil =>
          refine ⟨[], 0, ?_, rfl⟩
          exact scan_end 0 []
        | cons t l =>
          obtain ⟨h1, h2⟩ := hall t (by simp)
          have hj2 : joinTk (t :: l) = bodyTk t ++ joinR l := rfl
          rw [hj2, scan_body t h1 h2 l 0 [] (by simp)]
          obtain ⟨res, e1, e2⟩ := scan_joinR l (0 + (bodyTk t).length) ([] ++ [⟨t.word, t.text, (0 : Nat)⟩]) (fun u hu => hall u (by simp [hu])) (by have := hf'.1; simp at this ⊢; omega)
          exact ⟨_, 0, e1, by simp only [List.nil_append, List.cons_append, List.map_cons, e2]; rfl⟩
end Go.Proofs.YtjgnpaifdbanjaaDoor
