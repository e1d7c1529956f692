import Derived.Test.YtjgnpaifdbanjaaDoorRound3
set_option linter.unusedSimpArgs false
set_option linter.unusedVariables false
namespace Go.Proofs.YtjgnpaifdbanjaaDoor
open Go.RowKit
set_option maxRecDepth 100000

/-! what is scanned may be printed -/
theorem quo_valid : ∀ (n : Nat) (l acc : List UInt8) (at_ : Nat) (x : List UInt8) (k : Nat), l.length ≤ n → quoS l acc at_ = some (x, k) → Lib.validD acc = true →
    Lib.validD x = true ∧ x.length + at_ ≤ acc.length + k ∧ k ≤ at_ + l.length := by
  intro n
  induction n with
  | zero =>
    intro l acc at_ x k hn h hv
    cases l with
    | nil => rw [quoS] at h; cases h
    | cons => simp at hn
  | succ n ih =>
    intro l acc at_ x k hn h hv
    cases l with
    | nil => rw [quoS] at h; cases h
    | cons c r =>
      simp only [List.length_cons] at hn
      rw [quoS] at h
      by_cases h34 : c.toNat = 34
      · rw [if_pos h34] at h; cases h
        exact ⟨hv, by omega, by simp only [List.length_cons]; omega⟩
      · rw [if_neg h34] at h
        by_cases h32 : c.toNat < 32
        · rw [if_pos h32] at h; cases h
        · rw [if_neg h32] at h
          by_cases h92 : c.toNat ≠ 92
          · rw [if_pos h92] at h
            cases hu : u8dec (c :: r) with
            | none => rw [hu] at h; cases h
            | some cn =>
              obtain ⟨y, j⟩ := cn
              rw [hu] at h
              simp only at h
              have hk := u8dec_n hu
              simp only [List.length_cons] at hk
              have := ih _ _ _ x k (by simp; omega) h (validD_app acc.length acc _ (Nat.le_refl _) hv (validD_one hu))
              refine ⟨this.1, ?_, ?_⟩
              · have h2 := this.2.1
                simp only [List.length_append, List.length_take, List.length_cons] at h2
                omega
              · have h2 := this.2.2
                simp only [List.length_drop, List.length_cons] at h2 ⊢
                omega
          · rw [if_neg h92] at h
            by_cases hpx : (Lib.hasPrefix r [34] || Lib.hasPrefix r [92]) = true
            · rw [if_pos hpx] at h
              cases r with
              | nil => cases hpx
              | cons d r =>
                simp only [List.length_cons] at hn
                have hd : Lib.validD [d] = true := by
                  rw [hasPrefix1, hasPrefix1, Bool.or_eq_true] at hpx
                  rcases hpx with hpx | hpx
                  · have : (34 : UInt8) = d := by simpa using hpx
                    subst this; rw [Lib.validD_cons _ _ (by decide)]; rfl
                  · have : (92 : UInt8) = d := by simpa using hpx
                    subst this; rw [Lib.validD_cons _ _ (by decide)]; rfl
                have := ih _ _ _ x k (by simp; omega) h (validD_app acc.length acc _ (Nat.le_refl _) hv hd)
                refine ⟨this.1, ?_, ?_⟩
                · have h2 := this.2.1
                  simp only [List.length_append, List.length_take, List.length_cons] at h2
                  omega
                · have h2 := this.2.2
                  simp only [List.length_drop, List.length_cons] at h2 ⊢
                  omega
            · rw [if_neg hpx] at h
              split at h
              · cases h
              · split at h
                · cases h
                · split at h
                  · cases h
                  · split at h
                    · cases h
                    · rename_i h5 _ _ y hy
                      obtain ⟨v1, v2⟩ := validD_enc hy
                      have := ih _ _ _ x k (by simp; omega) h (validD_app acc.length acc _ (Nat.le_refl _) hv v1)
                      refine ⟨this.1, ?_, ?_⟩
                      · have h2 := this.2.1
                        simp only [List.length_append] at h2
                        omega
                      · have h2 := this.2.2
                        simp only [List.length_drop, List.length_cons] at h2 ⊢
                        omega

theorem nameL_of (c : UInt8) : ofS c = 1 → nameL.contains c = true := ofS_all (p := fun o c => o = 1 → nameL.contains c = true) (by decide +kernel) c
theorem figL_of (c : UInt8) : ofS c = 2 → figuresL.contains c = true := ofS_all (p := fun o c => o = 2 → figuresL.contains c = true) (by decide +kernel) c

theorem tw_tw {p : UInt8 → Bool} : ∀ (l : List UInt8), (l.takeWhile p).takeWhile p = l.takeWhile p
  | [] => rfl
  | c :: l => by
    by_cases h : p c = true
    · rw [List.takeWhile_cons_of_pos h, List.takeWhile_cons_of_pos h, tw_tw l]
    · rw [List.takeWhile_cons_of_neg h]; rfl
theorem take_tw {p : UInt8 → Bool} (l : List UInt8) : l.take (l.takeWhile p).length = l.takeWhile p := by
  conv => lhs; rw [← List.takeWhile_append_dropWhile (p := p) (l := l)]
  rw [List.takeWhile_append_dropWhile (p := p) (l := l)]
  have h : l.takeWhile p <+: l := List.takeWhile_prefix p
  exact (List.prefix_iff_eq_take.1 h).symm

theorem head_is {c : UInt8} {r : List UInt8} {at_ : Nat} {t : Tk} {n : Nat} (h : headS (c :: r) c r at_ = some (some t, n)) : isS t = true ∧ t.text.length ≤ n := by
  unfold headS at h
  by_cases h5 : ofS c = 5
  · rw [if_pos h5] at h; cases h
  · rw [if_neg h5] at h
    by_cases h6 : ofS c = 6
    · rw [if_pos h6] at h; cases h
    · rw [if_neg h6] at h
      by_cases h1 : ofS c = 1
      · rw [if_pos h1] at h; cases h
        refine ⟨?_, by simp only [List.length_take]; omega⟩
        unfold isS
        simp only
        rw [if_pos (show ((1 : Int) == 1) = true from rfl)]
        unfold nameN
        rw [take_tw, List.takeWhile_cons_of_pos (nameL_of c h1)]
        unfold isName
        simp only
        rw [h1]
        have : (c :: r.takeWhile (nameL.contains ·)).takeWhile (nameL.contains ·) = c :: r.takeWhile (nameL.contains ·) := by
          rw [List.takeWhile_cons_of_pos (nameL_of c h1), tw_tw]
        rw [this]
        simp only [beq_self_eq_true, Bool.and_self]
      · rw [if_neg h1] at h
        by_cases h2 : ofS c = 2
        · rw [if_pos h2] at h
          split at h
          · rename_i hf
            cases h
            refine ⟨?_, by simp only [List.length_take]; omega⟩
            unfold isS
            simp only
            rw [if_neg (show ¬ ((3 : Int) == 1) = true by decide), if_pos (show ((3 : Int) == 3) = true from rfl)]
            unfold figN at hf ⊢
            rw [take_tw, List.takeWhile_cons_of_pos (figL_of c h2)] at hf ⊢
            unfold isNum
            simp only
            rw [h2, hf]
            rfl
          · cases h
        · rw [if_neg h2] at h
          by_cases h3 : ofS c = 3
          · rw [if_pos h3] at h
            cases hq : quoS r [] 1 with
            | none => rw [hq] at h; cases h
            | some xk =>
              obtain ⟨x, k⟩ := xk
              rw [hq] at h; cases h
              have := quo_valid r.length r [] 1 x n (Nat.le_refl _) hq rfl
              refine ⟨?_, by have h2 := this.2.1; simp only [List.length_nil] at h2; simp only; omega⟩
              unfold isS
              simp only
              rw [if_neg (show ¬ ((2 : Int) == 1) = true by decide), if_neg (show ¬ ((2 : Int) == 3) = true by decide), if_pos (show ((2 : Int) == 2) = true from rfl)]
              exact this.1
          · rw [if_neg h3] at h
            by_cases h4 : ofS c = 4
            · rw [if_pos h4] at h; cases h
              refine ⟨?_, by simp⟩
              unfold isS
              simp only
              rw [if_neg (show ¬ ((4 : Int) == 1) = true by decide), if_neg (show ¬ ((4 : Int) == 3) = true by decide), if_neg (show ¬ ((4 : Int) == 2) = true by decide), if_pos (show ((4 : Int) == 4) = true from rfl)]
              unfold isMark
              simp only
              rw [h4]
              rfl
            · rw [if_neg h4] at h; cases h

def sumT : List Tk → Nat
  | [] => 0
  | t :: l => t.text.length + sumT l
theorem sumT_app : ∀ (a b : List Tk), sumT (a ++ b) = sumT a + sumT b
  | [], b => by simp [sumT]
  | t :: a, b => by simp [sumT, sumT_app a b]; omega
theorem sumT_take : ∀ (l : List Tk) (k : Nat), sumT (l.take k) ≤ sumT l
  | [], k => by simp [sumT]
  | t :: l, 0 => by simp [sumT]
  | t :: l, k + 1 => by simp only [List.take_succ_cons, sumT]; have := sumT_take l k; omega
theorem sumT_mem : ∀ (l : List Tk) (t : Tk), t ∈ l → t.text.length ≤ sumT l
  | [], t, h => by cases h
  | u :: l, t, h => by
    rcases List.mem_cons.1 h with rfl | h
    · simp [sumT]
    · have := sumT_mem l t h; simp only [sumT]; omega

theorem body_len (t : Tk) : (bodyTk t).length ≤ 6 * t.text.length + 2 := by
  unfold bodyTk
  split
  · omega
  · simp only [List.length_append, List.length_cons, List.length_nil]
    have := esc_len t.text
    omega
theorem joinR_len : ∀ (l : List Tk), (joinR l).length ≤ 6 * sumT l + 3 * l.length
  | [] => by simp [joinR]
  | t :: l => by
    have h : joinR (t :: l) = 32 :: (bodyTk t ++ joinR l) := rfl
    rw [h]
    have h1 := body_len t
    have h2 := joinR_len l
    simp only [List.length_cons, List.length_append, sumT]
    omega
theorem joinTk_len (l : List Tk) : (joinTk l).length ≤ 6 * sumT l + 3 * l.length := by
  cases l with
  | nil => simp [joinTk]
  | cons t l =>
    have h : joinTk (t :: l) = bodyTk t ++ joinR l := rfl
    rw [h]
    have h1 := body_len t
    have h2 := joinR_len l
    simp only [List.length_cons, List.length_append, sumT]
    omega

theorem scan_is : ∀ (n : Nat) (b : List UInt8) (at_ : Nat) (acc m : List Tk) (p : Int), b.length ≤ n → scanGo b at_ acc = (m, 0, p) → (∀ t ∈ acc, isS t = true) →
    (∀ t ∈ m, isS t = true) ∧ sumT m ≤ sumT acc + b.length := by
  intro n
  induction n with
  | zero =>
    intro b at_ acc m p hn h ha
    cases b with
    | nil => rw [scan_end] at h; cases h; exact ⟨ha, by simp⟩
    | cons => simp at hn
  | succ n ih =>
    intro b at_ acc m p hn h ha
    cases b with
    | nil => rw [scan_end] at h; cases h; exact ⟨ha, by simp⟩
    | cons c r =>
      simp only [List.length_cons] at hn
      cases hh : headS (c :: r) c r at_ with
      | none => rw [scan_bad hh] at h; cases h
      | some on =>
        obtain ⟨o, k⟩ := on
        have hk := headS_n hh
        simp only [List.length_cons] at hk
        cases o with
        | none =>
          rw [scan_skip hh] at h
          have := ih _ _ _ m p (by simp; omega) h ha
          refine ⟨this.1, ?_⟩
          have h2 := this.2
          simp only [List.length_drop, List.length_cons] at h2 ⊢
          omega
        | some t =>
          cases hl : (longS t.word t.text.length || (acc.length : Int) == 1024) with
          | true => rw [scan_lim hh hl] at h; cases h
          | false =>
            rw [scan_tok hh hl] at h
            obtain ⟨i1, i2⟩ := head_is hh
            have := ih _ _ _ m p (by simp; omega) h (fun u hu => by
              rcases List.mem_append.1 hu with hu | hu
              · exact ha u hu
              · rw [List.mem_singleton] at hu; subst hu; exact i1)
            refine ⟨this.1, ?_⟩
            have h2 := this.2
            rw [sumT_app] at h2
            simp only [List.length_drop, List.length_cons, sumT] at h2 ⊢
            omega

theorem scanS_is {s : List UInt8} {m : List Tk} {p : Int} (h : scanS s = (m, 0, p)) : (∀ t ∈ m, isS t = true) ∧ sumT m ≤ 4096 := by
  unfold scanS at h
  split at h
  · cases h
  · have := scan_is s.length s 0 [] m p (Nat.le_refl _) h (fun t h => by cases h)
    exact ⟨this.1, by have h2 := this.2; simp only [sumT] at h2; omega⟩

theorem print_of_is {l : List Tk} (h : ∀ t ∈ l, isS t = true) : (printS l).2 = 0 ∨ (printS l).2 = 2 := by
  unfold printS
  rw [if_neg (by
    rw [Bool.not_eq_false]
    exact List.all_eq_true.2 h)]
  split
  · exact .inr rfl
  · split
    · exact .inr rfl
    · exact .inl rfl

theorem scan_err_nil (s : List UInt8) : (scanS s).2.1 ≠ 0 → (scanS s).1 = [] := by
  have key : ∀ (n : Nat) (b : List UInt8) (at_ : Nat) (acc : List Tk), b.length ≤ n → (scanGo b at_ acc).2.1 ≠ 0 → (scanGo b at_ acc).1 = [] := by
    intro n
    induction n with
    | zero =>
      intro b at_ acc hn h
      cases b with
      | nil => rw [scan_end] at h; exact absurd rfl h
      | cons => simp at hn
    | succ n ih =>
      intro b at_ acc hn h
      cases b with
      | nil => rw [scan_end] at h; exact absurd rfl h
      | cons c r =>
        simp only [List.length_cons] at hn
        cases hh : headS (c :: r) c r at_ with
        | none => rw [scan_bad hh]
        | some on =>
          obtain ⟨o, k⟩ := on
          have hk := headS_n hh
          simp only [List.length_cons] at hk
          cases o with
          | none => rw [scan_skip hh] at h ⊢; exact ih _ _ _ (by simp; omega) h
          | some t =>
            cases hl : (longS t.word t.text.length || (acc.length : Int) == 1024) with
            | true => rw [scan_lim hh hl]
            | false => rw [scan_tok hh hl] at h ⊢; exact ih _ _ _ (by simp; omega) h
  unfold scanS
  split
  · intro _; rfl
  · exact key s.length s 0 [] (Nat.le_refl _)
end Go.Proofs.YtjgnpaifdbanjaaDoor
