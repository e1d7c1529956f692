import Derived.Test.YtjgnpaifdbanjaaDoorRound1
set_option linter.unusedSimpArgs false
set_option linter.unusedVariables false
namespace Go.Proofs.YtjgnpaifdbanjaaDoor
open Go.RowKit
set_option maxRecDepth 100000

/-! what is printed is scanned: quotes -/
theorem esc_high {c : UInt8} (h : 128 ≤ c.toNat) : escB c = [c] := by
  unfold escB
  rw [if_neg (by omega), if_neg (by omega)]
theorem esc_highs : ∀ (l : List UInt8), (∀ c ∈ l, 128 ≤ c.toNat) → l.flatMap escB = l
  | [], _ => rfl
  | c :: l, h => by
    rw [List.flatMap_cons, esc_high (h c (by simp)), esc_highs l (fun d hd => h d (by simp [hd]))]
    rfl

theorem esc_ctl : ∀ c : UInt8, c.toNat < 32 → escB c = [92, 117, 48, 48, hexd (c.toNat / 16), hexd (c.toNat % 16)] ∧ Lib.trimS [48, 48, hexd (c.toNat / 16), hexd (c.toNat % 16)] hexL = [] ∧ u8enc (hexV [48, 48, hexd (c.toNat / 16), hexd (c.toNat % 16)]) = some [c] := by
  have : ∀ n : Fin 256, (UInt8.ofNat n.val).toNat < 32 → escB (UInt8.ofNat n.val) = [92, 117, 48, 48, hexd ((UInt8.ofNat n.val).toNat / 16), hexd ((UInt8.ofNat n.val).toNat % 16)] ∧ Lib.trimS [48, 48, hexd ((UInt8.ofNat n.val).toNat / 16), hexd ((UInt8.ofNat n.val).toNat % 16)] hexL = [] ∧ u8enc (hexV [48, 48, hexd ((UInt8.ofNat n.val).toNat / 16), hexd ((UInt8.ofNat n.val).toNat % 16)]) = some [UInt8.ofNat n.val] := by decide +kernel
  intro c h
  have h2 := this ⟨c.toNat, c.toNat_lt⟩
  simp only [UInt8.ofNat_toNat] at h2
  exact h2 h

/-- what is escaped is read back -/
theorem quo_esc : ∀ (n : Nat) (l acc tail : List UInt8) (at_ : Nat), l.length ≤ n → Lib.validD l = true → quoS (l.flatMap escB ++ 34 :: tail) acc at_ = some (acc ++ l, at_ + (l.flatMap escB).length + 1) := by
  intro n
  induction n with
  | zero =>
    intro l acc tail at_ hn hv
    cases l with
    | nil => rw [List.flatMap_nil, List.nil_append, quoS, if_pos (by decide), List.append_nil]; rfl
    | cons => simp at hn
  | succ n ih =>
    intro l acc tail at_ hn hv
    cases l with
    | nil => rw [List.flatMap_nil, List.nil_append, quoS, if_pos (by decide), List.append_nil]; rfl
    | cons c r =>
      simp only [List.length_cons] at hn
      by_cases hq : c.toNat = 34 ∨ c.toNat = 92
      · have he : escB c = [92, c] := by unfold escB; rw [if_pos hq]
        have hr : Lib.validD r = true := by rw [Lib.validD_cons c r (by omega)] at hv; exact hv
        rw [List.flatMap_cons, he, List.append_assoc, List.cons_append, List.cons_append, List.nil_append]
        have hp : (Lib.hasPrefix (c :: (r.flatMap escB ++ 34 :: tail)) [34] || Lib.hasPrefix (c :: (r.flatMap escB ++ 34 :: tail)) [92]) = true := by
          rw [hasPrefix1, hasPrefix1]
          rcases hq with hq | hq
          · have : c = 34 := UInt8.toNat_inj.1 hq
            subst this; rfl
          · have : c = 92 := UInt8.toNat_inj.1 hq
            subst this; rfl
        rw [quoS, if_neg (by decide), if_neg (by decide), if_neg (by decide), if_pos hp]
        simp only [List.drop_succ_cons, List.drop_zero, List.take_succ_cons, List.take_zero]
        rw [ih r (acc ++ [c]) tail (at_ + 2) (by omega) hr]
        simp only [List.append_assoc, List.cons_append, List.nil_append, List.length_cons, List.length_append]
        congr 2; simp; omega
      · by_cases h32 : c.toNat < 32
        · obtain ⟨he, ht, hu⟩ := esc_ctl c h32
          have hr : Lib.validD r = true := by rw [Lib.validD_cons c r (by omega)] at hv; exact hv
          rw [List.flatMap_cons, he, List.append_assoc]
          simp only [List.cons_append, List.nil_append]
          rw [quoS, if_neg (by decide), if_neg (by decide), if_neg (by decide), if_neg (by rw [hasPrefix1, hasPrefix1]; decide), if_neg (by simp), if_neg (by simp)]
          simp only [List.drop_succ_cons, List.drop_zero, List.take_succ_cons, List.take_zero]
          rw [if_neg (by rw [ht]; simp), hu]
          simp only
          rw [ih r (acc ++ [c]) tail (at_ + 6) (by omega) hr]
          simp only [List.append_assoc, List.cons_append, List.nil_append, List.length_cons, List.length_append]
          congr 2; simp; omega
        · have he : escB c = [c] := by unfold escB; rw [if_neg hq, if_neg h32]
          rw [validD_dec _ (by simp)] at hv
          cases hu : u8dec (c :: r) with
          | none => rw [hu] at hv; cases hv
          | some p =>
            obtain ⟨x, k⟩ := p
            rw [hu] at hv
            simp only at hv
            have hk := u8dec_n hu
            simp only [List.length_cons] at hk
            obtain ⟨h1, h2⟩ := u8dec_take hu
            have hfl : (c :: r).flatMap escB = (c :: r).take k ++ ((c :: r).drop k).flatMap escB := by
              conv => lhs; rw [← List.take_append_drop k (c :: r), List.flatMap_append]
              congr 1
              rcases h1 with ⟨rfl, _⟩ | h1
              · simp [he]
              · exact esc_highs _ h1
            obtain ⟨k, rfl⟩ : ∃ j, k = j + 1 := ⟨k - 1, by omega⟩
            rw [hfl, List.append_assoc]
            have hcons : (c :: r).take (k + 1) ++ (((c :: r).drop (k + 1)).flatMap escB ++ 34 :: tail) = c :: (r.take k ++ ((r.drop k).flatMap escB ++ 34 :: tail)) := rfl
            have hu2 := h2 (((c :: r).drop (k + 1)).flatMap escB ++ 34 :: tail)
            rw [hcons] at hu2 ⊢
            rw [quoS, if_neg (by omega), if_neg h32, if_pos (by omega), hu2]
            simp only [Nat.add_sub_cancel]
            have hkl : (r.take k).length = k := by rw [List.length_take]; omega
            rw [List.drop_left' hkl]
            have htk : (c :: (r.take k ++ ((r.drop k).flatMap escB ++ 34 :: tail))).take (k + 1) = c :: r.take k := by
              rw [List.take_succ_cons, List.take_left' hkl]
            rw [htk]
            rw [ih (r.drop k) _ tail (at_ + (k + 1)) (by rw [List.length_drop]; omega) hv]
            have hl2 : ((c :: r).drop (k + 1)) = r.drop k := rfl
            rw [hl2]
            simp only [List.append_assoc, List.cons_append, List.nil_append, List.length_cons, List.length_append, List.length_take]
            rw [List.take_append_drop]
            congr 2; simp; omega
end Go.Proofs.YtjgnpaifdbanjaaDoor
