import Derived.Test.YtjgnpaifdbanjaaDoorScanLaw
import Derived.Lib.ValidLaws
set_option linter.unusedSimpArgs false
set_option linter.unusedVariables false
namespace Go.Proofs.YtjgnpaifdbanjaaDoor
open Go.RowKit
set_option maxRecDepth 100000

/-! what is printed is scanned: characters -/
theorem dec_local (n b0 b1 b2 b3 x k : Nat) (h : Lib.decodeN n b0 b1 b2 b3 = (x, k)) (hne : ¬ (x = 65533 ∧ k = 1)) :
    ((k = 1 ∧ b0 < 128) ∨ (2 ≤ k ∧ k ≤ 4 ∧ k ≤ n ∧ 128 ≤ b0 ∧ (1 < k → 128 ≤ b1) ∧ (2 < k → 128 ≤ b2) ∧ (3 < k → 128 ≤ b3))) ∧
    ∀ n' c1 c2 c3, k ≤ n' → (1 < k → c1 = b1) → (2 < k → c2 = b2) → (3 < k → c3 = b3) → Lib.decodeN n' b0 c1 c2 c3 = (x, k) := by
  unfold Lib.decodeN at h
  by_cases h128 : b0 < 128
  · rw [if_pos h128] at h
    cases h
    refine ⟨.inl ⟨rfl, h128⟩, fun n' c1 c2 c3 _ _ _ _ => ?_⟩
    unfold Lib.decodeN; rw [if_pos h128]
  · rw [if_neg h128] at h
    by_cases hA : b0 / 32 = 6 ∧ (1 < n ∧ b1 / 64 = 2)
    · rw [if_pos hA] at h
      split at h
      · rename_i hv
        cases h
        refine ⟨.inr ⟨by omega, by omega, hA.2.1, by omega, fun _ => by omega, fun h => by omega, fun h => by omega⟩, fun n' c1 c2 c3 hk e1 _ _ => ?_⟩
        have e := e1 (by omega)
        subst e
        unfold Lib.decodeN; rw [if_neg h128, if_pos ⟨hA.1, by omega, hA.2.2⟩, if_pos hv]
      · cases h; exact absurd ⟨rfl, rfl⟩ hne
    · rw [if_neg hA] at h
      by_cases hB : b0 / 16 = 14 ∧ (1 < n ∧ b1 / 64 = 2) ∧ (2 < n ∧ b2 / 64 = 2)
      · rw [if_pos hB] at h
        split at h
        · rename_i hv
          cases h
          refine ⟨.inr ⟨by omega, by omega, hB.2.2.1, by omega, fun _ => by omega, fun h => by omega, fun h => by omega⟩, fun n' c1 c2 c3 hk e1 e2 _ => ?_⟩
          have e := e1 (by omega)
          have e' := e2 (by omega)
          subst e; subst e'
          unfold Lib.decodeN; rw [if_neg h128, if_neg (fun h => by omega), if_pos ⟨hB.1, ⟨by omega, hB.2.1.2⟩, ⟨by omega, hB.2.2.2⟩⟩, if_pos hv]
        · cases h; exact absurd ⟨rfl, rfl⟩ hne
      · rw [if_neg hB] at h
        by_cases hC : b0 / 8 = 30 ∧ (1 < n ∧ b1 / 64 = 2) ∧ (2 < n ∧ b2 / 64 = 2) ∧ (3 < n ∧ b3 / 64 = 2)
        · rw [if_pos hC] at h
          split at h
          · rename_i hv
            cases h
            refine ⟨.inr ⟨by omega, by omega, hC.2.2.2.1, by omega, fun _ => by omega, fun h => by omega, fun h => by omega⟩, fun n' c1 c2 c3 hk e1 e2 e3 => ?_⟩
            have e := e1 (by omega)
            have e' := e2 (by omega)
            have e'' := e3 (by omega)
            subst e; subst e'; subst e''
            unfold Lib.decodeN; rw [if_neg h128, if_neg (fun h => by omega), if_neg (fun h => by omega), if_pos ⟨hC.1, ⟨by omega, hC.2.1.2⟩, ⟨by omega, hC.2.2.1.2⟩, ⟨by omega, hC.2.2.2.2⟩⟩, if_pos hv]
          · cases h; exact absurd ⟨rfl, rfl⟩ hne
        · rw [if_neg hC] at h
          cases h; exact absurd ⟨rfl, rfl⟩ hne

theorem u8dec_some {l : List UInt8} {x k : Nat} (h : u8dec l = some (x, k)) : l ≠ [] ∧ Lib.decodeN l.length (gB l 0) (gB l 1) (gB l 2) (gB l 3) = (x, k) ∧ ¬ (x = 65533 ∧ k = 1) := by
  have hne : l ≠ [] := by rintro rfl; simp [u8dec] at h
  rw [u8dec_eq l hne, dec_gB] at h
  split at h
  · cases h
  · rename_i hd
    cases hq : Lib.decodeN l.length (gB l 0) (gB l 1) (gB l 2) (gB l 3) with
    | mk a b =>
      rw [hq] at h hd
      cases h
      exact ⟨hne, rfl, fun hh => hd (by rw [hh.1, hh.2])⟩

/-- a character hangs on its own bytes alone -/
theorem u8dec_take {l : List UInt8} {x k : Nat} (h : u8dec l = some (x, k)) : ((k = 1 ∧ gB l 0 < 128) ∨ ∀ c ∈ l.take k, 128 ≤ c.toNat) ∧ ∀ z, u8dec (l.take k ++ z) = some (x, k) := by
  obtain ⟨hne, hd, hx⟩ := u8dec_some h
  obtain ⟨hk1, hk2⟩ := u8dec_n h
  obtain ⟨h1, h2⟩ := dec_local _ _ _ _ _ _ _ hd hx
  have hkl : (l.take k).length = k := by rw [List.length_take]; omega
  have hg : ∀ z i, i < k → gB (l.take k ++ z) i = gB l i := by
    intro z i hi
    rw [gB_app _ _ _ (by omega)]
    unfold gB
    rw [List.getD_eq_getElem?_getD, List.getD_eq_getElem?_getD, List.getElem?_take, if_pos hi]
  refine ⟨?_, fun z => ?_⟩
  · rcases h1 with h1 | ⟨a1, a2, a3, a4, a5, a6, a7⟩
    · exact .inl h1
    · right
      intro c hc
      obtain ⟨i, hi⟩ := List.mem_iff_getElem?.1 hc
      rw [List.getElem?_take] at hi
      split at hi
      · rename_i hik
        have e : gB l i = c.toNat := by unfold gB; rw [List.getD_eq_getElem?_getD, hi]; rfl
        rw [← e]
        match i, hik with
        | 0, _ => exact a4
        | 1, h => exact a5 h
        | 2, h => exact a6 h
        | 3, h => exact a7 h
        | i + 4, h => omega
      · cases hi
  · have hne2 : l.take k ++ z ≠ [] := by
      intro hh
      have := congrArg List.length hh
      rw [List.length_append, hkl] at this
      simp only [List.length_nil] at this
      omega
    have := h2 (l.take k ++ z).length (gB (l.take k ++ z) 1) (gB (l.take k ++ z) 2) (gB (l.take k ++ z) 3) (by rw [List.length_append]; omega) (fun h => hg z 1 h) (fun h => hg z 2 h) (fun h => hg z 3 h)
    rw [u8dec_eq _ hne2, dec_gB, hg z 0 (by omega), this]
    rw [if_neg (fun hh => hx (by cases hh; exact ⟨rfl, rfl⟩))]

theorem validD_dec (l : List UInt8) (hne : l ≠ []) : Lib.validD l = match u8dec l with | none => false | some p => Lib.validD (l.drop p.2) := by
  rw [Lib.validD_step l hne, u8dec_eq l hne]
  unfold Lib.decodeL
  generalize Utf8.decode ⟨l.toArray⟩ 0 = p
  obtain ⟨a, b⟩ := p
  by_cases h : a = 65533 ∧ b = 1
  · obtain ⟨rfl, rfl⟩ := h
    simp
  · rw [if_neg h, if_neg (fun hh => h (by cases hh; exact ⟨rfl, rfl⟩))]

theorem validD_app : ∀ (n : Nat) (a b : List UInt8), a.length ≤ n → Lib.validD a = true → Lib.validD b = true → Lib.validD (a ++ b) = true := by
  intro n
  induction n with
  | zero =>
    intro a b hn ha hb
    cases a with
    | nil => exact hb
    | cons => simp at hn
  | succ n ih =>
    intro a b hn ha hb
    cases a with
    | nil => exact hb
    | cons c r =>
      rw [validD_dec _ (by simp)] at ha ⊢
      cases hu : u8dec (c :: r) with
      | none => rw [hu] at ha; cases ha
      | some p =>
        obtain ⟨x, k⟩ := p
        rw [hu] at ha
        have hk := u8dec_n hu
        rw [u8dec_app b hu]
        simp only at ha ⊢
        rw [List.drop_append_of_le_length hk.2]
        exact ih _ b (by rw [List.length_drop]; simp only [List.length_cons] at hn hk ⊢; omega) ha hb

theorem validD_one {l : List UInt8} {x k : Nat} (h : u8dec l = some (x, k)) : Lib.validD (l.take k) = true := by
  obtain ⟨hne, _, _⟩ := u8dec_some h
  have hk := u8dec_n h
  have hn : l.take k ≠ [] := by
    intro hh
    have := congrArg List.length hh
    rw [List.length_take] at this
    simp only [List.length_nil] at this
    omega
  have := (u8dec_take h).2 []
  rw [List.append_nil] at this
  rw [validD_dec _ hn, this]
  simp only
  rw [List.drop_of_length_le (by rw [List.length_take]; omega)]
  rfl

theorem toNat_of {n : Nat} (h : n < 256) : (UInt8.ofNat n).toNat = n := by simp; omega

theorem validD_dec1 {l : List UInt8} (hne : l ≠ []) {x k : Nat} (hd : Lib.decodeN l.length (gB l 0) (gB l 1) (gB l 2) (gB l 3) = (x, k)) (hx : ¬ (x = 65533 ∧ k = 1)) (hk : k = l.length) : Lib.validD l = true := by
  rw [validD_dec l hne, u8dec_eq l hne, dec_gB, hd, if_neg (fun hh => hx (by cases hh; exact ⟨rfl, rfl⟩))]
  simp only
  rw [List.drop_of_length_le (by omega)]
  rfl

theorem validD_enc {r : Int} {x : List UInt8} (h : u8enc r = some x) : Lib.validD x = true ∧ x.length ≤ 4 := by
  unfold u8enc at h
  split at h
  · rename_i hr
    cases h
    obtain ⟨h0, h1, hv⟩ := hr
    have hv' : Utf8.valid r = true := by
      have h2 := hv
      simp only [Lib.validRune, decide_eq_true_eq] at h2
      simp only [Utf8.valid]
      rcases h2 with h2 | h2 <;> simp <;> omega
    have h2 : (r.toNat < 55296) ∨ (57343 < r.toNat ∧ r.toNat ≤ 1114111) := by
      simp only [Lib.validRune, decide_eq_true_eq] at hv
      omega
    have he : (Utf8.encode r).data.toList = (fun c => if c < 128 then [UInt8.ofNat c] else if c < 2048 then [UInt8.ofNat (192 + c / 64), UInt8.ofNat (128 + c % 64)]
        else if c < 65536 then [UInt8.ofNat (224 + c / 4096), UInt8.ofNat (128 + c / 64 % 64), UInt8.ofNat (128 + c % 64)]
        else [UInt8.ofNat (240 + c / 262144), UInt8.ofNat (128 + c / 4096 % 64), UInt8.ofNat (128 + c / 64 % 64), UInt8.ofNat (128 + c % 64)]) r.toNat := by
      unfold Utf8.encode
      simp only [hv', if_true]
      split
      · rfl
      · split
        · rfl
        · split <;> rfl
    rw [he]
    clear he
    generalize r.toNat = c at h2
    simp only
    have g : ∀ (l : List UInt8) (i : Nat) (b : UInt8), l[i]? = some b → gB l i = b.toNat := fun l i b hb => by unfold gB; rw [List.getD_eq_getElem?_getD, hb]; rfl
    split
    · refine ⟨validD_dec1 (by simp) (x := c) (k := 1) ?_ (by omega) rfl, by simp⟩
      rw [g _ 0 _ rfl, toNat_of (by omega)]
      unfold Lib.decodeN
      rw [if_pos (by omega)]
    · split
      · refine ⟨validD_dec1 (by simp) (x := c) (k := 2) ?_ (by omega) rfl, by simp⟩
        rw [g _ 0 _ rfl, g _ 1 _ rfl, toNat_of (by omega), toNat_of (by omega)]
        unfold Lib.decodeN
        rw [if_neg (by omega), if_pos ⟨by omega, by simp, by omega⟩, if_pos (by omega)]
        congr 1; omega
      · split
        · refine ⟨validD_dec1 (by simp) (x := c) (k := 3) ?_ (by omega) rfl, by simp⟩
          rw [g _ 0 _ rfl, g _ 1 _ rfl, g _ 2 _ rfl, toNat_of (by omega), toNat_of (by omega), toNat_of (by omega)]
          unfold Lib.decodeN
          rw [if_neg (by omega), if_neg (by omega), if_pos ⟨by omega, ⟨by simp, by omega⟩, ⟨by simp, by omega⟩⟩, if_pos (by omega)]
          congr 1; omega
        · refine ⟨validD_dec1 (by simp) (x := c) (k := 4) ?_ (by omega) rfl, by simp⟩
          rw [g _ 0 _ rfl, g _ 1 _ rfl, g _ 2 _ rfl, g _ 3 _ rfl, toNat_of (by omega), toNat_of (by omega), toNat_of (by omega), toNat_of (by omega)]
          unfold Lib.decodeN
          rw [if_neg (by omega), if_neg (by omega), if_neg (by omega), if_pos ⟨by omega, ⟨by simp, by omega⟩, ⟨by simp, by omega⟩, ⟨by simp, by omega⟩⟩, if_pos (by omega)]
          congr 1; omega
  · cases h
end Go.Proofs.YtjgnpaifdbanjaaDoor
