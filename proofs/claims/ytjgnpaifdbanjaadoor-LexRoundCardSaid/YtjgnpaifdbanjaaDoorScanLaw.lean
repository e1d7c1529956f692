import Derived.Test.YtjgnpaifdbanjaaDoorAwake
set_option linter.unusedSimpArgs false
set_option linter.unusedVariables false
namespace Go.Proofs.YtjgnpaifdbanjaaDoor
open Go.RowKit
set_option maxRecDepth 100000

/-! what Scan's answer obeys: no program here -/
theorem decodeN_more (n n' b0 b1 b2 b3 c1 c2 c3 : Nat) (hn' : n ≤ n') (h1 : 1 < n → c1 = b1) (h2 : 2 < n → c2 = b2) (h3 : 3 < n → c3 = b3)
    (hne : Lib.decodeN n b0 b1 b2 b3 ≠ (65533, 1)) : Lib.decodeN n' b0 c1 c2 c3 = Lib.decodeN n b0 b1 b2 b3 := by
  revert hne
  unfold Lib.decodeN
  by_cases h128 : b0 < 128
  · rw [if_pos h128, if_pos h128]; intro _; rfl
  · rw [if_neg h128, if_neg h128]
    by_cases hA : b0 / 32 = 6 ∧ (1 < n ∧ b1 / 64 = 2)
    · have e := h1 hA.2.1
      subst e
      rw [if_pos hA, if_pos (show (b0 / 32 = 6 ∧ (1 < n' ∧ c1 / 64 = 2)) from ⟨hA.1, by omega, hA.2.2⟩)]; intro _; rfl
    · rw [if_neg hA]
      by_cases hB : b0 / 16 = 14 ∧ (1 < n ∧ b1 / 64 = 2) ∧ (2 < n ∧ b2 / 64 = 2)
      · have e1 := h1 hB.2.1.1
        have e2 := h2 hB.2.2.1
        subst e1; subst e2
        rw [if_pos hB, if_neg (show ¬ (b0 / 32 = 6 ∧ (1 < n' ∧ c1 / 64 = 2)) by omega), if_pos (show (b0 / 16 = 14 ∧ (1 < n' ∧ c1 / 64 = 2) ∧ (2 < n' ∧ c2 / 64 = 2)) from ⟨hB.1, ⟨by omega, hB.2.1.2⟩, ⟨by omega, hB.2.2.2⟩⟩)]; intro _; rfl
      · rw [if_neg hB]
        by_cases hC : b0 / 8 = 30 ∧ (1 < n ∧ b1 / 64 = 2) ∧ (2 < n ∧ b2 / 64 = 2) ∧ (3 < n ∧ b3 / 64 = 2)
        · have e1 := h1 hC.2.1.1
          have e2 := h2 hC.2.2.1.1
          have e3 := h3 hC.2.2.2.1
          subst e1; subst e2; subst e3
          rw [if_pos hC, if_neg (show ¬ (b0 / 32 = 6 ∧ (1 < n' ∧ c1 / 64 = 2)) by omega), if_neg (show ¬ (b0 / 16 = 14 ∧ (1 < n' ∧ c1 / 64 = 2) ∧ (2 < n' ∧ c2 / 64 = 2)) by omega), if_pos (show (b0 / 8 = 30 ∧ (1 < n' ∧ c1 / 64 = 2) ∧ (2 < n' ∧ c2 / 64 = 2) ∧ (3 < n' ∧ c3 / 64 = 2)) from ⟨hC.1, ⟨by omega, hC.2.1.2⟩, ⟨by omega, hC.2.2.1.2⟩, ⟨by omega, hC.2.2.2.2⟩⟩)]; intro _; rfl
        · rw [if_neg hC]; intro h; exact absurd rfl h

theorem decodeN_fail (n n' b0 b1 b2 b3 c1 c2 c3 : Nat) (hn : 1 ≤ n) (hn' : n ≤ n') (h1 : 1 < n → c1 = b1) (h2 : 2 < n → c2 = b2) (h3 : 3 < n → c3 = b3)
    (k1 : n = 1 → c1 = 10) (k2 : n = 2 → c2 = 10) (k3 : n = 3 → c3 = 10)
    (hne : Lib.decodeN n b0 b1 b2 b3 = (65533, 1)) : Lib.decodeN n' b0 c1 c2 c3 = (65533, 1) := by
  revert hne
  unfold Lib.decodeN
  by_cases h128 : b0 < 128
  · rw [if_pos h128, if_pos h128]; intro h; exact h
  · rw [if_neg h128, if_neg h128]
    by_cases hA : b0 / 32 = 6 ∧ (1 < n ∧ b1 / 64 = 2)
    · have e := h1 hA.2.1
      subst e
      rw [if_pos hA, if_pos (show (b0 / 32 = 6 ∧ (1 < n' ∧ c1 / 64 = 2)) from ⟨hA.1, by omega, hA.2.2⟩)]; intro h; exact h
    · rw [if_neg hA]
      have hA' : ¬ (b0 / 32 = 6 ∧ (1 < n' ∧ c1 / 64 = 2)) := by
        rintro ⟨x, y, z⟩
        rcases Nat.lt_or_ge 1 n with h | h
        · rw [h1 h] at z; exact hA ⟨x, h, z⟩
        · rw [k1 (by omega)] at z; omega
      rw [if_neg hA']
      by_cases hB : b0 / 16 = 14 ∧ (1 < n ∧ b1 / 64 = 2) ∧ (2 < n ∧ b2 / 64 = 2)
      · have e1 := h1 hB.2.1.1
        have e2 := h2 hB.2.2.1
        subst e1; subst e2
        rw [if_pos hB, if_pos (show (b0 / 16 = 14 ∧ (1 < n' ∧ c1 / 64 = 2) ∧ (2 < n' ∧ c2 / 64 = 2)) from ⟨hB.1, ⟨by omega, hB.2.1.2⟩, ⟨by omega, hB.2.2.2⟩⟩)]; intro h; exact h
      · rw [if_neg hB]
        have hB' : ¬ (b0 / 16 = 14 ∧ (1 < n' ∧ c1 / 64 = 2) ∧ (2 < n' ∧ c2 / 64 = 2)) := by
          rintro ⟨x, ⟨_, z⟩, ⟨_, u⟩⟩
          have hn1 : 1 < n := by
            rcases Nat.lt_or_ge 1 n with h | h
            · exact h
            · rw [k1 (by omega)] at z; omega
          have hn2 : 2 < n := by
            rcases Nat.lt_or_ge 2 n with h | h
            · exact h
            · rw [k2 (by omega)] at u; omega
          rw [h1 hn1] at z; rw [h2 hn2] at u
          exact hB ⟨x, ⟨hn1, z⟩, ⟨hn2, u⟩⟩
        rw [if_neg hB']
        by_cases hC : b0 / 8 = 30 ∧ (1 < n ∧ b1 / 64 = 2) ∧ (2 < n ∧ b2 / 64 = 2) ∧ (3 < n ∧ b3 / 64 = 2)
        · have e1 := h1 hC.2.1.1
          have e2 := h2 hC.2.2.1.1
          have e3 := h3 hC.2.2.2.1
          subst e1; subst e2; subst e3
          rw [if_pos hC, if_pos (show (b0 / 8 = 30 ∧ (1 < n' ∧ c1 / 64 = 2) ∧ (2 < n' ∧ c2 / 64 = 2) ∧ (3 < n' ∧ c3 / 64 = 2)) from ⟨hC.1, ⟨by omega, hC.2.1.2⟩, ⟨by omega, hC.2.2.1.2⟩, ⟨by omega, hC.2.2.2.2⟩⟩)]; intro h; exact h
        · rw [if_neg hC]
          have hC' : ¬ (b0 / 8 = 30 ∧ (1 < n' ∧ c1 / 64 = 2) ∧ (2 < n' ∧ c2 / 64 = 2) ∧ (3 < n' ∧ c3 / 64 = 2)) := by
            rintro ⟨x, ⟨_, z⟩, ⟨_, u⟩, ⟨_, v⟩⟩
            have hn1 : 1 < n := by
              rcases Nat.lt_or_ge 1 n with h | h
              · exact h
              · rw [k1 (by omega)] at z; omega
            have hn2 : 2 < n := by
              rcases Nat.lt_or_ge 2 n with h | h
              · exact h
              · rw [k2 (by omega)] at u; omega
            have hn3 : 3 < n := by
              rcases Nat.lt_or_ge 3 n with h | h
              · exact h
              · rw [k3 (by omega)] at v; omega
            rw [h1 hn1] at z; rw [h2 hn2] at u; rw [h3 hn3] at v
            exact hC ⟨x, ⟨hn1, z⟩, ⟨hn2, u⟩, ⟨hn3, v⟩⟩
          rw [if_neg hC']; intro _; rfl

def gB (l : List UInt8) (k : Nat) : Nat := (l.getD k 0).toNat
theorem get!_gB (l : List UInt8) (k : Nat) : ((⟨l.toArray⟩ : ByteArray).get! k).toNat = gB l k := by
  unfold gB
  simp [ByteArray.get!, List.getD_eq_getElem?_getD, getElem!_def]
  cases l[k]? <;> rfl
theorem dec_gB (l : List UInt8) : Utf8.decode ⟨l.toArray⟩ 0 = Lib.decodeN l.length (gB l 0) (gB l 1) (gB l 2) (gB l 3) := by
  rw [Lib.decode_at, size_mk, get!_gB, get!_gB, get!_gB, get!_gB]; rfl
theorem gB_app (l m : List UInt8) (k : Nat) (h : k < l.length) : gB (l ++ m) k = gB l k := by
  unfold gB; rw [List.getD_eq_getElem?_getD, List.getD_eq_getElem?_getD, List.getElem?_append_left h]
theorem gB_mid (l m : List UInt8) (c : UInt8) : gB (l ++ c :: m) l.length = c.toNat := by
  unfold gB; rw [List.getD_eq_getElem?_getD, List.getElem?_append_right (Nat.le_refl _)]; simp

theorem u8dec_eq (l : List UInt8) (h : l ≠ []) : u8dec l = if Utf8.decode ⟨l.toArray⟩ 0 = (65533, 1) then none else some (Utf8.decode ⟨l.toArray⟩ 0) := by
  have hs : ¬ (⟨l.toArray⟩ : ByteArray).size = 0 := by rw [size_mk]; intro hh; exact h (List.length_eq_zero_iff.1 hh)
  unfold u8dec Lib.decodeGo
  rw [if_neg hs, if_neg h]
  generalize Utf8.decode ⟨l.toArray⟩ 0 = p
  obtain ⟨a, b⟩ := p
  simp only [Prod.mk.injEq]

/-- a character that is whole stays what it is, whatever follows -/
theorem u8dec_app {l : List UInt8} {cn : Nat × Nat} (m : List UInt8) (h : u8dec l = some cn) : u8dec (l ++ m) = some cn := by
  have hne : l ≠ [] := by rintro rfl; simp [u8dec] at h
  rw [u8dec_eq l hne] at h
  have hne2 : l ++ m ≠ [] := by simp [hne]
  rw [u8dec_eq _ hne2]
  split at h
  · cases h
  · rename_i hd
    have : Utf8.decode ⟨(l ++ m).toArray⟩ 0 = Utf8.decode ⟨l.toArray⟩ 0 := by
      rw [dec_gB l] at hd ⊢
      have h0 : 0 < l.length := List.length_pos_iff.2 hne
      rw [dec_gB, gB_app l m 0 h0]
      exact decodeN_more _ _ _ _ _ _ _ _ _ (by simp) (fun h => gB_app l m 1 h) (fun h => gB_app l m 2 h) (fun h => gB_app l m 3 h) hd
    rw [this, if_neg hd]; exact h

/-- what is no character does not become one by a line's end behind it -/
theorem u8dec_fail {l : List UInt8} (m : List UInt8) (hne : l ≠ []) (h : u8dec l = none) : u8dec (l ++ 10 :: m) = none := by
  rw [u8dec_eq l hne] at h
  have hne2 : l ++ 10 :: m ≠ [] := by simp [hne]
  rw [u8dec_eq _ hne2]
  split at h
  · rename_i hd
    have h0 : 0 < l.length := List.length_pos_iff.2 hne
    have : Utf8.decode ⟨(l ++ 10 :: m).toArray⟩ 0 = (65533, 1) := by
      rw [dec_gB l] at hd
      rw [dec_gB, gB_app l _ 0 h0]
      refine decodeN_fail l.length _ _ _ _ _ _ _ _ h0 (by simp) (fun h => gB_app l _ 1 h) (fun h => gB_app l _ 2 h) (fun h => gB_app l _ 3 h) ?_ ?_ ?_ hd
      · intro h; have := gB_mid l m 10; rw [h] at this; exact this
      · intro h; have := gB_mid l m 10; rw [h] at this; exact this
      · intro h; have := gB_mid l m 10; rw [h] at this; exact this
    rw [if_pos this]
  · cases h

theorem hp_app (d : UInt8) (r m : List UInt8) (c : UInt8) : Lib.hasPrefix ((d :: r) ++ m) [c] = Lib.hasPrefix (d :: r) [c] := by
  rw [List.cons_append, hasPrefix1, hasPrefix1]

theorem quoS_app : ∀ (n : Nat) (l acc : List UInt8) (at_ : Nat) (res : List UInt8 × Nat) (m : List UInt8), l.length ≤ n → quoS l acc at_ = some res → quoS (l ++ m) acc at_ = some res := by
  intro n
  induction n with
  | zero =>
    intro l acc at_ res m hn h
    cases l with
    | nil => rw [quoS] at h; cases h
    | cons => simp at hn
  | succ n ih =>
    intro l acc at_ res m hn h
    cases l with
    | nil => rw [quoS] at h; cases h
    | cons c r =>
      simp only [List.length_cons] at hn
      rw [List.cons_append]
      rw [quoS] at h ⊢
      by_cases h34 : c.toNat = 34
      · rw [if_pos h34] at h ⊢; exact h
      · rw [if_neg h34] at h ⊢
        by_cases h32 : c.toNat < 32
        · rw [if_pos h32] at h; cases h
        · rw [if_neg h32] at h ⊢
          by_cases h92 : c.toNat ≠ 92
          · rw [if_pos h92] at h ⊢
            cases hu : u8dec (c :: r) with
            | none => rw [hu] at h; cases h
            | some cn =>
              obtain ⟨x, k⟩ := cn
              have hu2 : u8dec (c :: (r ++ m)) = some (x, k) := u8dec_app m hu
              rw [hu] at h; rw [hu2]
              simp only at h ⊢
              have hk := u8dec_n hu
              simp only [List.length_cons] at hk
              have e1 : (r ++ m).drop (k - 1) = r.drop (k - 1) ++ m := List.drop_append_of_le_length (by omega)
              have e2 : (c :: (r ++ m)).take k = (c :: r).take k := by rw [← List.cons_append, List.take_append_of_le_length (by simp; omega)]
              rw [e1, e2]
              exact ih _ _ _ _ _ (by simp; omega) h
          · rw [if_neg h92] at h ⊢
            cases r with
            | nil =>
              rw [if_neg (by decide), if_pos (by decide)] at h; cases h
            | cons d r =>
              rw [hp_app, hp_app]
              by_cases hpx : (Lib.hasPrefix (d :: r) [34] || Lib.hasPrefix (d :: r) [92]) = true
              · rw [if_pos hpx] at h ⊢
                simp only [List.cons_append, List.drop_succ_cons, List.drop_zero, List.take_succ_cons, List.take_zero] at h ⊢
                simp only [List.length_cons] at hn
                exact ih _ _ _ _ _ (by omega) h
              · rw [if_neg hpx] at h ⊢
                by_cases h5 : (d :: r).length < 5
                · rw [if_pos h5] at h; cases h
                · rw [if_neg h5] at h
                  have h5' : 5 ≤ (d :: r).length := by omega
                  rw [if_neg (by rw [List.length_append]; omega)]
                  rw [show (d :: r ++ m).headD 0 = (d :: r).headD 0 from rfl]
                  have e1 : (List.drop 1 (d :: r ++ m)).take 4 = (List.drop 1 (d :: r)).take 4 := by
                    rw [List.drop_append_of_le_length (by omega), List.take_append_of_le_length (by rw [List.length_drop]; omega)]
                  have e2 : (d :: r ++ m).drop 5 = (d :: r).drop 5 ++ m := List.drop_append_of_le_length h5'
                  rw [e1, e2]
                  by_cases h117 : ((d :: r).headD 0).toNat = 117
                  · rw [if_neg (by exact fun x => x h117)] at h ⊢
                    by_cases ht : Lib.trimS (List.take 4 (List.drop 1 (d :: r))) hexL = []
                    · rw [if_neg (by exact fun x => x ht)] at h ⊢
                      cases hu : u8enc (hexV (List.take 4 (List.drop 1 (d :: r)))) with
                      | none => rw [hu] at h; cases h
                      | some x =>
                        rw [hu] at h
                        simp only at h ⊢
                        exact ih _ _ _ _ _ (by rw [List.length_drop]; omega) h
                    · rw [if_pos ht] at h; cases h
                  · rw [if_pos h117] at h; cases h

theorem quoS_fail : ∀ (n : Nat) (l acc : List UInt8) (at_ : Nat) (m : List UInt8), l.length ≤ n → quoS l acc at_ = none → quoS (l ++ 10 :: m) acc at_ = none := by
  intro n
  induction n with
  | zero =>
    intro l acc at_ m hn h
    cases l with
    | nil => rw [List.nil_append, quoS, if_neg (by decide), if_pos (by decide)]
    | cons => simp at hn
  | succ n ih =>
    intro l acc at_ m hn h
    cases l with
    | nil => rw [List.nil_append, quoS, if_neg (by decide), if_pos (by decide)]
    | cons c r =>
      simp only [List.length_cons] at hn
      rw [List.cons_append]
      rw [quoS] at h ⊢
      by_cases h34 : c.toNat = 34
      · rw [if_pos h34] at h; cases h
      · rw [if_neg h34] at h ⊢
        by_cases h32 : c.toNat < 32
        · rw [if_pos h32]
        · rw [if_neg h32] at h ⊢
          by_cases h92 : c.toNat ≠ 92
          · rw [if_pos h92] at h ⊢
            cases hu : u8dec (c :: r) with
            | none =>
              have hu2 : u8dec (c :: (r ++ 10 :: m)) = none := u8dec_fail m (by simp) hu
              rw [hu2]
            | some cn =>
              obtain ⟨x, k⟩ := cn
              have hu2 : u8dec (c :: (r ++ 10 :: m)) = some (x, k) := u8dec_app (10 :: m) hu
              rw [hu] at h; rw [hu2]
              simp only at h ⊢
              have hk := u8dec_n hu
              simp only [List.length_cons] at hk
              have e1 : (r ++ 10 :: m).drop (k - 1) = r.drop (k - 1) ++ 10 :: m := List.drop_append_of_le_length (by omega)
              rw [e1]
              have := ih (r.drop (k - 1)) (acc ++ (c :: r).take k) (at_ + k) m (by simp; omega) h
              have e2 : (c :: (r ++ 10 :: m)).take k = (c :: r).take k := by rw [← List.cons_append, List.take_append_of_le_length (by simp; omega)]
              rw [e2]; exact this
          · rw [if_neg h92] at h ⊢
            cases r with
            | nil =>
              rw [List.nil_append, hasPrefix1, hasPrefix1, if_neg (by decide)]
              split
              · rfl
              · rw [if_pos (show ¬ (((10 : UInt8) :: m).headD 0).toNat = 117 by show ¬ (10 : UInt8).toNat = 117; decide)]
            | cons d r =>
              rw [hp_app, hp_app]
              by_cases hpx : (Lib.hasPrefix (d :: r) [34] || Lib.hasPrefix (d :: r) [92]) = true
              · rw [if_pos hpx] at h ⊢
                simp only [List.cons_append, List.drop_succ_cons, List.drop_zero, List.take_succ_cons, List.take_zero] at h ⊢
                simp only [List.length_cons] at hn
                exact ih _ _ _ _ (by omega) h
              · rw [if_neg hpx] at h ⊢
                rw [show (d :: r ++ 10 :: m).headD 0 = (d :: r).headD 0 from rfl]
                by_cases h5 : (d :: r).length < 5
                · split
                  · rfl
                  · split
                    · rfl
                    · rw [if_pos]
                      intro ht
                      rw [trimS_empty, List.all_eq_true] at ht
                      have hm : (10 : UInt8) ∈ List.take 4 (List.drop 1 (d :: r ++ 10 :: m)) := by
                        rw [List.cons_append, List.drop_succ_cons, List.drop_zero]
                        simp only [List.length_cons] at h5
                        rw [List.mem_take_iff_getElem]
                        refine ⟨r.length, by simp; omega, ?_⟩
                        rw [List.getElem_append_right (Nat.le_refl _)]; simp
                      have := ht _ hm
                      revert this; decide
                · rw [if_neg h5] at h
                  have h5' : 5 ≤ (d :: r).length := by omega
                  rw [if_neg (by rw [List.length_append]; omega)]
                  have e1 : (List.drop 1 (d :: r ++ 10 :: m)).take 4 = (List.drop 1 (d :: r)).take 4 := by
                    rw [List.drop_append_of_le_length (by omega), List.take_append_of_le_length (by rw [List.length_drop]; omega)]
                  have e2 : (d :: r ++ 10 :: m).drop 5 = (d :: r).drop 5 ++ 10 :: m := List.drop_append_of_le_length h5'
                  rw [e1, e2]
                  by_cases h117 : ((d :: r).headD 0).toNat = 117
                  · rw [if_neg (by exact fun x => x h117)] at h ⊢
                    by_cases ht : Lib.trimS (List.take 4 (List.drop 1 (d :: r))) hexL = []
                    · rw [if_neg (by exact fun x => x ht)] at h ⊢
                      cases hu : u8enc (hexV (List.take 4 (List.drop 1 (d :: r)))) with
                      | none => rfl
                      | some x =>
                        rw [hu] at h
                        simp only at h ⊢
                        exact ih _ _ _ _ (by rw [List.length_drop]; omega) h
                    · rw [if_pos ht]
                  · rw [if_pos h117]

theorem tw_app (f : UInt8 → Bool) (l m : List UInt8) (h : f 10 = false) : (l ++ 10 :: m).takeWhile f = l.takeWhile f := by
  induction l with
  | nil => rw [List.nil_append, List.takeWhile_cons_of_neg (by rw [h]; simp)]; rfl
  | cons c l ih =>
    rw [List.cons_append]
    by_cases hc : f c = true
    · rw [List.takeWhile_cons_of_pos hc, List.takeWhile_cons_of_pos hc, ih]
    · rw [List.takeWhile_cons_of_neg hc, List.takeWhile_cons_of_neg hc]

theorem ib_app (l m : List UInt8) : Lib.indexByte (l ++ 10 :: m) 10 = if Lib.indexByte l 10 < 0 then (l.length : Int) else Lib.indexByte l 10 := by
  induction l with
  | nil => rfl
  | cons c l ih =>
    have hge := Lib.indexByte_ge l 10
    rw [List.cons_append]
    unfold Lib.indexByte
    by_cases hc : (c == 10) = true
    · rw [if_pos hc, if_pos hc]; rfl
    · rw [if_neg hc, if_neg hc, ih]
      by_cases h0 : Lib.indexByte l 10 < 0
      · have e : Lib.indexByte l 10 = -1 := by omega
        rw [if_pos h0, e]
        simp
      · rw [if_neg h0]
        have e : ¬ (Lib.indexByte l 10 == -1) = true := by intro hh; rw [beq_iff_eq] at hh; omega
        rw [if_neg e, if_neg (by omega)]

theorem remN_app (l m : List UInt8) : remN (l ++ 10 :: m) = remN l := by
  unfold remN
  rw [ib_app]
  by_cases h0 : Lib.indexByte l 10 < 0
  · rw [if_pos h0, if_pos h0, if_neg (by omega)]; simp
  · rw [if_neg h0, if_neg h0, if_neg h0]

theorem headS_n {c : UInt8} {r : List UInt8} {at_ : Nat} {o : Option Tk} {n : Nat} (h : headS (c :: r) c r at_ = some (o, n)) : 1 ≤ n ∧ n ≤ (c :: r).length := by
  unfold headS at h
  by_cases h5 : ofS c = 5
  · rw [if_pos h5] at h; cases h; simp
  · rw [if_neg h5] at h
    by_cases h6 : ofS c = 6
    · rw [if_pos h6] at h; cases h; exact remN_pos _ c r rfl h6
    · rw [if_neg h6] at h
      by_cases h1 : ofS c = 1
      · rw [if_pos h1] at h; cases h; exact nameN_pos _ c r rfl h1
      · rw [if_neg h1] at h
        by_cases h2 : ofS c = 2
        · rw [if_pos h2] at h
          split at h
          · cases h; exact figN_pos _ c r rfl h2
          · cases h
        · rw [if_neg h2] at h
          by_cases h3 : ofS c = 3
          · rw [if_pos h3] at h
            cases hq : quoS r [] 1 with
            | none => rw [hq] at h; cases h
            | some xk =>
              obtain ⟨x, k⟩ := xk
              rw [hq] at h; cases h
              have := quoS_n r.length r [] 1 x n (Nat.le_refl _) hq
              simp only [List.length_cons]; omega
          · rw [if_neg h3] at h
            by_cases h4 : ofS c = 4
            · rw [if_pos h4] at h; cases h; simp
            · rw [if_neg h4] at h; cases h

theorem nameN_app (l m : List UInt8) : nameN (l ++ 10 :: m) = nameN l := by unfold nameN; rw [tw_app _ _ _ (by decide)]
theorem figN_app (l m : List UInt8) : figN (l ++ 10 :: m) = figN l := by unfold figN; rw [tw_app _ _ _ (by decide)]
theorem nameN_le (l : List UInt8) : nameN l ≤ l.length := (List.takeWhile_sublist _).length_le
theorem figN_le (l : List UInt8) : figN l ≤ l.length := (List.takeWhile_sublist _).length_le

/-- a line's end behind a text does not change what it begins with -/
theorem headS_app (c : UInt8) (r m : List UInt8) (at_ : Nat) : headS (c :: (r ++ 10 :: m)) c (r ++ 10 :: m) at_ = headS (c :: r) c r at_ := by
  have e0 : c :: (r ++ 10 :: m) = (c :: r) ++ 10 :: m := rfl
  unfold headS
  rw [e0, remN_app, nameN_app, figN_app, List.take_append_of_le_length (nameN_le _), List.take_append_of_le_length (figN_le _)]
  have : quoS (r ++ 10 :: m) [] 1 = quoS r [] 1 := by
    cases hq : quoS r [] 1 with
    | none => exact quoS_fail r.length r [] 1 m (Nat.le_refl _) hq
    | some res => exact quoS_app r.length r [] 1 res _ (Nat.le_refl _) hq
  rw [this]

theorem scan_nl (b : List UInt8) (at_ : Nat) (acc : List Tk) : scanGo (10 :: b) at_ acc = scanGo b (at_ + 1) acc := by
  rw [scan_skip (n := 1) (by unfold headS; rw [if_pos (by decide)])]; rfl

/-- a text that is scanned, and what is behind it -/
theorem scan_app : ∀ (n : Nat) (a b : List UInt8) (at_ : Nat) (acc l : List Tk) (p : Int), a.length ≤ n → scanGo a at_ acc = (l, 0, p) → scanGo (a ++ 10 :: b) at_ acc = scanGo b (at_ + a.length + 1) l := by
  intro n
  induction n with
  | zero =>
    intro a b at_ acc l p hn h
    cases a with
    | nil => rw [scan_end] at h; cases h; rw [List.nil_append, scan_nl]; rfl
    | cons => simp at hn
  | succ n ih =>
    intro a b at_ acc l p hn h
    cases a with
    | nil => rw [scan_end] at h; cases h; rw [List.nil_append, scan_nl]; rfl
    | cons c r =>
      simp only [List.length_cons] at hn
      rw [List.cons_append]
      cases hh : headS (c :: r) c r at_ with
      | none => rw [scan_bad hh] at h; cases h
      | some on =>
        obtain ⟨o, k⟩ := on
        have hk := headS_n hh
        simp only [List.length_cons] at hk
        have hh2 : headS (c :: (r ++ 10 :: b)) c (r ++ 10 :: b) at_ = some (o, k) := (headS_app c r b at_).trans hh
        have e1 : (r ++ 10 :: b).drop (k - 1) = r.drop (k - 1) ++ 10 :: b := List.drop_append_of_le_length (by omega)
        have e2 : at_ + k + (r.drop (k - 1)).length + 1 = at_ + (c :: r).length + 1 := by simp only [List.length_drop, List.length_cons]; omega
        cases o with
        | none =>
          rw [scan_skip hh] at h
          rw [scan_skip hh2, e1, ih _ b _ _ l p (by simp; omega) h, e2]
        | some t =>
          cases hl : (longS t.word t.text.length || (acc.length : Int) == 1024) with
          | true => rw [scan_lim hh hl] at h; cases h
          | false =>
            rw [scan_tok hh hl] at h
            rw [scan_tok hh2 hl, e1, ih _ b _ _ l p (by simp; omega) h, e2]

/-- a text that is refused is refused with anything behind it -/
theorem scan_fail : ∀ (n : Nat) (a b : List UInt8) (at_ : Nat) (acc : List Tk), a.length ≤ n → (scanGo a at_ acc).2.1 ≠ 0 → scanGo (a ++ 10 :: b) at_ acc = scanGo a at_ acc := by
  intro n
  induction n with
  | zero =>
    intro a b at_ acc hn h
    cases a with
    | nil => rw [scan_end] at h; exact absurd rfl h
    | cons => simp at hn
  | succ n ih =>
    intro a b at_ acc hn h
    cases a with
    | nil => rw [scan_end] at h; exact absurd rfl h
    | cons c r =>
      simp only [List.length_cons] at hn
      rw [List.cons_append]
      cases hh : headS (c :: r) c r at_ with
      | none => rw [scan_bad hh, scan_bad ((headS_app c r b at_).trans hh)]
      | some on =>
        obtain ⟨o, k⟩ := on
        have hk := headS_n hh
        simp only [List.length_cons] at hk
        have hh2 : headS (c :: (r ++ 10 :: b)) c (r ++ 10 :: b) at_ = some (o, k) := (headS_app c r b at_).trans hh
        have e1 : (r ++ 10 :: b).drop (k - 1) = r.drop (k - 1) ++ 10 :: b := List.drop_append_of_le_length (by omega)
        cases o with
        | none =>
          rw [scan_skip hh] at h ⊢
          rw [scan_skip hh2, e1]
          exact ih _ b _ _ (by simp; omega) h
        | some t =>
          cases hl : (longS t.word t.text.length || (acc.length : Int) == 1024) with
          | true => rw [scan_lim hh hl, scan_lim hh2 hl]
          | false =>
            rw [scan_tok hh hl] at h ⊢
            rw [scan_tok hh2 hl, e1]
            exact ih _ b _ _ (by simp; omega) h

def shiftT (n : Nat) (t : Tk) : Tk := ⟨t.word, t.text, t.at_ + n⟩

theorem headS_shift (c : UInt8) (r : List UInt8) (at_ n : Nat) : headS (c :: r) c r (at_ + n) = (headS (c :: r) c r at_).map (fun p => (p.1.map (shiftT n), p.2)) := by
  unfold headS
  by_cases h5 : ofS c = 5
  · rw [if_pos h5, if_pos h5]; rfl
  · rw [if_neg h5, if_neg h5]
    by_cases h6 : ofS c = 6
    · rw [if_pos h6, if_pos h6]; rfl
    · rw [if_neg h6, if_neg h6]
      by_cases h1 : ofS c = 1
      · rw [if_pos h1, if_pos h1]; simp [shiftT]
      · rw [if_neg h1, if_neg h1]
        by_cases h2 : ofS c = 2
        · rw [if_pos h2, if_pos h2]
          split
          · simp [shiftT]
          · rfl
        · rw [if_neg h2, if_neg h2]
          by_cases h3 : ofS c = 3
          · rw [if_pos h3, if_pos h3]
            cases quoS r [] 1 with
            | none => rfl
            | some xk => simp [shiftT]
          · rw [if_neg h3, if_neg h3]
            by_cases h4 : ofS c = 4
            · rw [if_pos h4, if_pos h4]; simp [shiftT]
            · rw [if_neg h4, if_neg h4]; rfl

/-- a text further on, behind other tokens -/
theorem scan_shift (n : Nat) (l : List Tk) : ∀ (k : Nat) (b : List UInt8) (at_ : Nat) (acc : List Tk), b.length ≤ k →
    (scanGo b at_ acc).2.1 = 2 ∨ (scanGo b (at_ + n) (l ++ acc.map (shiftT n))).2.1 = 2 ∨
    ((scanGo b at_ acc).2.1 = 0 ∧ (scanGo b (at_ + n) (l ++ acc.map (shiftT n))) = (l ++ (scanGo b at_ acc).1.map (shiftT n), 0, 0)) ∨
    ((scanGo b at_ acc).2.1 = 130 ∧ (scanGo b (at_ + n) (l ++ acc.map (shiftT n))) = ([], 130, (scanGo b at_ acc).2.2 + n)) := by
  intro k
  induction k with
  | zero =>
    intro b at_ acc hn
    cases b with
    | nil => rw [scan_end, scan_end]; exact .inr (.inr (.inl ⟨rfl, rfl⟩))
    | cons => simp at hn
  | succ k ih =>
    intro b at_ acc hn
    cases b with
    | nil => rw [scan_end, scan_end]; exact .inr (.inr (.inl ⟨rfl, rfl⟩))
    | cons c r =>
      simp only [List.length_cons] at hn
      have hs := headS_shift c r at_ n
      cases hh : headS (c :: r) c r at_ with
      | none =>
        rw [hh] at hs
        rw [scan_bad hh, scan_bad hs]
        exact .inr (.inr (.inr ⟨rfl, by simp⟩))
      | some on =>
        obtain ⟨o, j⟩ := on
        rw [hh] at hs
        have ha : at_ + n + j = at_ + j + n := by omega
        cases o with
        | none =>
          rw [scan_skip hh, scan_skip (n := j) hs, ha]
          exact ih _ _ _ (by simp; omega)
        | some t =>
          cases hl : (longS t.word t.text.length || (acc.length : Int) == 1024) with
          | true => rw [scan_lim hh hl]; exact .inl rfl
          | false =>
            cases hl2 : (longS (shiftT n t).word (shiftT n t).text.length || ((l ++ acc.map (shiftT n)).length : Int) == 1024) with
            | true => rw [scan_lim (t := shiftT n t) (n := j) hs hl2]; exact .inr (.inl rfl)
            | false =>
              rw [scan_tok hh hl, scan_tok (t := shiftT n t) (n := j) hs hl2, ha]
              have := ih (r.drop (j - 1)) (at_ + j) (acc ++ [t]) (by simp; omega)
              rw [List.map_append, ← List.append_assoc] at this
              exact this

theorem headS_at {c : UInt8} {r : List UInt8} {at_ : Nat} {t : Tk} {n : Nat} (h : headS (c :: r) c r at_ = some (some t, n)) : t.at_ = at_ := by
  unfold headS at h
  by_cases h5 : ofS c = 5
  · rw [if_pos h5] at h; cases h
  · rw [if_neg h5] at h
    by_cases h6 : ofS c = 6
    · rw [if_pos h6] at h; cases h
    · rw [if_neg h6] at h
      by_cases h1 : ofS c = 1
      · rw [if_pos h1] at h; cases h; rfl
      · rw [if_neg h1] at h
        by_cases h2 : ofS c = 2
        · rw [if_pos h2] at h
          split at h
          · cases h; rfl
          · cases h
        · rw [if_neg h2] at h
          by_cases h3 : ofS c = 3
          · rw [if_pos h3] at h
            cases hq : quoS r [] 1 with
            | none => rw [hq] at h; cases h
            | some xk =>
              obtain ⟨x, k⟩ := xk
              rw [hq] at h; cases h; rfl
          · rw [if_neg h3] at h
            by_cases h4 : ofS c = 4
            · rw [if_pos h4] at h; cases h; rfl
            · rw [if_neg h4] at h; cases h

theorem scan_bounds (X : Nat) : ∀ (k : Nat) (b : List UInt8) (at_ : Nat) (acc : List Tk), b.length ≤ k → at_ + b.length ≤ X → (∀ t, t ∈ acc → 0 ≤ t.at_ ∧ t.at_ ≤ X) →
    (0 ≤ (scanGo b at_ acc).2.2 ∧ (scanGo b at_ acc).2.2 ≤ X) ∧ (∀ t, t ∈ (scanGo b at_ acc).1 → 0 ≤ t.at_ ∧ t.at_ ≤ X) ∧ (scanGo b at_ acc).1.length ≤ acc.length + b.length := by
  intro k
  induction k with
  | zero =>
    intro b at_ acc hn hx ha
    cases b with
    | nil => rw [scan_end]; exact ⟨⟨by simp, by simp⟩, ha, by simp⟩
    | cons => simp at hn
  | succ k ih =>
    intro b at_ acc hn hx ha
    cases b with
    | nil => rw [scan_end]; exact ⟨⟨by simp, by simp⟩, ha, by simp⟩
    | cons c r =>
      simp only [List.length_cons] at hn hx ⊢
      cases hh : headS (c :: r) c r at_ with
      | none => rw [scan_bad hh]; exact ⟨⟨by simp, by simp only; omega⟩, (fun _ h => by cases h), by simp⟩
      | some on =>
        obtain ⟨o, j⟩ := on
        have hk := headS_n hh
        simp only [List.length_cons] at hk
        cases o with
        | none =>
          rw [scan_skip hh]
          have := ih (r.drop (j - 1)) (at_ + j) acc (by simp; omega) (by simp; omega) ha
          exact ⟨this.1, this.2.1, Nat.le_trans this.2.2 (by simp; omega)⟩
        | some t =>
          have hat := headS_at hh
          cases hl : (longS t.word t.text.length || (acc.length : Int) == 1024) with
          | true => rw [scan_lim hh hl]; exact ⟨⟨by simp, by simp only; omega⟩, (fun _ h => by cases h), by simp⟩
          | false =>
            rw [scan_tok hh hl]
            have := ih (r.drop (j - 1)) (at_ + j) (acc ++ [t]) (by simp; omega) (by simp; omega) (fun u hu => by
              rcases List.mem_append.1 hu with h | h
              · exact ha u h
              · rw [List.mem_singleton] at h; subst h; rw [hat]; omega)
            exact ⟨this.1, this.2.1, Nat.le_trans this.2.2 (by simp; omega)⟩

theorem scanS_bounds (s : List UInt8) : (0 ≤ (scanS s).2.2 ∧ (scanS s).2.2 ≤ 4096) ∧ (∀ t, t ∈ (scanS s).1 → 0 ≤ t.at_ ∧ t.at_ ≤ 4096) ∧ (scanS s).1.length ≤ 4096 := by
  unfold scanS
  split
  · exact ⟨⟨by simp, by simp⟩, (fun _ h => by cases h), by simp⟩
  · have := scan_bounds 4096 s.length s 0 [] (Nat.le_refl _) (by omega) (fun _ h => by cases h)
    exact ⟨this.1, this.2.1, Nat.le_trans this.2.2 (by simp; omega)⟩
end Go.Proofs.YtjgnpaifdbanjaaDoor
