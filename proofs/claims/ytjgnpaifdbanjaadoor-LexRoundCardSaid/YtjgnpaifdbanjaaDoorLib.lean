import Derived.Test.YtjgnpaifdbanjaaDoorLex0
import Derived.Test.YtjgnpaifdbanjaaDoorShelf
import Derived.Lib.AtoiErrMem
import Derived.Lib.SlTrimSet
set_option linter.unusedSimpArgs false
set_option linter.unusedVariables false
namespace Go.Proofs.YtjgnpaifdbanjaaDoor
open Go.RowKit

/-! calls into the library, over lists of bytes -/
def digB (c : UInt8) : Bool := (48 ≤ c.toNat) && (c.toNat ≤ 57)
def digs : List UInt8 := [48, 49, 50, 51, 52, 53, 54, 55, 56, 57]
theorem digs_contains (c : UInt8) : digs.contains c = digB c := by
  have : ∀ n : Fin 256, digs.contains (UInt8.ofNat n.val) = digB (UInt8.ofNat n.val) := by decide +kernel
  have h := this ⟨c.toNat, c.toNat_lt⟩
  simpa using h
theorem ascii_of {cs : List UInt8} (h : ascii cs) : ∀ (j : Nat) b, (⟨cs.toArray⟩ : ByteArray).data.toList[j]? = some b → b.toNat < 128 :=
  fun j b hb => h b (List.mem_of_getElem? (by simpa using hb))

/-- a text without the noughts at its end -/
def trimR0 (l : List UInt8) : List UInt8 := (l.reverse.dropWhile (· == 48)).reverse
def trimL0 (l : List UInt8) : List UInt8 := l.dropWhile (· == 48)

theorem TrimLeft_digs (s : List UInt8) (w : World) :
    Calls Tryd.prog 39 #[str s, .string ⟨#[48, 49, 50, 51, 52, 53, 54, 55, 56, 57]⟩] w fun e w' => e = .returned (str (s.dropWhile digB)) ∧ Below w.heap.size w w' := by
  refine (Any.strings_TrimLeft_laid Tryd.lays161 (by kernel_rfl) ⟨s.toArray⟩ ⟨#[48, 49, 50, 51, 52, 53, 54, 55, 56, 57]⟩ w (by decide) (ascii_of (cs := digs) (by unfold ascii digs; decide))).mono ?_
  rintro e w' ⟨rfl, hb⟩
  refine ⟨?_, hb⟩
  have : Lib.trimLeftS s digs = s.dropWhile digB := by
    unfold Lib.trimLeftS; congr 1; funext c; exact digs_contains c
  rw [← this]; rfl

theorem TrimLeft_0 (s : List UInt8) (w : World) :
    Calls Tryd.prog 39 #[str s, .string ⟨#[48]⟩] w fun e w' => e = .returned (str (trimL0 s)) ∧ Below w.heap.size w w' := by
  refine (Tryd.strings_TrimLeft_one ⟨s.toArray⟩ 48 (by decide) w).mono ?_
  rintro e w' ⟨rfl, rfl⟩
  exact ⟨rfl, Below.refl _ _⟩

theorem TrimRight_0 (s : List UInt8) (hs : s.length ≤ 1000000) (w : World) :
    Calls Tryd.prog 58 #[str s, .string ⟨#[48]⟩] w fun e w' => e = .returned (str (trimR0 s)) ∧ Below w.heap.size w w' := by
  refine (Tryd.strings_TrimRight_one ⟨s.toArray⟩ 48 (by decide) w (by rw [size_mk]; omega)).mono ?_
  rintro e w' ⟨rfl, rfl⟩
  exact ⟨rfl, Below.refl _ _⟩

theorem dropWhile_nil_iff {α : Type} (p : α → Bool) (l : List α) : l.dropWhile p = [] ↔ ∀ x, x ∈ l → p x = true := by
  induction l with
  | nil => simp
  | cons a l ih =>
    by_cases ha : p a = true
    · rw [List.dropWhile_cons_of_pos ha, ih]; simp [ha]
    · rw [List.dropWhile_cons_of_neg ha]; simp [ha]

theorem mem_takeWhile {α : Type} (p : α → Bool) (l : List α) (x : α) (h : x ∈ l.takeWhile p) : p x = true := by
  induction l with
  | nil => simp at h
  | cons a l ih =>
    by_cases ha : p a = true
    · rw [List.takeWhile_cons_of_pos ha, List.mem_cons] at h
      rcases h with rfl | h
      · exact ha
      · exact ih h
    · rw [List.takeWhile_cons_of_neg ha] at h; simp at h

/-- are all bytes in a set? -/
theorem trimS_empty (s cs : List UInt8) : Lib.trimS s cs = [] ↔ s.all (cs.contains ·) = true := by
  unfold Lib.trimS Lib.trimLeftS Lib.trimRightS
  rw [dropWhile_nil_iff, List.all_eq_true]
  constructor
  · intro h x hx
    by_cases hc : cs.contains x = true
    · exact hc
    · have hm : x ∈ s.reverse.takeWhile (cs.contains ·) ++ s.reverse.dropWhile (cs.contains ·) := by rw [List.takeWhile_append_dropWhile]; simpa using hx
      rcases List.mem_append.1 hm with h1 | h1
      · exact mem_takeWhile _ _ _ h1
      · exact h x (by simpa using h1)
  · intro h x hx
    exact h x (by have := (List.dropWhile_sublist _).mem (by simpa using hx); simpa using this)

theorem Trim_set (s cs : List UInt8) (hs : s.length ≤ 1000000) (hc : cs.length ≤ 1000000) (ha : ascii cs) (w : World) :
    Calls Tryd.prog 30 #[str s, str cs] w fun e w' => e = .returned (str (Lib.trimS s cs)) ∧ Below w.heap.size w w' :=
  (Any.strings_Trim_laid Tryd.lays160 (by kernel_rfl) ⟨s.toArray⟩ ⟨cs.toArray⟩ w (by rw [size_mk]; omega) (by rw [size_mk]; omega) (ascii_of ha))

theorem CutPrefix_l (s p : List UInt8) (w : World) :
    Calls Tryd.prog 36 #[str s, str p] w fun e w' => e = .returned (.tuple #[str (Lib.trimPrefix s p), .bool (Lib.hasPrefix s p)]) ∧ Below w.heap.size w w' :=
  (Tryd.strings_CutPrefix ⟨s.toArray⟩ ⟨p.toArray⟩ w).mono fun e w' ⟨h1, h2⟩ => ⟨h1, h2 ▸ Below.refl _ _⟩

theorem HasPrefix_l (s p : List UInt8) (w : World) :
    Calls Tryd.prog 29 #[str s, str p] w fun e w' => e = .returned (.bool (Lib.hasPrefix s p)) ∧ Below w.heap.size w w' :=
  (Tryd.strings_HasPrefix ⟨s.toArray⟩ ⟨p.toArray⟩ w).mono fun e w' ⟨h1, h2⟩ => ⟨h1, h2 ▸ Below.refl _ _⟩

theorem HasSuffix_l (s p : List UInt8) (hs : s.length ≤ 1000000) (w : World) :
    Calls Tryd.prog 71 #[str s, str p] w fun e w' => e = .returned (.bool (Lib.hasSuffix s p)) ∧ Below w.heap.size w w' :=
  (Tryd.strings_HasSuffix ⟨s.toArray⟩ ⟨p.toArray⟩ w (by rw [size_mk]; omega)).mono fun e w' ⟨h1, h2⟩ => ⟨h1, h2 ▸ Below.refl _ _⟩

theorem IndexByte_l (s : List UInt8) (c : UInt8) (n : Int) (hn : n = c.toNat) (w : World) :
    Calls Tryd.prog 19 #[str s, .int .u8 n] w fun e w' => e = .returned (.int .i64 (Lib.indexByte s c)) ∧ Below w.heap.size w w' :=
  (Tryd.strings_IndexByte ⟨s.toArray⟩ n w).mono fun e w' ⟨h1, h2⟩ => ⟨by rw [h1, hn]; simp, h2 ▸ Below.refl _ _⟩

theorem indexByte_in (l : List UInt8) (c : UInt8) : (0 ≤ Lib.indexByte l c) ↔ c ∈ l := by
  induction l with
  | nil => simp [Lib.indexByte]
  | cons b l ih =>
    have hge := Lib.indexByte_ge l c
    unfold Lib.indexByte
    by_cases hb : b = c
    · simp [hb]
    · have : (b == c) = false := by simpa using hb
      rw [this]
      simp only [Bool.false_eq_true, if_false, List.mem_cons]
      have hb' : ¬ c = b := fun h => hb h.symm
      simp only [hb', false_or, ← ih]
      split
      · rename_i h; rw [beq_iff_eq] at h; omega
      · rename_i h; rw [beq_iff_eq] at h; omega

/-- what decimal digits say -/
def decVal (l : List UInt8) : Nat := l.foldl (fun a c => a * 10 + (c.toNat - 48)) 0

theorem decFrom_digs (l : List UInt8) (h : l.all digB = true) : ∀ acc, Lib.decFrom acc l = some (l.foldl (fun a c => a * 10 + (c.toNat - 48)) acc) := by
  induction l with
  | nil => intro acc; rfl
  | cons c l ih =>
    intro acc
    simp only [List.all_cons, Bool.and_eq_true] at h
    have hd : Lib.digitVal c = some (c.toNat - 48) := by
      have hc := h.1
      have : ∀ n : Fin 256, digB (UInt8.ofNat n.val) = true → Lib.digitVal (UInt8.ofNat n.val) = some ((UInt8.ofNat n.val).toNat - 48) := by decide +kernel
      have := this ⟨c.toNat, c.toNat_lt⟩
      simp only [UInt8.ofNat_toNat] at this
      exact this hc
    simp only [Lib.decFrom, hd, List.foldl_cons]
    exact ih h.2 _

theorem Atoi_digs (l : List UInt8) (h : l.all digB = true) (h0 : l ≠ []) (hl : l.length ≤ 18) (w : World) :
    Calls Tryd.prog 40 #[str l] w fun e w' => e = .returned (.tuple #[.int .i64 (decVal l), .nilIface]) ∧ Below w.heap.size w w' := by
  refine (Tryd.strconv_Atoi ⟨l.toArray⟩ (decVal l) (by rw [size_mk]; exact hl) ?_ w).mono ?_
  · cases l with
    | nil => exact absurd rfl h0
    | cons c l =>
      have hc : digB c = true := by simp only [List.all_cons, Bool.and_eq_true] at h; exact h.1
      have h1 : (c == 45) = false := by
        rw [Bool.eq_false_iff]; intro hh; rw [beq_iff_eq] at hh; subst hh; revert hc; decide
      have h2 : (c == 43) = false := by
        rw [Bool.eq_false_iff]; intro hh; rw [beq_iff_eq] at hh; subst hh; revert hc; decide
      have hd : Lib.decNat (c :: l) = some (decVal (c :: l)) := by
        unfold Lib.decNat; rw [decFrom_digs _ h]; rfl
      show Lib.atoi (c :: l) = _
      simp only [Lib.atoi, h1, h2, hd]; simp
  · rintro e w' ⟨rfl, t, rfl⟩
    exact ⟨rfl, Lib.bytesWorld_below _ _ _⟩

end Go.Proofs.YtjgnpaifdbanjaaDoor
