import Derived.Test.YtjgnpaifdbanjaaDoorFacts
import Derived.Deep.LoopGhost
set_option linter.unusedSimpArgs false
set_option linter.unusedVariables false
namespace Go.Proofs.YtjgnpaifdbanjaaDoor
open Go.RowKit

/-- a text as a value -/
abbrev str (l : List UInt8) : Value := .string ⟨l.toArray⟩

theorem get!_eq (s : ByteArray) (p : Nat) (h : p < s.size) : s.get! p = s[p]'h := by
  simp [ByteArray.get!, ByteArray.getElem_eq_getElem_data, h, getElem!_pos]

theorem decode_low (s : ByteArray) (p : Nat) (h : p < s.size) (ha : (s[p]'h).toNat < 128) : Utf8.decode s p = ((s[p]'h).toNat, 1) := decode_ascii s p h ha

theorem decode_high (s : ByteArray) (p : Nat) (h : p < s.size) (ha : ¬ (s[p]'h).toNat < 128) : 128 ≤ (Utf8.decode s p).1 := by
  have e : (s.get! (p + 0)).toNat = (s[p]'h).toNat := by rw [Nat.add_zero, get!_eq s p h]
  unfold Utf8.decode
  simp only [e, if_neg ha, Utf8.runeError]
  repeat' split
  all_goals (first | omega | (simp only [Bool.and_eq_true, decide_eq_true_eq] at *; omega))

theorem decode_pos (s : ByteArray) (p : Nat) : 1 ≤ (Utf8.decode s p).2 := by
  unfold Utf8.decode
  simp only []
  repeat' split
  all_goals (first | omega | simp)

def ascii (l : List UInt8) : Prop := ∀ d, d ∈ l → d.toNat < 128

theorem dropWhile_at (p : UInt8 → Bool) (l : List UInt8) (k : Nat) (h1 : ∀ c, c ∈ l.take k → p c = true) (h2 : ∀ c, l[k]? = some c → p c = false) : l.drop k = l.dropWhile p := by
  induction l generalizing k with
  | nil => simp
  | cons a l ih =>
    cases k with
    | zero => have := h2 a rfl; simp [this]
    | succ k =>
      have ha := h1 a (by simp)
      rw [List.drop_succ_cons, List.dropWhile_cons_of_pos ha]
      exact ih k (fun c hc => h1 c (by simp [hc])) (fun c hc => h2 c (by simpa using hc))

@[simp, go_sem] theorem size_mk (l : List UInt8) : (ByteArray.mk l.toArray).size = l.length := by simp [ByteArray.size]
theorem getElem_mk (l : List UInt8) (p : Nat) (h : p < l.length) : (ByteArray.mk l.toArray)[p]'(by simpa using h) = l[p] := by
  simp [ByteArray.getElem_eq_getElem_data]
@[simp, go_sem] theorem getElem_mk' (l : List UInt8) (p : Nat) (h : p < (ByteArray.mk l.toArray).size) : (ByteArray.mk l.toArray)[p]'h = l[p]'(by simpa using h) := by
  simp [ByteArray.getElem_eq_getElem_data]
@[go_sem] theorem extract_mk (l : List UInt8) (a b : Nat) : (ByteArray.mk l.toArray).extract a b = ⟨((l.take b).drop a).toArray⟩ := by
  apply ByteArray.ext; simp [ByteArray.data_extract, List.extract_eq_take_drop, List.drop_take]

@[go_sem] theorem append_mk (a b : List UInt8) : (ByteArray.mk a.toArray ++ ByteArray.mk b.toArray) = ⟨(a ++ b).toArray⟩ := by
  apply ByteArray.ext; simp

/-- a text without the bytes of a set at its begin -/
def cutL (s set : List UInt8) : List UInt8 := s.dropWhile (set.contains ·)

theorem any_take_succ (set : List UInt8) (j : Nat) (h : j < set.length) (c : Nat) :
    ((set.take (j + 1)).any fun d => d.toNat == c) = (((set.take j).any fun d => d.toNat == c) || set[j].toNat == c) := by
  rw [List.take_succ_eq_append_getElem h, List.any_append]; simp

set_option maxHeartbeats 1000000 in
theorem cutLeft_calls (s set : List UInt8) (hs : s.length ≤ 1000000) (ht : set.length ≤ 1000000) (ha : ascii set) (w0 : World) :
    Calls Tryd.prog 26 #[str s, str set] w0 fun e w' => e = .returned (str (cutL s set)) ∧ Below w0.heap.size w0 w' := by
  have T := Tr.start (St.nil (w := w0) (H := fun _ => none) (fun _ _ _ h => by cases h))
  have Ha := hid ha; clear ha
  go_enter Tryd.func26, Tryd.ntmps26
  go_wp2_with (first
    | ((with_reducible refine is_range ?_); (refine op_range_str ?_ rfl Tryd.underlying9 T ?_; focus (first | exact fun _ => rfl | (refine wanted_of rfl ?_; first | rfl | assumption | (rw [Bool.eq_false_iff]; assumption) | (simp only [decide_eq_false_iff_not, decide_eq_true_eq]; omega) | (simp; done) | (simp; omega) | (simp_all; done)))); clear T; intro w b T; (try simp only [Act.put, List.setIfInBounds_toArray, List.set_cons_succ, List.set_cons_zero])))
  obtain ⟨bs, rfl⟩ : ∃ x, x = b := ⟨_, rfl⟩
  go_loopg [] (s.length + 1) (fun n wr => ∃ p, p ≤ s.length ∧ n = s.length + 1 - p ∧ (∀ c, c ∈ s.take p → set.contains c = true) ∧ Tr w0 (fun _ => none) [] wr (fun _ => none) [(bs, .stringIter ⟨s.toArray⟩ p)])
  case atStart => exact ⟨0, by omega, by omega, by simp, T⟩
  case round =>
    clear T
    obtain ⟨p, hp, hn, hall, T⟩ := hrel
    have Hall := hid hall; have Hn := hid hn; clear hall hn
    go_wp2_with (first
    | ((with_reducible refine is_range ?_); (refine op_range_str ?_ rfl Tryd.underlying9 T ?_; focus (first | exact fun _ => rfl | (refine wanted_of rfl ?_; first | rfl | assumption | (rw [Bool.eq_false_iff]; assumption) | (simp only [decide_eq_false_iff_not, decide_eq_true_eq]; omega) | (simp; done) | (simp; omega) | (simp_all; done)))); clear T; intro w b T; (try simp only [Act.put, List.setIfInBounds_toArray, List.set_cons_succ, List.set_cons_zero]))
    | ((with_reducible refine is_next ?_); refine op_next_str 0 (fun _ => rfl) T rfl rfl (fun hend => ?_) (fun hlt w T => ?_) <;> (try simp only [puts, Value.cells, List.set_cons_zero, List.set_cons_succ, List.setIfInBounds_toArray, Nat.reduceAdd, Nat.zero_add] at T); (try simp only [Act.put, List.setIfInBounds_toArray, List.set_cons_succ, List.set_cons_zero])))
    · have e : p = s.length := by simp only [size_mk] at hend; omega
      go_ret
      refine ⟨congrArg Ending.returned ?_, T.below⟩
      show str [] = _
      unfold cutL
      rw [← dropWhile_at (set.contains ·) s s.length (fun c hc => Hall.out c (by rw [e]; exact hc)) (by simp)]; simp
    · have hp2 : p < s.length := by simpa only [size_mk] using hlt
      clear hlt
      generalize hd : Utf8.decode ⟨s.toArray⟩ p = cw at *
      obtain ⟨c, n⟩ := cw
      have Hd := hid hd; clear hd
      go_loopg [7] (set.length + 1) (fun m x wr => ∃ j, j ≤ set.length ∧ m = set.length + 1 - j ∧ x = .bool ((set.take j).any fun d => d.toNat == c) ∧
        Tr w0 (fun _ => none) [] wr (fun _ => none) [(b, .stringIter ⟨set.toArray⟩ j), (bs, .stringIter ⟨s.toArray⟩ (p + n))])
      case atStart => exact ⟨0, by omega, by omega, by simp, T⟩
      case round =>
        clear T
        obtain ⟨j, hj, hm, rfl, T⟩ := hrel
        have Hm := hid hm; clear hm
        have hdec : ∀ h : j < set.length, Utf8.decode ⟨set.toArray⟩ j = (set[j].toNat, 1) := fun h => by
          rw [decode_low _ _ (by simpa using h) (by rw [getElem_mk _ _ h]; exact Ha.out _ (List.getElem_mem h)), getElem_mk _ _ h]
        have Hdec := hid hdec; clear hdec
        have hfin : j = set.length → ∀ x, ((set.take j).any fun d => d.toNat == c) = x → (set.contains s[p] = x ∧ (x = true → n = 1)) := by
          rintro rfl x hx
          rw [List.take_length] at hx
          have hdc := Hd.out
          by_cases hlow : s[p].toNat < 128
          · rw [decode_low _ _ (by simpa using hp2) (by rw [getElem_mk _ _ hp2]; exact hlow), getElem_mk _ _ hp2] at hdc
            cases hdc
            refine ⟨?_, fun _ => rfl⟩
            rw [← hx, Bool.eq_iff_iff, List.any_eq_true, List.contains_iff_exists_mem_beq]
            constructor
            · rintro ⟨d, hd, he⟩; exact ⟨d, hd, by simp at he; simp [he]⟩
            · rintro ⟨d, hd, he⟩; exact ⟨d, hd, by simp only [beq_iff_eq] at he ⊢; exact (UInt8.toNat_inj.1 he).symm⟩
          · have hh := decode_high ⟨s.toArray⟩ p (by simpa using hp2) (by rw [getElem_mk _ _ hp2]; exact hlow)
            rw [hdc] at hh
            have h1 : x = false := by
              rw [← hx, Bool.eq_false_iff]; intro h
              obtain ⟨d, hd, he⟩ := List.any_eq_true.1 h
              have := Ha.out d hd
              simp only [beq_iff_eq] at he; simp only at hh; omega
            subst h1
            refine ⟨?_, fun h => by cases h⟩
            rw [Bool.eq_false_iff]; intro h
            rw [List.contains_iff_exists_mem_beq] at h
            obtain ⟨d, hd, he⟩ := h
            simp only [beq_iff_eq] at he
            have := Ha.out d hd
            rw [← he] at this; exact hlow this
        have Hfin := hid hfin; clear hfin
        cases hx : (set.take j).any fun d => d.toNat == c
        · have Hx := hid hx; clear hx
          go_wp2_with (first
    | ((with_reducible refine is_next ?_); refine op_next_str 0 (fun _ => rfl) T rfl rfl (fun hend => ?_) (fun hlt w T => ?_) <;> (try simp only [puts, Value.cells, List.set_cons_zero, List.set_cons_succ, List.setIfInBounds_toArray, Nat.reduceAdd, Nat.zero_add] at T); (try simp only [Act.put, List.setIfInBounds_toArray, List.set_cons_succ, List.set_cons_zero])))
          · have e : j = set.length := by simp only [size_mk] at hend; omega
            go_ret
            refine ⟨congrArg Ending.returned ?_, T.below⟩
            show Value.string _ = _
            (try rw [extract_mk, List.take_length]); show str _ = _
            unfold cutL
            rw [dropWhile_at (set.contains ·) s p (fun c hc => Hall.out c hc) (fun c hc => by
              rw [List.getElem?_eq_getElem hp2] at hc
              cases hc; exact ((Hfin.out e _ Hx.out).1))]
          · have hj2 : j < set.length := by simpa only [size_mk] using hlt
            rw [Hdec.out hj2] at T ⊢
            go_roundg (set.length - j)
            case measure => have := Hm.out; omega
            case rel =>
              refine ⟨j + 1, by omega, by omega, ?_, T⟩
              rw [any_take_succ _ _ hj2, Hx.out]
              simp only [Bool.false_or, Value.bool.injEq]
              rw [Bool.eq_iff_iff]; simp only [beq_iff_eq]; omega
        · have Hx := hid hx; clear hx
          go_wp2_with (first
    | ((with_reducible refine is_next ?_); refine op_next_str 0 (fun _ => rfl) T rfl rfl (fun hend => ?_) (fun hlt w T => ?_) <;> (try simp only [puts, Value.cells, List.set_cons_zero, List.set_cons_succ, List.setIfInBounds_toArray, Nat.reduceAdd, Nat.zero_add] at T); (try simp only [Act.put, List.setIfInBounds_toArray, List.set_cons_succ, List.set_cons_zero])))
          · have e : j = set.length := by simp only [size_mk] at hend; omega
            have hf := Hfin.out e _ Hx.out
            obtain ⟨hc, hn⟩ := hf
            cases hn rfl
            go_roundg (s.length - p)
            case measure => have := Hn.out; omega
            case rel =>
              refine ⟨p + 1, by omega, by omega, ?_, T.drop⟩
              intro c' hc'
              rw [List.take_succ_eq_append_getElem hp2, List.mem_append] at hc'
              rcases hc' with h | h
              · exact Hall.out c' h
              · rw [List.mem_singleton] at h; rw [h]; exact hc
          · have hj2 : j < set.length := by simpa only [size_mk] using hlt
            rw [Hdec.out hj2] at T
            go_roundg (set.length - j)
            case measure => have := Hm.out; omega
            case rel =>
              refine ⟨j + 1, by omega, by omega, ?_, T⟩
              rw [any_take_succ _ _ hj2, Hx.out]; rfl

end Go.Proofs.YtjgnpaifdbanjaaDoor
