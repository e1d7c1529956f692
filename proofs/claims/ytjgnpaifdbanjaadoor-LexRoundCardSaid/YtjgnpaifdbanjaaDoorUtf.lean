import Derived.Test.YtjgnpaifdbanjaaDoorUtf0
import Derived.Lib.TrimU
set_option linter.unusedSimpArgs false
set_option linter.unusedVariables false
namespace Go.Proofs.YtjgnpaifdbanjaaDoor
open Go.RowKit
set_option maxRecDepth 100000

/-- the character that a text begins with, and how many bytes it has -/
def u8dec (l : List UInt8) : Option (Nat × Nat) :=
  if (Lib.decodeGo ⟨l.toArray⟩).1 = 65533 ∧ (Lib.decodeGo ⟨l.toArray⟩).2 = 1 then none
  else if l = [] then none else some (Lib.decodeGo ⟨l.toArray⟩)

def decRes (l : List UInt8) (e : Ending) : Prop :=
  match u8dec l with
  | some (c, n) => e = .returned (.tuple #[.int .i64 c, .int .i64 n, .int .i64 0])
  | none => e = .returned (.tuple #[.int .i64 0, .int .i64 0, .int .i64 30]) ∨ e = .returned (.tuple #[.int .i64 0, .int .i64 0, .int .i64 31])

set_option maxHeartbeats 4000000 in
theorem Decode_calls (H : Hp) (hT : Tabs H) (s : List UInt8) (at_ : Nat) (hs : s.length ≤ 1000000) (ha : at_ < s.length) (w0 : World) (hin : H.In w0) :
    Calls Tryd.prog 28 #[str s, .int .i64 at_] w0 fun e w' => decRes (s.drop at_) e ∧ Below w0.heap.size w0 w' := by
  have T := Tr.start (St.nil hin)
  have hne : s.drop at_ ≠ [] := by intro h; have := congrArg List.length h; simp at this; omega
  have hlen : (s.drop at_).length ≤ 1000000 := by simp; omega
  obtain ⟨r, hr⟩ : ∃ r, Lib.decodeGo ⟨(s.drop at_).toArray⟩ = r := ⟨_, rfl⟩
  obtain ⟨c, n⟩ := r
  have hcl : c ≤ 1114111 := by
    have h := hr
    unfold Lib.decodeGo at h
    split at h
    · cases h; omega
    · have := Lib.rune_le ⟨(s.drop at_).toArray⟩ 0; rw [h] at this; exact this
  have HT := hid hT; clear hT
  have Hr := hid hr; clear hr
  have Hne := hid hne; clear hne
  have Hlen := hid hlen; clear hlen
  go_enter Tryd.func28, Tryd.ntmps28
  go_upto_region 4 with (first
    | (go_at_call 42; refine (Tryd.utf8_DecodeRuneInString ⟨(s.drop at_).toArray⟩ _ (HT.out _ T.inn)).mono ?_; rintro e w ⟨rfl, hb⟩; replace T := T.of_below hb; clear hb; rw [Hr.out]))
  by_cases h : c = 65533 ∧ n = 1
  · have hres : u8dec (s.drop at_) = none := by unfold u8dec; rw [Hr.out]; exact if_pos h
    obtain ⟨rfl, rfl⟩ := h
    have Hres := hid hres; clear hres
    go_upto_region 7 with (first
    | (go_at_call 43; refine (FullRune_calls _ HT.out _ Hlen.out _ T.inn).mono ?_; rintro e w ⟨⟨fr, rfl⟩, hb⟩; replace T := T.of_below hb; clear hb))
    all_goals
      go_wp2
      (try simp only [Exit.inBlock, Exit.then]); refine ret3_of rfl rfl rfl rfl rfl ?_
      refine ⟨?_, T.below⟩
      unfold decRes; rw [Hres.out]
      first | exact .inl rfl | exact .inr rfl
  · have hres : u8dec (s.drop at_) = some (c, n) := by unfold u8dec; rw [Hr.out, if_neg h, if_neg Hne.out]
    have Hres := hid hres; clear hres
    by_cases hc : c = 65533
    · have hn : ¬ n = 1 := fun hn => h ⟨hc, hn⟩
      clear h
      subst hc
      have hb2 : ((n : Int) != 1) = true := by rw [bne_iff_ne]; omega
      clear hn
      go_wp2
      (try simp only [Exit.inBlock, Exit.then]); refine ret3_of rfl rfl rfl rfl rfl ?_
      refine ⟨?_, T.below⟩
      unfold decRes; rw [Hres.out]; try rfl
    · have hb1 : ((c : Int) != 65533) = true := by rw [bne_iff_ne]; omega
      clear h hc
      go_wp2
      (try simp only [Exit.inBlock, Exit.then]); refine ret3_of rfl rfl rfl rfl rfl ?_
      refine ⟨?_, T.below⟩
      unfold decRes; rw [Hres.out]; try rfl

/-- a character's bytes -/
def u8enc (r : Int) : Option (List UInt8) := if 0 ≤ r ∧ r ≤ 1114111 ∧ Lib.validRune r = true then some (Utf8.encode r).data.toList else none

theorem validRune_neg (r : Int) (h : Lib.validRune r = true) : 0 ≤ r ∧ r ≤ 1114111 := by
  unfold Lib.validRune at h; simp at h; omega

def encRes (r : Int) : Value := match u8enc r with
  | some l => .tuple #[str l, .int .i64 0]
  | none => .tuple #[str [], .int .i64 1]

set_option maxHeartbeats 4000000 in
theorem Encode_calls (r : Int) (h1 : -1000000000 ≤ r) (h2 : r ≤ 1000000000) (w0 : World) :
    Calls Tryd.prog 32 #[.int .i64 r] w0 fun e w' => e = .returned (encRes r) ∧ Below w0.heap.size w0 w' := by
  have T := Tr.start (St.nil (w := w0) (H := fun _ => none) (fun _ _ _ h => by cases h))
  by_cases hr : 0 ≤ r ∧ r ≤ 1114111
  · obtain ⟨ha, hb⟩ := hr
    obtain ⟨v, hv⟩ : ∃ v, Lib.validRune r = v := ⟨_, rfl⟩
    have Hv := hid hv; clear hv
    have hb1 : decide (r < 0) = false := decide_eq_false (by omega)
    have hb2 : decide (1114111 < r) = false := decide_eq_false (by omega)
    cases v
    · go_enter Tryd.func32, Tryd.ntmps32
      go_wp2_with (first
      | (go_at_call 54; refine (Tryd.utf8_ValidRune r _).mono ?_; rintro e w ⟨rfl, rfl⟩; rw [Hv.out]))
      (try simp only [Exit.inBlock, Exit.then]); refine ret2_of rfl rfl rfl rfl ?_
      exact ⟨by simp only [encRes, u8enc, Hv.out]; simp, T.below⟩
    · have he : encRes r = .tuple #[.string (Utf8.encode r), .int .i64 0] := by
        unfold encRes u8enc; rw [if_pos ⟨ha, hb, Hv.out⟩]
      have He := hid he; clear he
      go_enter Tryd.func32, Tryd.ntmps32
      go_wp2_with (first
      | (go_at_call 54; refine (Tryd.utf8_ValidRune r _).mono ?_; rintro e w ⟨rfl, rfl⟩; rw [Hv.out]))
      (try simp only [Exit.inBlock, Exit.then]); refine ret2_of rfl rfl rfl rfl ?_
      exact ⟨by rw [He.out], T.below⟩
  · have hr' : r < 0 ∨ 1114111 < r := by omega
    have he : encRes r = .tuple #[str [], .int .i64 1] := by
      unfold encRes u8enc; rw [if_neg (by omega)]
    clear hr
    have He := hid he; clear he
    go_enter Tryd.func32, Tryd.ntmps32
    rcases hr' with h | h
    · have hb1 : decide (r < 0) = true := decide_eq_true h
      go_wp2
      (try simp only [Exit.inBlock, Exit.then]); refine ret2_of rfl rfl rfl rfl ?_
      exact ⟨by rw [He.out], T.below⟩
    · have hb1 : decide (r < 0) = false := decide_eq_false (by omega)
      have hb2 : decide (1114111 < r) = true := decide_eq_true h
      go_wp2
      (try simp only [Exit.inBlock, Exit.then]); refine ret2_of rfl rfl rfl rfl ?_
      exact ⟨by rw [He.out], T.below⟩

theorem Valid_calls (H : Hp) (hT : Tabs H) (s : List UInt8) (hs : s.length ≤ 1000000) (w0 : World) (hin : H.In w0) :
    Calls Tryd.prog 23 #[str s] w0 fun e w' => e = .returned (.bool (Lib.validD s)) ∧ Below w0.heap.size w0 w' := by
  have T := Tr.start (St.nil hin)
  have HT := hid hT; clear hT
  have hs' : (⟨s.toArray⟩ : ByteArray).size ≤ 9223372036854775807 := by rw [size_mk]; omega
  have Hs' := hid hs'; clear hs'
  go_enter Tryd.func23, Tryd.ntmps23
  go_wp2_with (first
    | (go_at_call 33; refine (Any.utf8_ValidString Tryd.lays196 ⟨s.toArray⟩ _ Hs'.out (HT.out _ T.inn)).mono ?_; rintro e w ⟨rfl, hb⟩; replace T := T.of_below hb; clear hb))
  (try simp only [Exit.inBlock, Exit.then]); refine ret1_of rfl rfl rfl ?_
  exact ⟨rfl, T.below⟩
end Go.Proofs.YtjgnpaifdbanjaaDoor
